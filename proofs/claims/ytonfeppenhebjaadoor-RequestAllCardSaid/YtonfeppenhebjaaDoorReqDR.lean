/- Package request: DecodeReply. (Printed by gen_reqdr.py of this session.) -/
import Derived.Test.YtonfeppenhebjaaDoorReqD
import Derived.Test.YtonfeppenhebjaaDoorReqER
namespace Go.Proofs.YtonfeppenhebjaaDoor
open Go Go.RowKit
set_option linter.unusedVariables false
set_option linter.unusedSimpArgs false
attribute [local go_sem] IntKind.wrap_u64 c64_8 c8_64 c16_64 c32_64 c64_16 c64_32 or8 and8 n64_self n8_self beq_n64 beq_n8 bne_n8 bne_n64 beq_n64_0 bne_n64_0 wrap_b8

/-- an answer, or an error's number: what is left must be nothing -/
def ansOr (a : Ans) (k : Nat) : Ans × Nat := if k ≠ 0 then (ansZ, k) else (a, 0)
def decR3 (n : Nat) (a : UInt64 × List UInt8 × Nat) (P : Pol × Nat × List UInt8 × Nat) : Ans × Nat :=
  if P.2.1 ≠ 0 then (ansZ, P.2.1) else
  let x := fixedS P.2.2.1 P.2.2.2 8
  let y := fixedS x.2.1 x.2.2 8
  let z := fixedS y.2.1 y.2.2 8
  ansOr ⟨3, ⟨0, a.1, 0, P.1, ⟨x.1, y.1, z.1⟩⟩⟩ (endE z.2.1 z.2.2 n)
def decRC (n : Nat) (op code : Nat) (rest : List UInt8) (f : Nat) : Ans × Nat :=
  let a := fixedS rest f 8
  let r := fixedS a.2.1 a.2.2 8
  if op = 2 ∧ code = 1 then ansOr ⟨2, ⟨1, a.1, r.1, polZ, levZ⟩⟩ (endE r.2.1 r.2.2 n)
  else if op = 2 ∧ code = 0 then ansOr ⟨2, ⟨0, a.1, 0, polZ, levZ⟩⟩ (endE a.2.1 a.2.2 n)
  else if op = 3 ∧ code = 0 then decR3 n a (takePolS a.2.1 a.2.2)
  else ansOr ⟨(op : Int), ⟨(code : Int), 0, 0, polZ, levZ⟩⟩ (endE rest f n)
def decR2 (n : Nat) (op : Nat) (c : UInt64 × List UInt8 × Nat) : Ans × Nat :=
  if c.2.2 ≠ 0 then (ansZ, fault c.2.2) else
  if pairS (op : Int) (c.1.toUInt8.toNat : Int) = false then (ansZ, 3) else decRC n op c.1.toUInt8.toNat c.2.1 0
def decRQ (n : Nat) (q : UInt64 × List UInt8 × Nat) : Ans × Nat :=
  if q.2.2 ≠ 0 then (ansZ, fault q.2.2) else
  if 5 < q.1.toUInt8.toNat then (ansZ, 3) else decR2 n q.1.toUInt8.toNat (fixedS q.2.1 0 1)
/-- the reply of a payload, or an error's number -/
def decR (b : List UInt8) : Ans × Nat := decRQ b.length (fixedS b 0 1)
/-- what DecodeReply gives -/
def GaveA (p : Nat → Addr) (w w' : World) (e : Ending) (r : Ans × Nat) : Prop := e = .returned (.tuple #[.agg (ansA r.1), errv p r.2]) ∧ Below w.heap.size w w'
theorem fiveG_other {W : World} {n x : Nat} {o : Option Obj} (h : W.heap[x]? = o) (hx : x ≠ n) (i1 i2 i3 i4 i5 : Nat) (v0 v1 v2 v3 v4 : Value) : (((((W.setCell ⟨n, i1, none⟩ v0).setCell ⟨n, i2, none⟩ v1).setCell ⟨n, i3, none⟩ v2).setCell ⟨n, i4, none⟩ v3).setCell ⟨n, i5, none⟩ v4).heap[x]? = o := by
  rw [Below.heap_setCell _ _ _ x hx, Below.heap_setCell _ _ _ x hx, Below.heap_setCell _ _ _ x hx, Below.heap_setCell _ _ _ x hx, Below.heap_setCell _ _ _ x hx]; exact h
theorem rd_fiveG {W : World} {B g : Nat} {rest : List UInt8} {f : Value} (h : Rd W B g rest f) {n T : Nat} {cs : Array Value} (hb : W.heap[n]? = some (.cells cs T (0, 0))) (hT : T ≠ 98) (hn : noByte cs = true) (i1 i2 i3 i4 i5 : Nat) (v0 v1 v2 v3 v4 : Value) :
    Rd (((((W.setCell ⟨n, i1, none⟩ v0).setCell ⟨n, i2, none⟩ v1).setCell ⟨n, i3, none⟩ v2).setCell ⟨n, i4, none⟩ v3).setCell ⟨n, i5, none⟩ v4) B g rest f := by
  refine rd_frame h fun x => ?_
  by_cases hx : x = n
  · subst hx; exact .inr ⟨cs, T, hb, hT, hn⟩
  · exact .inl (fiveG_other rfl hx _ _ _ _ _ _ _ _ _ _)
theorem fiveG_below {W a : World} {B n : Nat} (h : Below B a W) (hn : B ≤ n) (i1 i2 i3 i4 i5 : Nat) (v0 v1 v2 v3 v4 : Value) :
    Below B a (((((W.setCell ⟨n, i1, none⟩ v0).setCell ⟨n, i2, none⟩ v1).setCell ⟨n, i3, none⟩ v2).setCell ⟨n, i4, none⟩ v3).setCell ⟨n, i5, none⟩ v4) := ((((h.setCell hn _).setCell hn _).setCell hn _).setCell hn _).setCell hn _
theorem set12_below {W a : World} {B n : Nat} (h : Below B a W) (hn : B ≤ n) (v0 v1 v2 v3 v4 v5 v6 v7 v8 v9 v10 v11 : Value) :
    Below B a ((((((((((((W.setCell ⟨n, 0, none⟩ v0).setCell ⟨n, 1, none⟩ v1).setCell ⟨n, 2, none⟩ v2).setCell ⟨n, 3, none⟩ v3).setCell ⟨n, 4, none⟩ v4).setCell ⟨n, 5, none⟩ v5).setCell ⟨n, 6, none⟩ v6).setCell ⟨n, 7, none⟩ v7).setCell ⟨n, 8, none⟩ v8).setCell ⟨n, 9, none⟩ v9).setCell ⟨n, 10, none⟩ v10).setCell ⟨n, 11, none⟩ v11) :=
  (((((((((((h.setCell hn _).setCell hn _).setCell hn _).setCell hn _).setCell hn _).setCell hn _).setCell hn _).setCell hn _).setCell hn _).setCell hn _).setCell hn _).setCell hn _

set_option maxRecDepth 100000 in
set_option maxHeartbeats 6400000 in
theorem decR_fault (A : Option Addr) (c : Nat) (b : List UInt8) (p : Nat → Addr) (w : World) (hp : E4 w p) (hl : b.length ≤ 140737488351232) (hA : Cells w A (Bs b)) (hf : (fixedS b 0 1).2.2 ≠ 0) :
    Calls Tryd.prog 14 #[.slice A b.length c] w fun e w' => GaveA p w w' e (decR b) := by
  have hbx : Below w.heap.size w (w.alloc (.cells #[.int .i64 0, .int .i64 0, .int .u64 0, .int .u64 0, .int .i64 0, .int .u64 0, .int .u64 0, .int .u64 0, .int .u64 0, .int .u64 0, .int .u64 0, .int .u64 0] 36)) := (Below.refl _ _).alloc (Nat.le_refl _) _
  have HBX := Go.Lib.hid hbx
  have HNR := Go.Lib.hid (newReader_calls A c b (w.alloc (.cells #[.int .i64 0, .int .i64 0, .int .u64 0, .int .u64 0, .int .i64 0, .int .u64 0, .int .u64 0, .int .u64 0, .int .u64 0, .int .u64 0, .int .u64 0, .int .u64 0] 36)) (by omega) (cells_below hbx hA))
  have HP := Go.Lib.hid hp
  have HG := Go.Lib.hid (gb_of hp)
  have HN0 := Go.Lib.hid (heap_here w (.cells #[.int .i64 0, .int .i64 0, .int .u64 0, .int .u64 0, .int .i64 0, .int .u64 0, .int .u64 0, .int .u64 0, .int .u64 0, .int .u64 0, .int .u64 0, .int .u64 0] 36) w.heap.size rfl)
  have HT : Hid (decR b = decRQ b.length (fixedS b 0 1)) := rfl
  have HF := Go.Lib.hid hf
  clear hbx hA hp hf
  go_enter Tryd.func14, Tryd.ntmps14
  go_wp2_with fail
  refine HNR.out.mono ?_
  rintro e w1 ⟨g, rfl, hr1, hb1⟩
  have HR1 := Go.Lib.hid (show Rd w1 (w.alloc (.cells #[.int .i64 0, .int .i64 0, .int .u64 0, .int .u64 0, .int .i64 0, .int .u64 0, .int .u64 0, .int .u64 0, .int .u64 0, .int .u64 0, .int .u64 0, .int .u64 0] 36)).heap.size g b (fv (p 2) (p 3) 0) from hr1)
  have HB1 := Go.Lib.hid (below_then HBX.out hb1)
  have HN1 := Go.Lib.hid (below_heap hb1 HN0.out)
  have hB0 : (w.alloc (.cells #[.int .i64 0, .int .i64 0, .int .u64 0, .int .u64 0, .int .i64 0, .int .u64 0, .int .u64 0, .int .u64 0, .int .u64 0, .int .u64 0, .int .u64 0, .int .u64 0] 36)).heap.size = w.heap.size + 1 := by simp
  rw [hB0] at HR1
  have hgg : w.heap.size < g := by have := rd_lt HR1.out; omega
  have hgw1 : g < w1.heap.size := (rd_lt HR1.out).2
  clear hr1 hb1 HNR HBX HN0 hB0
  go_wp2_with fail
  refine (u8_calls w1 (w.heap.size + 1) g (p 2) (p 3) b 0 (e4_two (e4_below HP.out HB1.out)) HR1.out).mono ?_
  rintro e w2 ⟨rfl, h1, h2⟩
  have HR2 := Go.Lib.hid h1
  have HB2 := Go.Lib.hid (HB1.out.trans (h2.below (B := w.heap.size) (by omega)))
  have HN2 := Go.Lib.hid (keep_heap (keep_only h2) HN1.out (by omega))
  have hs2 : w2.heap.size = w1.heap.size := h2.2.2.2.1
  have hgw2 : g < w2.heap.size := by omega
  have hnw2 : w.heap.size < w2.heap.size := by omega
  clear h1 h2 HR1 HB1 HN1 hs2 hgw1
  generalize fixedS b 0 1 = q at *
  obtain ⟨u, r1, f1⟩ := q
  have hf := HF.out
  clear HF
  simp only at HR2 HT hf ⊢
  generalize hbu : u.toUInt8 = b0 at *
  have HBU := Go.Lib.hid hbu
  clear hbu
  have hb0 : 0 ≤ n8 b0 := by unfold n8; omega
  have hb1 : n8 b0 < 256 := by unfold n8; have := b0.toNat_lt; omega
  have HF := Go.Lib.hid hf
  clear hf
  cases f1 with
  | zero => exact absurd rfl HF.out
  | succ m =>
    obtain ⟨a, ha, he⟩ := fv_iface p m
    have hT : decRQ b.length (u, r1, m + 1) = (ansZ, fault (m + 1)) := by unfold decRQ; rw [if_pos (by simp)]
    have HT2 := Go.Lib.hid (HT.out.trans hT)
    have HE := Go.Lib.hid he
    clear hT HT he
    obtain ⟨W2, hW2⟩ : ∃ W2, W2 = w2.alloc (.cells #[.int .i64 (n8 b0), .int .i64 0, .int .u64 0, .int .u64 0, .int .i64 0, .int .u64 0, .int .u64 0, .int .u64 0, .int .u64 0, .int .u64 0, .int .u64 0, .int .u64 0] 36) := ⟨_, rfl⟩
    have hR3 : Rd W2 (w.heap.size + 1) g r1 (fv (p 2) (p 3) (m + 1)) := by rw [hW2]; exact rd_alloc HR2.out _
    have hB3 : Below w.heap.size w W2 := by rw [hW2]; exact HB2.out.alloc HB2.out.size _
    have hn2 : W2.heap[w.heap.size]? = some (.cells #[.int .i64 0, .int .i64 0, .int .u64 0, .int .u64 0, .int .i64 0, .int .u64 0, .int .u64 0, .int .u64 0, .int .u64 0, .int .u64 0, .int .u64 0, .int .u64 0] 36 (0, 0)) := by rw [hW2]; exact below_heap ((Below.refl _ _).alloc (Nat.le_refl _) _) HN2.out
    have hn5 : W2.heap[w2.heap.size]? = some (.cells #[.int .i64 (n8 b0), .int .i64 0, .int .u64 0, .int .u64 0, .int .i64 0, .int .u64 0, .int .u64 0, .int .u64 0, .int .u64 0, .int .u64 0, .int .u64 0, .int .u64 0] 36 (0, 0)) := by rw [hW2]; exact heap_here _ _ _ rfl
    have HR3 := Go.Lib.hid hR3
    have HB3 := Go.Lib.hid hB3
    have HY := Go.Lib.hid hn2
    have HX := Go.Lib.hid hn5
    clear hR3 hB3 hn2 hn5 HR2 HB2 HN2
    go_wp2_with fail
    rw [← hW2]
    clear hW2
    rw [ha] at HR3
    clear ha
    obtain ⟨y0, y1, y2, y3, y4, y5, y6, y7, y8, y9, y10, y11⟩ := box12 HY.out
    have yf := heap_frozen HY.out
    refine (err_calls W2 (w.heap.size + 1) g _ _ HR3.out).mono ?_
    rintro e wx ⟨rfl, rfl⟩
    go_wp2_with fail
    refine (err_calls wx (w.heap.size + 1) g _ _ HR3.out).mono ?_
    rintro e wy ⟨rfl, rfl⟩
    go_wp2
    refine bodyPost_ret (v := .tuple #[.agg #[.int .i64 0, .int .i64 0, .int .u64 0, .int .u64 0, .int .i64 0, .int .u64 0, .int .u64 0, .int .u64 0, .int .u64 0, .int .u64 0, .int .u64 0, .int .u64 0], .iface 105 (.pointer (some a))]) (by simp [results, Tryd.results14, go_sem, y0, y1, y2, y3, y4, y5, y6, y7, y8, y9, y10, y11]) rfl ?_
    rw [HT2.out]
    exact ⟨by rw [HE.out]; rfl, set12_below HB3.out (Nat.le_refl _) _ _ _ _ _ _ _ _ _ _ _ _⟩

set_option maxRecDepth 100000 in
set_option maxHeartbeats 6400000 in
theorem decR_hi (A : Option Addr) (c : Nat) (b : List UInt8) (p : Nat → Addr) (w : World) (hp : E4 w p) (hl : b.length ≤ 140737488351232) (hA : Cells w A (Bs b)) (hf : (fixedS b 0 1).2.2 = 0 ∧ 5 < (fixedS b 0 1).1.toUInt8.toNat) :
    Calls Tryd.prog 14 #[.slice A b.length c] w fun e w' => GaveA p w w' e (decR b) := by
  have hbx : Below w.heap.size w (w.alloc (.cells #[.int .i64 0, .int .i64 0, .int .u64 0, .int .u64 0, .int .i64 0, .int .u64 0, .int .u64 0, .int .u64 0, .int .u64 0, .int .u64 0, .int .u64 0, .int .u64 0] 36)) := (Below.refl _ _).alloc (Nat.le_refl _) _
  have HBX := Go.Lib.hid hbx
  have HNR := Go.Lib.hid (newReader_calls A c b (w.alloc (.cells #[.int .i64 0, .int .i64 0, .int .u64 0, .int .u64 0, .int .i64 0, .int .u64 0, .int .u64 0, .int .u64 0, .int .u64 0, .int .u64 0, .int .u64 0, .int .u64 0] 36)) (by omega) (cells_below hbx hA))
  have HP := Go.Lib.hid hp
  have HG := Go.Lib.hid (gb_of hp)
  have HN0 := Go.Lib.hid (heap_here w (.cells #[.int .i64 0, .int .i64 0, .int .u64 0, .int .u64 0, .int .i64 0, .int .u64 0, .int .u64 0, .int .u64 0, .int .u64 0, .int .u64 0, .int .u64 0, .int .u64 0] 36) w.heap.size rfl)
  have HT : Hid (decR b = decRQ b.length (fixedS b 0 1)) := rfl
  have HF := Go.Lib.hid hf
  clear hbx hA hp hf
  go_enter Tryd.func14, Tryd.ntmps14
  go_wp2_with fail
  refine HNR.out.mono ?_
  rintro e w1 ⟨g, rfl, hr1, hb1⟩
  have HR1 := Go.Lib.hid (show Rd w1 (w.alloc (.cells #[.int .i64 0, .int .i64 0, .int .u64 0, .int .u64 0, .int .i64 0, .int .u64 0, .int .u64 0, .int .u64 0, .int .u64 0, .int .u64 0, .int .u64 0, .int .u64 0] 36)).heap.size g b (fv (p 2) (p 3) 0) from hr1)
  have HB1 := Go.Lib.hid (below_then HBX.out hb1)
  have HN1 := Go.Lib.hid (below_heap hb1 HN0.out)
  have hB0 : (w.alloc (.cells #[.int .i64 0, .int .i64 0, .int .u64 0, .int .u64 0, .int .i64 0, .int .u64 0, .int .u64 0, .int .u64 0, .int .u64 0, .int .u64 0, .int .u64 0, .int .u64 0] 36)).heap.size = w.heap.size + 1 := by simp
  rw [hB0] at HR1
  have hgg : w.heap.size < g := by have := rd_lt HR1.out; omega
  have hgw1 : g < w1.heap.size := (rd_lt HR1.out).2
  clear hr1 hb1 HNR HBX HN0 hB0
  go_wp2_with fail
  refine (u8_calls w1 (w.heap.size + 1) g (p 2) (p 3) b 0 (e4_two (e4_below HP.out HB1.out)) HR1.out).mono ?_
  rintro e w2 ⟨rfl, h1, h2⟩
  have HR2 := Go.Lib.hid h1
  have HB2 := Go.Lib.hid (HB1.out.trans (h2.below (B := w.heap.size) (by omega)))
  have HN2 := Go.Lib.hid (keep_heap (keep_only h2) HN1.out (by omega))
  have hs2 : w2.heap.size = w1.heap.size := h2.2.2.2.1
  have hgw2 : g < w2.heap.size := by omega
  have hnw2 : w.heap.size < w2.heap.size := by omega
  clear h1 h2 HR1 HB1 HN1 hs2 hgw1
  generalize fixedS b 0 1 = q at *
  obtain ⟨u, r1, f1⟩ := q
  have hf := HF.out
  clear HF
  simp only at HR2 HT hf ⊢
  generalize hbu : u.toUInt8 = b0 at *
  have HBU := Go.Lib.hid hbu
  clear hbu
  have hb0 : 0 ≤ n8 b0 := by unfold n8; omega
  have hb1 : n8 b0 < 256 := by unfold n8; have := b0.toNat_lt; omega
  obtain rfl : f1 = 0 := hf.1
  have HOP := Go.Lib.hid hf.2
  clear hf
  have hT : decRQ b.length (u, r1, 0) = (ansZ, 3) := by
    unfold decRQ
    rw [if_neg (by simp)]
    simp only [HBU.out]
    rw [if_pos HOP.out]
  have HT2 := Go.Lib.hid (HT.out.trans hT)
  clear hT HT
  obtain ⟨W2, hW2⟩ : ∃ W2, W2 = w2.alloc (.cells #[.int .i64 (n8 b0), .int .i64 0, .int .u64 0, .int .u64 0, .int .i64 0, .int .u64 0, .int .u64 0, .int .u64 0, .int .u64 0, .int .u64 0, .int .u64 0, .int .u64 0] 36) := ⟨_, rfl⟩
  have hR3 : Rd W2 (w.heap.size + 1) g r1 (fv (p 2) (p 3) 0) := by rw [hW2]; exact rd_alloc HR2.out _
  have hB3 : Below w.heap.size w W2 := by rw [hW2]; exact HB2.out.alloc HB2.out.size _
  have hn2 : W2.heap[w.heap.size]? = some (.cells #[.int .i64 0, .int .i64 0, .int .u64 0, .int .u64 0, .int .i64 0, .int .u64 0, .int .u64 0, .int .u64 0, .int .u64 0, .int .u64 0, .int .u64 0, .int .u64 0] 36 (0, 0)) := by rw [hW2]; exact below_heap ((Below.refl _ _).alloc (Nat.le_refl _) _) HN2.out
  have hn5 : W2.heap[w2.heap.size]? = some (.cells #[.int .i64 (n8 b0), .int .i64 0, .int .u64 0, .int .u64 0, .int .i64 0, .int .u64 0, .int .u64 0, .int .u64 0, .int .u64 0, .int .u64 0, .int .u64 0, .int .u64 0] 36 (0, 0)) := by rw [hW2]; exact heap_here _ _ _ rfl
  have HR3 := Go.Lib.hid hR3
  have HB3 := Go.Lib.hid hB3
  have HY := Go.Lib.hid hn2
  have HX := Go.Lib.hid hn5
  clear hR3 hB3 hn2 hn5 HR2 HB2 HN2
  go_wp2_with fail
  rw [← hW2]
  clear hW2
  have e3 := e4_form (e4_below HP.out HB3.out)
  have hg3 : 3 < w.heap.size := HG.out 3 (by decide) (by decide)
  have d2 : decide ((5 : Int) < n8 b0) = true := decide_eq_true (by have := HOP.out; unfold n8; omega)
  obtain ⟨y0, y1, y2, y3, y4, y5, y6, y7, y8, y9, y10, y11⟩ := box12 HY.out
  have yf := heap_frozen HY.out
  obtain ⟨x0, x1, x2, x3, x4, x5, x6, x7, x8, x9, x10, x11⟩ := box12 HX.out
  have xf := heap_frozen HX.out
  refine (err_calls W2 (w.heap.size + 1) g _ _ HR3.out).mono ?_
  rintro e w3 ⟨rfl, rfl⟩
  simp only [fv]
  go_wp2
  go_region
  all_goals
    go_wp2
    refine bodyPost_ret (v := .tuple #[.agg #[.int .i64 0, .int .i64 0, .int .u64 0, .int .u64 0, .int .i64 0, .int .u64 0, .int .u64 0, .int .u64 0, .int .u64 0, .int .u64 0, .int .u64 0, .int .u64 0], .iface 105 (.pointer (some (p 3)))]) (by simp [results, Tryd.results14, go_sem, y0, y1, y2, y3, y4, y5, y6, y7, y8, y9, y10, y11]) rfl ?_
    rw [HT2.out]
    exact ⟨rfl, (set12_below HB3.out (Nat.le_refl _) _ _ _ _ _ _ _ _ _ _ _ _).drew⟩

set_option maxRecDepth 100000 in
set_option maxHeartbeats 6400000 in
theorem decR_code (A : Option Addr) (c : Nat) (b : List UInt8) (p : Nat → Addr) (w : World) (hp : E4 w p) (hl : b.length ≤ 140737488351232) (hA : Cells w A (Bs b)) (hf : (fixedS b 0 1).2.2 = 0 ∧ ¬ 5 < (fixedS b 0 1).1.toUInt8.toNat) :
    Calls Tryd.prog 14 #[.slice A b.length c] w fun e w' => GaveA p w w' e (decR b) := by
  have hbx : Below w.heap.size w (w.alloc (.cells #[.int .i64 0, .int .i64 0, .int .u64 0, .int .u64 0, .int .i64 0, .int .u64 0, .int .u64 0, .int .u64 0, .int .u64 0, .int .u64 0, .int .u64 0, .int .u64 0] 36)) := (Below.refl _ _).alloc (Nat.le_refl _) _
  have HBX := Go.Lib.hid hbx
  have HNR := Go.Lib.hid (newReader_calls A c b (w.alloc (.cells #[.int .i64 0, .int .i64 0, .int .u64 0, .int .u64 0, .int .i64 0, .int .u64 0, .int .u64 0, .int .u64 0, .int .u64 0, .int .u64 0, .int .u64 0, .int .u64 0] 36)) (by omega) (cells_below hbx hA))
  have HP := Go.Lib.hid hp
  have HG := Go.Lib.hid (gb_of hp)
  have HN0 := Go.Lib.hid (heap_here w (.cells #[.int .i64 0, .int .i64 0, .int .u64 0, .int .u64 0, .int .i64 0, .int .u64 0, .int .u64 0, .int .u64 0, .int .u64 0, .int .u64 0, .int .u64 0, .int .u64 0] 36) w.heap.size rfl)
  have HT : Hid (decR b = decRQ b.length (fixedS b 0 1)) := rfl
  have HF := Go.Lib.hid hf
  clear hbx hA hp hf
  go_enter Tryd.func14, Tryd.ntmps14
  go_wp2_with fail
  refine HNR.out.mono ?_
  rintro e w1 ⟨g, rfl, hr1, hb1⟩
  have HR1 := Go.Lib.hid (show Rd w1 (w.alloc (.cells #[.int .i64 0, .int .i64 0, .int .u64 0, .int .u64 0, .int .i64 0, .int .u64 0, .int .u64 0, .int .u64 0, .int .u64 0, .int .u64 0, .int .u64 0, .int .u64 0] 36)).heap.size g b (fv (p 2) (p 3) 0) from hr1)
  have HB1 := Go.Lib.hid (below_then HBX.out hb1)
  have HN1 := Go.Lib.hid (below_heap hb1 HN0.out)
  have hB0 : (w.alloc (.cells #[.int .i64 0, .int .i64 0, .int .u64 0, .int .u64 0, .int .i64 0, .int .u64 0, .int .u64 0, .int .u64 0, .int .u64 0, .int .u64 0, .int .u64 0, .int .u64 0] 36)).heap.size = w.heap.size + 1 := by simp
  rw [hB0] at HR1
  have hgg : w.heap.size < g := by have := rd_lt HR1.out; omega
  have hgw1 : g < w1.heap.size := (rd_lt HR1.out).2
  clear hr1 hb1 HNR HBX HN0 hB0
  go_wp2_with fail
  refine (u8_calls w1 (w.heap.size + 1) g (p 2) (p 3) b 0 (e4_two (e4_below HP.out HB1.out)) HR1.out).mono ?_
  rintro e w2 ⟨rfl, h1, h2⟩
  have HR2 := Go.Lib.hid h1
  have HB2 := Go.Lib.hid (HB1.out.trans (h2.below (B := w.heap.size) (by omega)))
  have HN2 := Go.Lib.hid (keep_heap (keep_only h2) HN1.out (by omega))
  have hs2 : w2.heap.size = w1.heap.size := h2.2.2.2.1
  have hgw2 : g < w2.heap.size := by omega
  have hnw2 : w.heap.size < w2.heap.size := by omega
  clear h1 h2 HR1 HB1 HN1 hs2 hgw1
  generalize fixedS b 0 1 = q at *
  obtain ⟨u, r1, f1⟩ := q
  have hf := HF.out
  clear HF
  simp only at HR2 HT hf ⊢
  generalize hbu : u.toUInt8 = b0 at *
  have HBU := Go.Lib.hid hbu
  clear hbu
  have hb0 : 0 ≤ n8 b0 := by unfold n8; omega
  have hb1 : n8 b0 < 256 := by unfold n8; have := b0.toNat_lt; omega
  obtain rfl : f1 = 0 := hf.1
  have HOP := Go.Lib.hid hf.2
  clear hf
  have hT : decRQ b.length (u, r1, 0) = decR2 b.length b0.toNat (fixedS r1 0 1) := by
    unfold decRQ
    rw [if_neg (by simp)]
    simp only [HBU.out]
    rw [if_neg (by have := HOP.out; omega)]
  have HT2 := Go.Lib.hid (HT.out.trans hT)
  have d1 : decide ((5 : Int) < n8 b0) = false := decide_eq_false (by have := HOP.out; unfold n8; omega)
  clear hT HT HBU
  obtain ⟨W2, hW2⟩ : ∃ W2, W2 = w2.alloc (.cells #[.int .i64 (n8 b0), .int .i64 0, .int .u64 0, .int .u64 0, .int .i64 0, .int .u64 0, .int .u64 0, .int .u64 0, .int .u64 0, .int .u64 0, .int .u64 0, .int .u64 0] 36) := ⟨_, rfl⟩
  have hR3 : Rd W2 (w.heap.size + 1) g r1 (fv (p 2) (p 3) 0) := by rw [hW2]; exact rd_alloc HR2.out _
  have hB3 : Below w.heap.size w W2 := by rw [hW2]; exact HB2.out.alloc HB2.out.size _
  have hn2 : W2.heap[w.heap.size]? = some (.cells #[.int .i64 0, .int .i64 0, .int .u64 0, .int .u64 0, .int .i64 0, .int .u64 0, .int .u64 0, .int .u64 0, .int .u64 0, .int .u64 0, .int .u64 0, .int .u64 0] 36 (0, 0)) := by rw [hW2]; exact below_heap ((Below.refl _ _).alloc (Nat.le_refl _) _) HN2.out
  have hn5 : W2.heap[w2.heap.size]? = some (.cells #[.int .i64 (n8 b0), .int .i64 0, .int .u64 0, .int .u64 0, .int .i64 0, .int .u64 0, .int .u64 0, .int .u64 0, .int .u64 0, .int .u64 0, .int .u64 0, .int .u64 0] 36 (0, 0)) := by rw [hW2]; exact heap_here _ _ _ rfl
  have HR3 := Go.Lib.hid hR3
  have HB3 := Go.Lib.hid hB3
  have HY := Go.Lib.hid hn2
  have HX := Go.Lib.hid hn5
  clear hR3 hB3 hn2 hn5 HR2 HB2 HN2
  go_wp2_with fail
  rw [← hW2]
  clear hW2
  obtain ⟨y0, y1, y2, y3, y4, y5, y6, y7, y8, y9, y10, y11⟩ := box12 HY.out
  have yf := heap_frozen HY.out
  obtain ⟨x0, x1, x2, x3, x4, x5, x6, x7, x8, x9, x10, x11⟩ := box12 HX.out
  have xf := heap_frozen HX.out
  refine (err_calls W2 (w.heap.size + 1) g _ _ HR3.out).mono ?_
  rintro e w3 ⟨rfl, rfl⟩
  simp only [fv]
  go_wp2_with fail
  clear y0 y1 y2 y3 y4 y5 y6 y7 y8 y9 y10 y11 yf
  clear x0 x1 x2 x3 x4 x5 x6 x7 x8 x9 x10 x11 xf
  have HY3 := HY
  have HX3 := HX
  clear HY HX
  refine (u8_calls w3 (w.heap.size + 1) g (p 2) (p 3) r1 0 (e4_two (e4_below HP.out HB3.out)) HR3.out).mono ?_
  rintro e w4 ⟨rfl, h1, h2⟩
  have HR4 := Go.Lib.hid h1
  have HB4 := Go.Lib.hid (HB3.out.trans (h2.below (B := w.heap.size) (by omega)))
  have HY4 := Go.Lib.hid (keep_heap (keep_only h2) HY3.out (by omega))
  have HX4 := Go.Lib.hid (keep_heap (keep_only h2) HX3.out (by omega))
  clear h1 h2 HR3 HB3 HY3 HX3
  generalize fixedS r1 0 1 = q2 at *
  obtain ⟨u2, r2, f2⟩ := q2
  simp only at HR4 HT2 ⊢
  have HT3 : Hid (decR b = if f2 ≠ 0 then (ansZ, fault f2) else if pairS (b0.toNat : Int) (u2.toUInt8.toNat : Int) = false then (ansZ, 3) else decRC b.length b0.toNat u2.toUInt8.toNat r2 0) := HT2.out
  clear HT2
  generalize u2.toUInt8 = b1 at *
  have hc0 : 0 ≤ n8 b1 := by unfold n8; omega
  have hc1 : n8 b1 < 256 := by unfold n8; have := b1.toNat_lt; omega
  obtain ⟨y0, y1, y2, y3, y4, y5, y6, y7, y8, y9, y10, y11⟩ := box12 HY4.out
  have yf := heap_frozen HY4.out
  obtain ⟨x0, x1, x2, x3, x4, x5, x6, x7, x8, x9, x10, x11⟩ := box12 HX4.out
  have xf := heap_frozen HX4.out
  go_wp2_with fail
  clear y0 y1 y2 y3 y4 y5 y6 y7 y8 y9 y10 y11 yf
  clear x0 x1 x2 x3 x4 x5 x6 x7 x8 x9 x10 x11 xf
  obtain ⟨W5, hnew⟩ : ∃ W, W = w4.setCell ⟨w2.heap.size, 1, none⟩ (.int .i64 (n8 b1)) := ⟨_, rfl⟩
  have hrd : Rd W5 (w.heap.size + 1) g r2 (fv (p 2) (p 3) f2) := by rw [hnew]; exact rd_set HR4.out HX4.out (by decide) rfl _ _
  have hbl : Below w.heap.size w W5 := by rw [hnew]; exact HB4.out.setCell (by show w.heap.size ≤ w2.heap.size; omega) _
  have hy : W5.heap[w.heap.size]? = some (.cells #[.int .i64 0, .int .i64 0, .int .u64 0, .int .u64 0, .int .i64 0, .int .u64 0, .int .u64 0, .int .u64 0, .int .u64 0, .int .u64 0, .int .u64 0, .int .u64 0] 36 (0, 0)) := by rw [hnew]; exact set_other HY4.out (by omega) _ _
  have hx : W5.heap[w2.heap.size]? = some (.cells #[.int .i64 (n8 b0), .int .i64 (n8 b1), .int .u64 0, .int .u64 0, .int .i64 0, .int .u64 0, .int .u64 0, .int .u64 0, .int .u64 0, .int .u64 0, .int .u64 0, .int .u64 0] 36 (0, 0)) := by rw [hnew]; exact set_heap HX4.out _ _
  have HR5 := Go.Lib.hid hrd
  have HB5 := Go.Lib.hid hbl
  have HY5 := Go.Lib.hid hy
  have HX5 := Go.Lib.hid hx
  clear hrd hbl hy hx HR4 HB4 HY4 HX4
  rw [← hnew]
  clear hnew
  cases f2 with
  | succ m =>
    obtain ⟨a, ha, he⟩ := fv_iface p m
    have hT := HT3.out
    rw [if_pos (by simp)] at hT
    have HT2 := Go.Lib.hid hT
    have HE := Go.Lib.hid he
    clear hT HT3 he
    rw [ha] at HR5
    clear ha
    obtain ⟨y0, y1, y2, y3, y4, y5, y6, y7, y8, y9, y10, y11⟩ := box12 HY5.out
    have yf := heap_frozen HY5.out
    refine (err_calls W5 (w.heap.size + 1) g _ _ HR5.out).mono ?_
    rintro e wx ⟨rfl, rfl⟩
    go_wp2_with fail
    refine (err_calls wx (w.heap.size + 1) g _ _ HR5.out).mono ?_
    rintro e wy ⟨rfl, rfl⟩
    go_wp2
    refine bodyPost_ret (v := .tuple #[.agg #[.int .i64 0, .int .i64 0, .int .u64 0, .int .u64 0, .int .i64 0, .int .u64 0, .int .u64 0, .int .u64 0, .int .u64 0, .int .u64 0, .int .u64 0, .int .u64 0], .iface 105 (.pointer (some a))]) (by simp [results, Tryd.results14, go_sem, y0, y1, y2, y3, y4, y5, y6, y7, y8, y9, y10, y11]) rfl ?_
    rw [HT2.out]
    exact ⟨by rw [HE.out]; rfl, set12_below HB5.out (Nat.le_refl _) _ _ _ _ _ _ _ _ _ _ _ _⟩
  | zero =>
    have hT := HT3.out
    rw [if_neg (by simp)] at hT
    have HT4 : Hid (decR b = if pairS (n8 b0) (n8 b1) = false then (ansZ, 3) else decRC b.length b0.toNat b1.toNat r2 0) := hT
    clear hT HT3
    obtain ⟨y0, y1, y2, y3, y4, y5, y6, y7, y8, y9, y10, y11⟩ := box12 HY5.out
    have yf := heap_frozen HY5.out
    obtain ⟨x0, x1, x2, x3, x4, x5, x6, x7, x8, x9, x10, x11⟩ := box12 HX5.out
    have xf := heap_frozen HX5.out
    refine (err_calls W5 (w.heap.size + 1) g _ _ HR5.out).mono ?_
    rintro e w5x ⟨rfl, rfl⟩
    simp only [fv]
    go_wp2_with fail
    clear y0 y1 y2 y3 y4 y5 y6 y7 y8 y9 y10 y11 yf
    clear x0 x1 x2 x3 x4 x5 x6 x7 x8 x9 x10 x11 xf
    refine (pair_calls (n8 b0) (n8 b1) w5x).mono ?_
    rintro e w6 ⟨rfl, hb6⟩
    have HR6 := Go.Lib.hid (rd_below HR5.out hb6)
    have HB6 := Go.Lib.hid (below_then HB5.out hb6)
    have HY6 := Go.Lib.hid (below_heap hb6 HY5.out)
    have HX6 := Go.Lib.hid (below_heap hb6 HX5.out)
    clear hb6 HR5 HB5 HY5 HX5
    by_cases hpair : pairS (n8 b0) (n8 b1) = false
    · have hT := HT4.out
      rw [if_pos hpair] at hT
      have HT5 := Go.Lib.hid hT
      rw [hpair]
      clear hT HT4 hpair
      have e3 := e4_form (e4_below HP.out HB6.out)
      have hg3 : 3 < w.heap.size := HG.out 3 (by decide) (by decide)
      obtain ⟨y0, y1, y2, y3, y4, y5, y6, y7, y8, y9, y10, y11⟩ := box12 HY6.out
      have yf := heap_frozen HY6.out
      obtain ⟨x0, x1, x2, x3, x4, x5, x6, x7, x8, x9, x10, x11⟩ := box12 HX6.out
      have xf := heap_frozen HX6.out
      go_wp2
      go_region
      all_goals
        go_wp2
        refine bodyPost_ret (v := .tuple #[.agg #[.int .i64 0, .int .i64 0, .int .u64 0, .int .u64 0, .int .i64 0, .int .u64 0, .int .u64 0, .int .u64 0, .int .u64 0, .int .u64 0, .int .u64 0, .int .u64 0], .iface 105 (.pointer (some (p 3)))]) (by simp [results, Tryd.results14, go_sem, y0, y1, y2, y3, y4, y5, y6, y7, y8, y9, y10, y11]) rfl ?_
        rw [HT5.out]
        exact ⟨rfl, (set12_below HB6.out (Nat.le_refl _) _ _ _ _ _ _ _ _ _ _ _ _).drew⟩
    have hpt : pairS (n8 b0) (n8 b1) = true := by simpa using hpair
    have hT := HT4.out
    rw [if_neg hpair] at hT
    have HT3 := Go.Lib.hid hT
    rw [hpt]
    clear hT HT4 hpair hpt
    by_cases k2 : b0 = 2
    · subst k2
      by_cases k1 : b1 = 1
      · subst k1
        have HX6' : Hid (w6.heap[w2.heap.size]? = some (.cells #[.int .i64 2, .int .i64 1, .int .u64 0, .int .u64 0, .int .i64 0, .int .u64 0, .int .u64 0, .int .u64 0, .int .u64 0, .int .u64 0, .int .u64 0, .int .u64 0] 36 (0, 0))) := HX6.out
        clear HX6
        have HX6 := HX6'
        clear HX6'
        have HT4 : Hid (decR b = ansOr ⟨2, ⟨1, (fixedS r2 0 8).1, (fixedS (fixedS r2 0 8).2.1 (fixedS r2 0 8).2.2 8).1, polZ, levZ⟩⟩ (endE (fixedS (fixedS r2 0 8).2.1 (fixedS r2 0 8).2.2 8).2.1 (fixedS (fixedS r2 0 8).2.1 (fixedS r2 0 8).2.2 8).2.2 b.length)) := HT3.out
        clear HT3
        have HT3 := HT4
        clear HT4
        obtain ⟨y0, y1, y2, y3, y4, y5, y6, y7, y8, y9, y10, y11⟩ := box12 HY6.out
        have yf := heap_frozen HY6.out
        obtain ⟨x0, x1, x2, x3, x4, x5, x6, x7, x8, x9, x10, x11⟩ := box12 HX6.out
        have xf := heap_frozen HX6.out
        go_wp2_with fail
        clear y0 y1 y2 y3 y4 y5 y6 y7 y8 y9 y10 y11 yf
        clear x0 x1 x2 x3 x4 x5 x6 x7 x8 x9 x10 x11 xf
        refine (u64_calls w6 (w.heap.size + 1) g (p 2) (p 3) r2 0 (e4_two (e4_below HP.out HB6.out)) HR6.out).mono ?_
        rintro e w7 ⟨rfl, h1, h2⟩
        have HR7 := Go.Lib.hid h1
        have HB7 := Go.Lib.hid (HB6.out.trans (h2.below (B := w.heap.size) (by omega)))
        have HY7 := Go.Lib.hid (keep_heap (keep_only h2) HY6.out (by omega))
        have HX7 := Go.Lib.hid (keep_heap (keep_only h2) HX6.out (by omega))
        clear h1 h2 HR6 HB6 HY6 HX6
        generalize fixedS r2 0 8 = uq7 at *
        obtain ⟨v7, r7, f7⟩ := uq7
        simp only at HR7 HT3 ⊢
        go_wp2_with fail
        refine (u64_calls w7 (w.heap.size + 1) g (p 2) (p 3) r7 f7 (e4_two (e4_below HP.out HB7.out)) HR7.out).mono ?_
        rintro e w8 ⟨rfl, h1, h2⟩
        have HR8 := Go.Lib.hid h1
        have HB8 := Go.Lib.hid (HB7.out.trans (h2.below (B := w.heap.size) (by omega)))
        have HY8 := Go.Lib.hid (keep_heap (keep_only h2) HY7.out (by omega))
        have HX8 := Go.Lib.hid (keep_heap (keep_only h2) HX7.out (by omega))
        clear h1 h2 HR7 HB7 HY7 HX7
        generalize fixedS r7 f7 8 = uq8 at *
        obtain ⟨v8, r8, f8⟩ := uq8
        simp only at HR8 HT3 ⊢
        obtain ⟨y0, y1, y2, y3, y4, y5, y6, y7, y8, y9, y10, y11⟩ := box12 HY8.out
        have yf := heap_frozen HY8.out
        obtain ⟨x0, x1, x2, x3, x4, x5, x6, x7, x8, x9, x10, x11⟩ := box12 HX8.out
        have xf := heap_frozen HX8.out
        go_wp2_with fail
        clear y0 y1 y2 y3 y4 y5 y6 y7 y8 y9 y10 y11 yf
        clear x0 x1 x2 x3 x4 x5 x6 x7 x8 x9 x10 x11 xf
        obtain ⟨W9, hnew⟩ : ∃ W, W = (w8.setCell ⟨w2.heap.size, 2, none⟩ (.int .u64 (n64 v7))).setCell ⟨w2.heap.size, 3, none⟩ (.int .u64 (n64 v8)) := ⟨_, rfl⟩
        have hrd : Rd W9 (w.heap.size + 1) g r8 (fv (p 2) (p 3) f8) := by rw [hnew]; exact rd_set (rd_set HR8.out HX8.out (by decide) rfl _ _) (set_heap HX8.out _ _) (by decide) rfl _ _
        have hbl : Below w.heap.size w W9 := by rw [hnew]; exact (HB8.out.setCell (by show w.heap.size ≤ w2.heap.size; omega) _).setCell (by show w.heap.size ≤ w2.heap.size; omega) _
        have hy : W9.heap[w.heap.size]? = some (.cells #[.int .i64 0, .int .i64 0, .int .u64 0, .int .u64 0, .int .i64 0, .int .u64 0, .int .u64 0, .int .u64 0, .int .u64 0, .int .u64 0, .int .u64 0, .int .u64 0] 36 (0, 0)) := by rw [hnew]; exact set_other (set_other HY8.out (by omega) _ _) (by omega) _ _
        have hx : W9.heap[w2.heap.size]? = some (.cells #[.int .i64 2, .int .i64 1, .int .u64 (n64 v7), .int .u64 (n64 v8), .int .i64 0, .int .u64 0, .int .u64 0, .int .u64 0, .int .u64 0, .int .u64 0, .int .u64 0, .int .u64 0] 36 (0, 0)) := by rw [hnew]; exact set_heap (set_heap HX8.out _ _) _ _
        have HR9 := Go.Lib.hid hrd
        have HB9 := Go.Lib.hid hbl
        have HY9 := Go.Lib.hid hy
        have HX9 := Go.Lib.hid hx
        clear hrd hbl hy hx HR8 HB8 HY8 HX8
        rw [← hnew]
        clear hnew
        refine (end_calls' p (w.heap.size + 1) g r8 f8 A c b.length W9 (e4_below HP.out HB9.out) (by omega) HR9.out).mono ?_
        rintro e wx ⟨rfl, rfl⟩
        generalize endE r8 f8 b.length = k at *
        obtain ⟨y0, y1, y2, y3, y4, y5, y6, y7, y8, y9, y10, y11⟩ := box12 HY9.out
        have yf := heap_frozen HY9.out
        obtain ⟨x0, x1, x2, x3, x4, x5, x6, x7, x8, x9, x10, x11⟩ := box12 HX9.out
        have xf := heap_frozen HX9.out
        cases k with
        | zero =>
          simp only [errv]
          go_wp2
          refine bodyPost_ret (v := .tuple #[.agg #[.int .i64 2, .int .i64 1, .int .u64 (n64 v7), .int .u64 (n64 v8), .int .i64 0, .int .u64 0, .int .u64 0, .int .u64 0, .int .u64 0, .int .u64 0, .int .u64 0, .int .u64 0], .nilIface]) (by simp [results, Tryd.results14, go_sem, y0, y1, y2, y3, y4, y5, y6, y7, y8, y9, y10, y11]) rfl ?_
          rw [HT3.out, show ansOr ⟨2, ⟨1, v7, v8, polZ, levZ⟩⟩ 0 = (⟨2, ⟨1, v7, v8, polZ, levZ⟩⟩, 0) from rfl]
          exact ⟨rfl, set12_below HB9.out (Nat.le_refl _) _ _ _ _ _ _ _ _ _ _ _ _⟩
        | succ m =>
          simp only [errv]
          go_wp2
          refine bodyPost_ret (v := .tuple #[.agg #[.int .i64 0, .int .i64 0, .int .u64 0, .int .u64 0, .int .i64 0, .int .u64 0, .int .u64 0, .int .u64 0, .int .u64 0, .int .u64 0, .int .u64 0, .int .u64 0], .iface 105 (.pointer (some (p (m + 1))))]) (by simp [results, Tryd.results14, go_sem, y0, y1, y2, y3, y4, y5, y6, y7, y8, y9, y10, y11]) rfl ?_
          rw [HT3.out, show ansOr ⟨2, ⟨1, v7, v8, polZ, levZ⟩⟩ (m + 1) = (ansZ, m + 1) from rfl]
          exact ⟨rfl, set12_below HB9.out (Nat.le_refl _) _ _ _ _ _ _ _ _ _ _ _ _⟩
      by_cases k0 : b1 = 0
      · subst k0
        have HX6' : Hid (w6.heap[w2.heap.size]? = some (.cells #[.int .i64 2, .int .i64 0, .int .u64 0, .int .u64 0, .int .i64 0, .int .u64 0, .int .u64 0, .int .u64 0, .int .u64 0, .int .u64 0, .int .u64 0, .int .u64 0] 36 (0, 0))) := HX6.out
        clear HX6
        have HX6 := HX6'
        clear HX6'
        have HT4 : Hid (decR b = ansOr ⟨2, ⟨0, (fixedS r2 0 8).1, 0, polZ, levZ⟩⟩ (endE (fixedS r2 0 8).2.1 (fixedS r2 0 8).2.2 b.length)) := HT3.out
        clear HT3
        have HT3 := HT4
        clear HT4
        obtain ⟨y0, y1, y2, y3, y4, y5, y6, y7, y8, y9, y10, y11⟩ := box12 HY6.out
        have yf := heap_frozen HY6.out
        obtain ⟨x0, x1, x2, x3, x4, x5, x6, x7, x8, x9, x10, x11⟩ := box12 HX6.out
        have xf := heap_frozen HX6.out
        go_wp2_with fail
        clear y0 y1 y2 y3 y4 y5 y6 y7 y8 y9 y10 y11 yf
        clear x0 x1 x2 x3 x4 x5 x6 x7 x8 x9 x10 x11 xf
        refine (u64_calls w6 (w.heap.size + 1) g (p 2) (p 3) r2 0 (e4_two (e4_below HP.out HB6.out)) HR6.out).mono ?_
        rintro e w7 ⟨rfl, h1, h2⟩
        have HR7 := Go.Lib.hid h1
        have HB7 := Go.Lib.hid (HB6.out.trans (h2.below (B := w.heap.size) (by omega)))
        have HY7 := Go.Lib.hid (keep_heap (keep_only h2) HY6.out (by omega))
        have HX7 := Go.Lib.hid (keep_heap (keep_only h2) HX6.out (by omega))
        clear h1 h2 HR6 HB6 HY6 HX6
        generalize fixedS r2 0 8 = uq7 at *
        obtain ⟨v7, r7, f7⟩ := uq7
        simp only at HR7 HT3 ⊢
        obtain ⟨y0, y1, y2, y3, y4, y5, y6, y7, y8, y9, y10, y11⟩ := box12 HY7.out
        have yf := heap_frozen HY7.out
        obtain ⟨x0, x1, x2, x3, x4, x5, x6, x7, x8, x9, x10, x11⟩ := box12 HX7.out
        have xf := heap_frozen HX7.out
        go_wp2_with fail
        clear y0 y1 y2 y3 y4 y5 y6 y7 y8 y9 y10 y11 yf
        clear x0 x1 x2 x3 x4 x5 x6 x7 x8 x9 x10 x11 xf
        obtain ⟨W9, hnew⟩ : ∃ W, W = w7.setCell ⟨w2.heap.size, 2, none⟩ (.int .u64 (n64 v7)) := ⟨_, rfl⟩
        have hrd : Rd W9 (w.heap.size + 1) g r7 (fv (p 2) (p 3) f7) := by rw [hnew]; exact rd_set HR7.out HX7.out (by decide) rfl _ _
        have hbl : Below w.heap.size w W9 := by rw [hnew]; exact HB7.out.setCell (by show w.heap.size ≤ w2.heap.size; omega) _
        have hy : W9.heap[w.heap.size]? = some (.cells #[.int .i64 0, .int .i64 0, .int .u64 0, .int .u64 0, .int .i64 0, .int .u64 0, .int .u64 0, .int .u64 0, .int .u64 0, .int .u64 0, .int .u64 0, .int .u64 0] 36 (0, 0)) := by rw [hnew]; exact set_other HY7.out (by omega) _ _
        have hx : W9.heap[w2.heap.size]? = some (.cells #[.int .i64 2, .int .i64 0, .int .u64 (n64 v7), .int .u64 0, .int .i64 0, .int .u64 0, .int .u64 0, .int .u64 0, .int .u64 0, .int .u64 0, .int .u64 0, .int .u64 0] 36 (0, 0)) := by rw [hnew]; exact set_heap HX7.out _ _
        have HR9 := Go.Lib.hid hrd
        have HB9 := Go.Lib.hid hbl
        have HY9 := Go.Lib.hid hy
        have HX9 := Go.Lib.hid hx
        clear hrd hbl hy hx HR7 HB7 HY7 HX7
        rw [← hnew]
        clear hnew
        refine (end_calls' p (w.heap.size + 1) g r7 f7 A c b.length W9 (e4_below HP.out HB9.out) (by omega) HR9.out).mono ?_
        rintro e wx ⟨rfl, rfl⟩
        generalize endE r7 f7 b.length = k at *
        obtain ⟨y0, y1, y2, y3, y4, y5, y6, y7, y8, y9, y10, y11⟩ := box12 HY9.out
        have yf := heap_frozen HY9.out
        obtain ⟨x0, x1, x2, x3, x4, x5, x6, x7, x8, x9, x10, x11⟩ := box12 HX9.out
        have xf := heap_frozen HX9.out
        cases k with
        | zero =>
          simp only [errv]
          go_wp2
          refine bodyPost_ret (v := .tuple #[.agg #[.int .i64 2, .int .i64 0, .int .u64 (n64 v7), .int .u64 0, .int .i64 0, .int .u64 0, .int .u64 0, .int .u64 0, .int .u64 0, .int .u64 0, .int .u64 0, .int .u64 0], .nilIface]) (by simp [results, Tryd.results14, go_sem, y0, y1, y2, y3, y4, y5, y6, y7, y8, y9, y10, y11]) rfl ?_
          rw [HT3.out, show ansOr ⟨2, ⟨0, v7, 0, polZ, levZ⟩⟩ 0 = (⟨2, ⟨0, v7, 0, polZ, levZ⟩⟩, 0) from rfl]
          exact ⟨rfl, set12_below HB9.out (Nat.le_refl _) _ _ _ _ _ _ _ _ _ _ _ _⟩
        | succ m =>
          simp only [errv]
          go_wp2
          refine bodyPost_ret (v := .tuple #[.agg #[.int .i64 0, .int .i64 0, .int .u64 0, .int .u64 0, .int .i64 0, .int .u64 0, .int .u64 0, .int .u64 0, .int .u64 0, .int .u64 0, .int .u64 0, .int .u64 0], .iface 105 (.pointer (some (p (m + 1))))]) (by simp [results, Tryd.results14, go_sem, y0, y1, y2, y3, y4, y5, y6, y7, y8, y9, y10, y11]) rfl ?_
          rw [HT3.out, show ansOr ⟨2, ⟨0, v7, 0, polZ, levZ⟩⟩ (m + 1) = (ansZ, m + 1) from rfl]
          exact ⟨rfl, set12_below HB9.out (Nat.le_refl _) _ _ _ _ _ _ _ _ _ _ _ _⟩
      · have HT4 : Hid (decR b = ansOr ⟨2, ⟨n8 b1, 0, 0, polZ, levZ⟩⟩ (endE r2 0 b.length)) := by
          refine HT3.out.trans ?_
          have c1 : ¬ b1.toNat = 1 := fun h => k1 (UInt8.toNat_inj.1 h)
          have c0 : ¬ b1.toNat = 0 := fun h => k0 (UInt8.toNat_inj.1 h)
          unfold decRC
          rw [if_neg (fun h => c1 h.2), if_neg (fun h => c0 h.2), if_neg (fun h => by simp at h)]
          rfl
        have q1 : (n8 b1 == 1) = false := by rw [show (1 : Int) = n8 1 from rfl, beq_n8]; simpa using k1
        have q0 : (n8 b1 == 0) = false := by rw [show (0 : Int) = n8 0 from rfl, beq_n8]; simpa using k0
        clear HT3 k1 k0
        have HT3 := HT4
        clear HT4
        have HX6' : Hid (w6.heap[w2.heap.size]? = some (.cells #[.int .i64 2, .int .i64 (n8 b1), .int .u64 0, .int .u64 0, .int .i64 0, .int .u64 0, .int .u64 0, .int .u64 0, .int .u64 0, .int .u64 0, .int .u64 0, .int .u64 0] 36 (0, 0))) := HX6.out
        clear HX6
        have HX6 := HX6'
        clear HX6'
        obtain ⟨y0, y1, y2, y3, y4, y5, y6, y7, y8, y9, y10, y11⟩ := box12 HY6.out
        have yf := heap_frozen HY6.out
        obtain ⟨x0, x1, x2, x3, x4, x5, x6, x7, x8, x9, x10, x11⟩ := box12 HX6.out
        have xf := heap_frozen HX6.out
        go_wp2_with fail
        clear y0 y1 y2 y3 y4 y5 y6 y7 y8 y9 y10 y11 yf
        clear x0 x1 x2 x3 x4 x5 x6 x7 x8 x9 x10 x11 xf
        refine (end_calls' p (w.heap.size + 1) g r2 0 A c b.length w6 (e4_below HP.out HB6.out) (by omega) HR6.out).mono ?_
        rintro e wx ⟨rfl, rfl⟩
        generalize endE r2 0 b.length = k at *
        obtain ⟨y0, y1, y2, y3, y4, y5, y6, y7, y8, y9, y10, y11⟩ := box12 HY6.out
        have yf := heap_frozen HY6.out
        obtain ⟨x0, x1, x2, x3, x4, x5, x6, x7, x8, x9, x10, x11⟩ := box12 HX6.out
        have xf := heap_frozen HX6.out
        cases k with
        | zero =>
          simp only [errv]
          go_wp2
          refine bodyPost_ret (v := .tuple #[.agg #[.int .i64 2, .int .i64 (n8 b1), .int .u64 0, .int .u64 0, .int .i64 0, .int .u64 0, .int .u64 0, .int .u64 0, .int .u64 0, .int .u64 0, .int .u64 0, .int .u64 0], .nilIface]) (by simp [results, Tryd.results14, go_sem, y0, y1, y2, y3, y4, y5, y6, y7, y8, y9, y10, y11]) rfl ?_
          rw [HT3.out, show ansOr ⟨2, ⟨(n8 b1), 0, 0, polZ, levZ⟩⟩ 0 = (⟨2, ⟨(n8 b1), 0, 0, polZ, levZ⟩⟩, 0) from rfl]
          exact ⟨rfl, set12_below HB6.out (Nat.le_refl _) _ _ _ _ _ _ _ _ _ _ _ _⟩
        | succ m =>
          simp only [errv]
          go_wp2
          refine bodyPost_ret (v := .tuple #[.agg #[.int .i64 0, .int .i64 0, .int .u64 0, .int .u64 0, .int .i64 0, .int .u64 0, .int .u64 0, .int .u64 0, .int .u64 0, .int .u64 0, .int .u64 0, .int .u64 0], .iface 105 (.pointer (some (p (m + 1))))]) (by simp [results, Tryd.results14, go_sem, y0, y1, y2, y3, y4, y5, y6, y7, y8, y9, y10, y11]) rfl ?_
          rw [HT3.out, show ansOr ⟨2, ⟨(n8 b1), 0, 0, polZ, levZ⟩⟩ (m + 1) = (ansZ, m + 1) from rfl]
          exact ⟨rfl, set12_below HB6.out (Nat.le_refl _) _ _ _ _ _ _ _ _ _ _ _ _⟩
    by_cases k3 : b0 = 3
    · subst k3
      by_cases k0 : b1 = 0
      · subst k0
        have HX6' : Hid (w6.heap[w2.heap.size]? = some (.cells #[.int .i64 3, .int .i64 0, .int .u64 0, .int .u64 0, .int .i64 0, .int .u64 0, .int .u64 0, .int .u64 0, .int .u64 0, .int .u64 0, .int .u64 0, .int .u64 0] 36 (0, 0))) := HX6.out
        clear HX6
        have HX6 := HX6'
        clear HX6'
        have HT4 : Hid (decR b = decR3 b.length (fixedS r2 0 8) (takePolS (fixedS r2 0 8).2.1 (fixedS r2 0 8).2.2)) := HT3.out
        clear HT3
        have HT3 := HT4
        clear HT4
        obtain ⟨y0, y1, y2, y3, y4, y5, y6, y7, y8, y9, y10, y11⟩ := box12 HY6.out
        have yf := heap_frozen HY6.out
        obtain ⟨x0, x1, x2, x3, x4, x5, x6, x7, x8, x9, x10, x11⟩ := box12 HX6.out
        have xf := heap_frozen HX6.out
        go_wp2_with fail
        clear y0 y1 y2 y3 y4 y5 y6 y7 y8 y9 y10 y11 yf
        clear x0 x1 x2 x3 x4 x5 x6 x7 x8 x9 x10 x11 xf
        refine (u64_calls w6 (w.heap.size + 1) g (p 2) (p 3) r2 0 (e4_two (e4_below HP.out HB6.out)) HR6.out).mono ?_
        rintro e w7 ⟨rfl, h1, h2⟩
        have HR7 := Go.Lib.hid h1
        have HB7 := Go.Lib.hid (HB6.out.trans (h2.below (B := w.heap.size) (by omega)))
        have HY7 := Go.Lib.hid (keep_heap (keep_only h2) HY6.out (by omega))
        have HX7 := Go.Lib.hid (keep_heap (keep_only h2) HX6.out (by omega))
        clear h1 h2 HR6 HB6 HY6 HX6
        generalize fixedS r2 0 8 = uq7 at *
        obtain ⟨v7, r7, f7⟩ := uq7
        simp only at HR7 HT3 ⊢
        obtain ⟨y0, y1, y2, y3, y4, y5, y6, y7, y8, y9, y10, y11⟩ := box12 HY7.out
        have yf := heap_frozen HY7.out
        obtain ⟨x0, x1, x2, x3, x4, x5, x6, x7, x8, x9, x10, x11⟩ := box12 HX7.out
        have xf := heap_frozen HX7.out
        go_wp2_with fail
        clear y0 y1 y2 y3 y4 y5 y6 y7 y8 y9 y10 y11 yf
        clear x0 x1 x2 x3 x4 x5 x6 x7 x8 x9 x10 x11 xf
        obtain ⟨W9, hnew⟩ : ∃ W, W = w7.setCell ⟨w2.heap.size, 2, none⟩ (.int .u64 (n64 v7)) := ⟨_, rfl⟩
        have hrd : Rd W9 (w.heap.size + 1) g r7 (fv (p 2) (p 3) f7) := by rw [hnew]; exact rd_set HR7.out HX7.out (by decide) rfl _ _
        have hbl : Below w.heap.size w W9 := by rw [hnew]; exact HB7.out.setCell (by show w.heap.size ≤ w2.heap.size; omega) _
        have hy : W9.heap[w.heap.size]? = some (.cells #[.int .i64 0, .int .i64 0, .int .u64 0, .int .u64 0, .int .i64 0, .int .u64 0, .int .u64 0, .int .u64 0, .int .u64 0, .int .u64 0, .int .u64 0, .int .u64 0] 36 (0, 0)) := by rw [hnew]; exact set_other HY7.out (by omega) _ _
        have hx : W9.heap[w2.heap.size]? = some (.cells #[.int .i64 3, .int .i64 0, .int .u64 (n64 v7), .int .u64 0, .int .i64 0, .int .u64 0, .int .u64 0, .int .u64 0, .int .u64 0, .int .u64 0, .int .u64 0, .int .u64 0] 36 (0, 0)) := by rw [hnew]; exact set_heap HX7.out _ _
        have HR9 := Go.Lib.hid hrd
        have HB9 := Go.Lib.hid hbl
        have HY9 := Go.Lib.hid hy
        have HX9 := Go.Lib.hid hx
        clear hrd hbl hy hx HR7 HB7 HY7 HX7
        rw [← hnew]
        clear hnew
        refine (takePolicy_calls p (w.heap.size + 1) g r7 f7 W9 (e4_below HP.out HB9.out) (gb_mono HG.out (Nat.le_succ _)) (by have := HB9.out.size; have := rd_lt HR9.out; omega) HR9.out).mono ?_
        rintro e w10 ⟨rfl, h1, h2⟩
        have HR10 := Go.Lib.hid h1
        have HB10 := Go.Lib.hid (HB9.out.trans (keep_below h2 (by omega) HB9.out.size))
        have HY10 := Go.Lib.hid (keep_heap h2 HY9.out (by omega))
        have HX10 := Go.Lib.hid (keep_heap h2 HX9.out (by omega))
        have hnw10 : w.heap.size < w10.heap.size := heap_lt HY10.out
        have hn10 : w2.heap.size < w10.heap.size := heap_lt HX10.out
        clear h1 h2 HR9 HB9 HY9 HX9
        have HT4 : Hid (decR b = if (takePolS r7 f7).2.1 ≠ 0 then (ansZ, (takePolS r7 f7).2.1) else ansOr ⟨3, ⟨0, v7, 0, (takePolS r7 f7).1, ⟨(fixedS (takePolS r7 f7).2.2.1 (takePolS r7 f7).2.2.2 8).1, (fixedS (fixedS (takePolS r7 f7).2.2.1 (takePolS r7 f7).2.2.2 8).2.1 (fixedS (takePolS r7 f7).2.2.1 (takePolS r7 f7).2.2.2 8).2.2 8).1, (fixedS (fixedS (fixedS (takePolS r7 f7).2.2.1 (takePolS r7 f7).2.2.2 8).2.1 (fixedS (takePolS r7 f7).2.2.1 (takePolS r7 f7).2.2.2 8).2.2 8).2.1 (fixedS (fixedS (takePolS r7 f7).2.2.1 (takePolS r7 f7).2.2.2 8).2.1 (fixedS (takePolS r7 f7).2.2.1 (takePolS r7 f7).2.2.2 8).2.2 8).2.2 8).1⟩⟩⟩ (endE (fixedS (fixedS (fixedS (takePolS r7 f7).2.2.1 (takePolS r7 f7).2.2.2 8).2.1 (fixedS (takePolS r7 f7).2.2.1 (takePolS r7 f7).2.2.2 8).2.2 8).2.1 (fixedS (fixedS (takePolS r7 f7).2.2.1 (takePolS r7 f7).2.2.2 8).2.1 (fixedS (takePolS r7 f7).2.2.1 (takePolS r7 f7).2.2.2 8).2.2 8).2.2 8).2.1 (fixedS (fixedS (fixedS (takePolS r7 f7).2.2.1 (takePolS r7 f7).2.2.2 8).2.1 (fixedS (takePolS r7 f7).2.2.1 (takePolS r7 f7).2.2.2 8).2.2 8).2.1 (fixedS (fixedS (takePolS r7 f7).2.2.1 (takePolS r7 f7).2.2.2 8).2.1 (fixedS (takePolS r7 f7).2.2.1 (takePolS r7 f7).2.2.2 8).2.2 8).2.2 8).2.2 b.length)) := HT3.out
        clear HT3
        have HT3 := HT4
        clear HT4
        generalize takePolS r7 f7 = pq at *
        obtain ⟨pol, k, r10, f10⟩ := pq
        simp only [polA] at HR10 HT3 ⊢
        obtain ⟨y0, y1, y2, y3, y4, y5, y6, y7, y8, y9, y10, y11⟩ := box12 HY10.out
        have yf := heap_frozen HY10.out
        obtain ⟨x0, x1, x2, x3, x4, x5, x6, x7, x8, x9, x10, x11⟩ := box12 HX10.out
        have xf := heap_frozen HX10.out
        cases k with
        | succ m =>
          have hT := HT3.out
          rw [if_pos (by simp)] at hT
          have HT4 := Go.Lib.hid hT
          clear hT HT3
          simp only [errv]
          go_wp2
          refine bodyPost_ret (v := .tuple #[.agg #[.int .i64 0, .int .i64 0, .int .u64 0, .int .u64 0, .int .i64 0, .int .u64 0, .int .u64 0, .int .u64 0, .int .u64 0, .int .u64 0, .int .u64 0, .int .u64 0], .iface 105 (.pointer (some (p (m + 1))))]) (by simp [results, Tryd.results14, go_sem, hn10, hnw10, y0, y1, y2, y3, y4, y5, y6, y7, y8, y9, y10, y11]) rfl ?_
          rw [HT4.out]
          exact ⟨rfl, Below.alloc (set12_below HB10.out (Nat.le_refl _) _ _ _ _ _ _ _ _ _ _ _ _) (by have := HB10.out.size; simp [World.setCell]; omega) _⟩
        | zero =>
          have hT := HT3.out
          rw [if_neg (by simp)] at hT
          have HT4 := Go.Lib.hid hT
          clear hT HT3
          have HT3 := HT4
          clear HT4
          simp only [errv]
          go_wp2_with fail
          clear y0 y1 y2 y3 y4 y5 y6 y7 y8 y9 y10 y11 yf
          clear x0 x1 x2 x3 x4 x5 x6 x7 x8 x9 x10 x11 xf
          obtain ⟨W11, hnew⟩ : ∃ W, W = (((((w10.setCell ⟨w2.heap.size, 4, none⟩ (.int .i64 pol.kind)).setCell ⟨w2.heap.size, 5, none⟩ (.int .u64 (n64 pol.gap))).setCell ⟨w2.heap.size, 6, none⟩ (.int .u64 (n64 pol.slack))).setCell ⟨w2.heap.size, 7, none⟩ (.int .u64 (n64 pol.limit))).setCell ⟨w2.heap.size, 8, none⟩ (.int .u64 (n64 pol.span))).alloc (.cells #[.int .i64 pol.kind, .int .u64 (n64 pol.gap), .int .u64 (n64 pol.slack), .int .u64 (n64 pol.limit), .int .u64 (n64 pol.span)] 28) := ⟨_, rfl⟩
          have hrd : Rd W11 (w.heap.size + 1) g r10 (fv (p 2) (p 3) f10) := by rw [hnew]; exact rd_alloc (rd_fiveG HR10.out HX10.out (by decide) rfl _ _ _ _ _ _ _ _ _ _) _
          have hbl : Below w.heap.size w W11 := by rw [hnew]; exact Below.alloc (fiveG_below HB10.out (by show w.heap.size ≤ w2.heap.size; omega) _ _ _ _ _ _ _ _ _ _) (by have := HB10.out.size; simp [World.setCell]; omega) _
          have hy : W11.heap[w.heap.size]? = some (.cells #[.int .i64 0, .int .i64 0, .int .u64 0, .int .u64 0, .int .i64 0, .int .u64 0, .int .u64 0, .int .u64 0, .int .u64 0, .int .u64 0, .int .u64 0, .int .u64 0] 36 (0, 0)) := by rw [hnew]; exact alloc_heap (fiveG_other HY10.out (by omega) _ _ _ _ _ _ _ _ _ _) _
          have hx : W11.heap[w2.heap.size]? = some (.cells #[.int .i64 3, .int .i64 0, .int .u64 (n64 v7), .int .u64 0, .int .i64 pol.kind, .int .u64 (n64 pol.gap), .int .u64 (n64 pol.slack), .int .u64 (n64 pol.limit), .int .u64 (n64 pol.span), .int .u64 0, .int .u64 0, .int .u64 0] 36 (0, 0)) := by rw [hnew]; exact alloc_heap (set_heap (set_heap (set_heap (set_heap (set_heap HX10.out _ _) _ _) _ _) _ _) _ _) _
          have HR11 := Go.Lib.hid hrd
          have HB11 := Go.Lib.hid hbl
          have HY11 := Go.Lib.hid hy
          have HX11 := Go.Lib.hid hx
          clear hrd hbl hy hx HR10 HB10 HY10 HX10
          rw [← hnew]
          clear hnew
          refine (u64_calls W11 (w.heap.size + 1) g (p 2) (p 3) r10 f10 (e4_two (e4_below HP.out HB11.out)) HR11.out).mono ?_
          rintro e w12 ⟨rfl, h1, h2⟩
          have HR12 := Go.Lib.hid h1
          have HB12 := Go.Lib.hid (HB11.out.trans (h2.below (B := w.heap.size) (by omega)))
          have HY12 := Go.Lib.hid (keep_heap (keep_only h2) HY11.out (by omega))
          have HX12 := Go.Lib.hid (keep_heap (keep_only h2) HX11.out (by omega))
          clear h1 h2 HR11 HB11 HY11 HX11
          generalize fixedS r10 f10 8 = uq12 at *
          obtain ⟨v12, r12, f12⟩ := uq12
          simp only at HR12 HT3 ⊢
          go_wp2_with fail
          refine (u64_calls w12 (w.heap.size + 1) g (p 2) (p 3) r12 f12 (e4_two (e4_below HP.out HB12.out)) HR12.out).mono ?_
          rintro e w13 ⟨rfl, h1, h2⟩
          have HR13 := Go.Lib.hid h1
          have HB13 := Go.Lib.hid (HB12.out.trans (h2.below (B := w.heap.size) (by omega)))
          have HY13 := Go.Lib.hid (keep_heap (keep_only h2) HY12.out (by omega))
          have HX13 := Go.Lib.hid (keep_heap (keep_only h2) HX12.out (by omega))
          clear h1 h2 HR12 HB12 HY12 HX12
          generalize fixedS r12 f12 8 = uq13 at *
          obtain ⟨v13, r13, f13⟩ := uq13
          simp only at HR13 HT3 ⊢
          go_wp2_with fail
          refine (u64_calls w13 (w.heap.size + 1) g (p 2) (p 3) r13 f13 (e4_two (e4_below HP.out HB13.out)) HR13.out).mono ?_
          rintro e w14 ⟨rfl, h1, h2⟩
          have HR14 := Go.Lib.hid h1
          have HB14 := Go.Lib.hid (HB13.out.trans (h2.below (B := w.heap.size) (by omega)))
          have HY14 := Go.Lib.hid (keep_heap (keep_only h2) HY13.out (by omega))
          have HX14 := Go.Lib.hid (keep_heap (keep_only h2) HX13.out (by omega))
          clear h1 h2 HR13 HB13 HY13 HX13
          generalize fixedS r13 f13 8 = uq14 at *
          obtain ⟨v14, r14, f14⟩ := uq14
          simp only at HR14 HT3 ⊢
          obtain ⟨y0, y1, y2, y3, y4, y5, y6, y7, y8, y9, y10, y11⟩ := box12 HY14.out
          have yf := heap_frozen HY14.out
          obtain ⟨x0, x1, x2, x3, x4, x5, x6, x7, x8, x9, x10, x11⟩ := box12 HX14.out
          have xf := heap_frozen HX14.out
          go_wp2_with fail
          clear y0 y1 y2 y3 y4 y5 y6 y7 y8 y9 y10 y11 yf
          clear x0 x1 x2 x3 x4 x5 x6 x7 x8 x9 x10 x11 xf
          obtain ⟨W15, hnew⟩ : ∃ W, W = ((w14.setCell ⟨w2.heap.size, 9, none⟩ (.int .u64 (n64 v12))).setCell ⟨w2.heap.size, 10, none⟩ (.int .u64 (n64 v13))).setCell ⟨w2.heap.size, 11, none⟩ (.int .u64 (n64 v14)) := ⟨_, rfl⟩
          have hrd : Rd W15 (w.heap.size + 1) g r14 (fv (p 2) (p 3) f14) := by rw [hnew]; exact rd_set (rd_set (rd_set HR14.out HX14.out (by decide) rfl _ _) (set_heap HX14.out _ _) (by decide) rfl _ _) (set_heap (set_heap HX14.out _ _) _ _) (by decide) rfl _ _
          have hbl : Below w.heap.size w W15 := by rw [hnew]; exact ((HB14.out.setCell (by show w.heap.size ≤ w2.heap.size; omega) _).setCell (by show w.heap.size ≤ w2.heap.size; omega) _).setCell (by show w.heap.size ≤ w2.heap.size; omega) _
          have hy : W15.heap[w.heap.size]? = some (.cells #[.int .i64 0, .int .i64 0, .int .u64 0, .int .u64 0, .int .i64 0, .int .u64 0, .int .u64 0, .int .u64 0, .int .u64 0, .int .u64 0, .int .u64 0, .int .u64 0] 36 (0, 0)) := by rw [hnew]; exact set_other (set_other (set_other HY14.out (by omega) _ _) (by omega) _ _) (by omega) _ _
          have hx : W15.heap[w2.heap.size]? = some (.cells #[.int .i64 3, .int .i64 0, .int .u64 (n64 v7), .int .u64 0, .int .i64 pol.kind, .int .u64 (n64 pol.gap), .int .u64 (n64 pol.slack), .int .u64 (n64 pol.limit), .int .u64 (n64 pol.span), .int .u64 (n64 v12), .int .u64 (n64 v13), .int .u64 (n64 v14)] 36 (0, 0)) := by rw [hnew]; exact set_heap (set_heap (set_heap HX14.out _ _) _ _) _ _
          have HR15 := Go.Lib.hid hrd
          have HB15 := Go.Lib.hid hbl
          have HY15 := Go.Lib.hid hy
          have HX15 := Go.Lib.hid hx
          clear hrd hbl hy hx HR14 HB14 HY14 HX14
          rw [← hnew]
          clear hnew
          refine (end_calls' p (w.heap.size + 1) g r14 f14 A c b.length W15 (e4_below HP.out HB15.out) (by omega) HR15.out).mono ?_
          rintro e wx ⟨rfl, rfl⟩
          generalize endE r14 f14 b.length = k at *
          obtain ⟨y0, y1, y2, y3, y4, y5, y6, y7, y8, y9, y10, y11⟩ := box12 HY15.out
          have yf := heap_frozen HY15.out
          obtain ⟨x0, x1, x2, x3, x4, x5, x6, x7, x8, x9, x10, x11⟩ := box12 HX15.out
          have xf := heap_frozen HX15.out
          cases k with
          | zero =>
            simp only [errv]
            go_wp2
            refine bodyPost_ret (v := .tuple #[.agg #[.int .i64 3, .int .i64 0, .int .u64 (n64 v7), .int .u64 0, .int .i64 pol.kind, .int .u64 (n64 pol.gap), .int .u64 (n64 pol.slack), .int .u64 (n64 pol.limit), .int .u64 (n64 pol.span), .int .u64 (n64 v12), .int .u64 (n64 v13), .int .u64 (n64 v14)], .nilIface]) (by simp [results, Tryd.results14, go_sem, y0, y1, y2, y3, y4, y5, y6, y7, y8, y9, y10, y11]) rfl ?_
            rw [HT3.out, show ansOr ⟨3, ⟨0, v7, 0, pol, ⟨v12, v13, v14⟩⟩⟩ 0 = (⟨3, ⟨0, v7, 0, pol, ⟨v12, v13, v14⟩⟩⟩, 0) from rfl]
            exact ⟨rfl, set12_below HB15.out (Nat.le_refl _) _ _ _ _ _ _ _ _ _ _ _ _⟩
          | succ m =>
            simp only [errv]
            go_wp2
            refine bodyPost_ret (v := .tuple #[.agg #[.int .i64 0, .int .i64 0, .int .u64 0, .int .u64 0, .int .i64 0, .int .u64 0, .int .u64 0, .int .u64 0, .int .u64 0, .int .u64 0, .int .u64 0, .int .u64 0], .iface 105 (.pointer (some (p (m + 1))))]) (by simp [results, Tryd.results14, go_sem, y0, y1, y2, y3, y4, y5, y6, y7, y8, y9, y10, y11]) rfl ?_
            rw [HT3.out, show ansOr ⟨3, ⟨0, v7, 0, pol, ⟨v12, v13, v14⟩⟩⟩ (m + 1) = (ansZ, m + 1) from rfl]
            exact ⟨rfl, set12_below HB15.out (Nat.le_refl _) _ _ _ _ _ _ _ _ _ _ _ _⟩
      · have HT4 : Hid (decR b = ansOr ⟨3, ⟨n8 b1, 0, 0, polZ, levZ⟩⟩ (endE r2 0 b.length)) := by
          refine HT3.out.trans ?_
          have c0 : ¬ b1.toNat = 0 := fun h => k0 (UInt8.toNat_inj.1 h)
          unfold decRC
          rw [if_neg (fun h => by simp at h), if_neg (fun h => by simp at h), if_neg (fun h => c0 h.2)]
          rfl
        have q0 : (n8 b1 == 0) = false := by rw [show (0 : Int) = n8 0 from rfl, beq_n8]; simpa using k0
        clear HT3 k0
        have HT3 := HT4
        clear HT4
        have HX6' : Hid (w6.heap[w2.heap.size]? = some (.cells #[.int .i64 3, .int .i64 (n8 b1), .int .u64 0, .int .u64 0, .int .i64 0, .int .u64 0, .int .u64 0, .int .u64 0, .int .u64 0, .int .u64 0, .int .u64 0, .int .u64 0] 36 (0, 0))) := HX6.out
        clear HX6
        have HX6 := HX6'
        clear HX6'
        obtain ⟨y0, y1, y2, y3, y4, y5, y6, y7, y8, y9, y10, y11⟩ := box12 HY6.out
        have yf := heap_frozen HY6.out
        obtain ⟨x0, x1, x2, x3, x4, x5, x6, x7, x8, x9, x10, x11⟩ := box12 HX6.out
        have xf := heap_frozen HX6.out
        go_wp2_with fail
        clear y0 y1 y2 y3 y4 y5 y6 y7 y8 y9 y10 y11 yf
        clear x0 x1 x2 x3 x4 x5 x6 x7 x8 x9 x10 x11 xf
        refine (end_calls' p (w.heap.size + 1) g r2 0 A c b.length w6 (e4_below HP.out HB6.out) (by omega) HR6.out).mono ?_
        rintro e wx ⟨rfl, rfl⟩
        generalize endE r2 0 b.length = k at *
        obtain ⟨y0, y1, y2, y3, y4, y5, y6, y7, y8, y9, y10, y11⟩ := box12 HY6.out
        have yf := heap_frozen HY6.out
        obtain ⟨x0, x1, x2, x3, x4, x5, x6, x7, x8, x9, x10, x11⟩ := box12 HX6.out
        have xf := heap_frozen HX6.out
        cases k with
        | zero =>
          simp only [errv]
          go_wp2
          refine bodyPost_ret (v := .tuple #[.agg #[.int .i64 3, .int .i64 (n8 b1), .int .u64 0, .int .u64 0, .int .i64 0, .int .u64 0, .int .u64 0, .int .u64 0, .int .u64 0, .int .u64 0, .int .u64 0, .int .u64 0], .nilIface]) (by simp [results, Tryd.results14, go_sem, y0, y1, y2, y3, y4, y5, y6, y7, y8, y9, y10, y11]) rfl ?_
          rw [HT3.out, show ansOr ⟨3, ⟨(n8 b1), 0, 0, polZ, levZ⟩⟩ 0 = (⟨3, ⟨(n8 b1), 0, 0, polZ, levZ⟩⟩, 0) from rfl]
          exact ⟨rfl, set12_below HB6.out (Nat.le_refl _) _ _ _ _ _ _ _ _ _ _ _ _⟩
        | succ m =>
          simp only [errv]
          go_wp2
          refine bodyPost_ret (v := .tuple #[.agg #[.int .i64 0, .int .i64 0, .int .u64 0, .int .u64 0, .int .i64 0, .int .u64 0, .int .u64 0, .int .u64 0, .int .u64 0, .int .u64 0, .int .u64 0, .int .u64 0], .iface 105 (.pointer (some (p (m + 1))))]) (by simp [results, Tryd.results14, go_sem, y0, y1, y2, y3, y4, y5, y6, y7, y8, y9, y10, y11]) rfl ?_
          rw [HT3.out, show ansOr ⟨3, ⟨(n8 b1), 0, 0, polZ, levZ⟩⟩ (m + 1) = (ansZ, m + 1) from rfl]
          exact ⟨rfl, set12_below HB6.out (Nat.le_refl _) _ _ _ _ _ _ _ _ _ _ _ _⟩
    have HT4 : Hid (decR b = ansOr ⟨n8 b0, ⟨n8 b1, 0, 0, polZ, levZ⟩⟩ (endE r2 0 b.length)) := by
      refine HT3.out.trans ?_
      have c2 : ¬ b0.toNat = 2 := fun h => k2 (UInt8.toNat_inj.1 h)
      have c3 : ¬ b0.toNat = 3 := fun h => k3 (UInt8.toNat_inj.1 h)
      unfold decRC
      rw [if_neg (fun h => c2 h.1), if_neg (fun h => c2 h.1), if_neg (fun h => c3 h.1)]
      rfl
    have q2 : (n8 b0 == 2) = false := by rw [show (2 : Int) = n8 2 from rfl, beq_n8]; simpa using k2
    have q3 : (n8 b0 == 3) = false := by rw [show (3 : Int) = n8 3 from rfl, beq_n8]; simpa using k3
    clear HT3 k2 k3
    have HT3 := HT4
    clear HT4
    obtain ⟨y0, y1, y2, y3, y4, y5, y6, y7, y8, y9, y10, y11⟩ := box12 HY6.out
    have yf := heap_frozen HY6.out
    obtain ⟨x0, x1, x2, x3, x4, x5, x6, x7, x8, x9, x10, x11⟩ := box12 HX6.out
    have xf := heap_frozen HX6.out
    go_wp2_with fail
    clear y0 y1 y2 y3 y4 y5 y6 y7 y8 y9 y10 y11 yf
    clear x0 x1 x2 x3 x4 x5 x6 x7 x8 x9 x10 x11 xf
    refine (end_calls' p (w.heap.size + 1) g r2 0 A c b.length w6 (e4_below HP.out HB6.out) (by omega) HR6.out).mono ?_
    rintro e wx ⟨rfl, rfl⟩
    generalize endE r2 0 b.length = k at *
    obtain ⟨y0, y1, y2, y3, y4, y5, y6, y7, y8, y9, y10, y11⟩ := box12 HY6.out
    have yf := heap_frozen HY6.out
    obtain ⟨x0, x1, x2, x3, x4, x5, x6, x7, x8, x9, x10, x11⟩ := box12 HX6.out
    have xf := heap_frozen HX6.out
    cases k with
    | zero =>
      simp only [errv]
      go_wp2
      refine bodyPost_ret (v := .tuple #[.agg #[.int .i64 (n8 b0), .int .i64 (n8 b1), .int .u64 0, .int .u64 0, .int .i64 0, .int .u64 0, .int .u64 0, .int .u64 0, .int .u64 0, .int .u64 0, .int .u64 0, .int .u64 0], .nilIface]) (by simp [results, Tryd.results14, go_sem, y0, y1, y2, y3, y4, y5, y6, y7, y8, y9, y10, y11]) rfl ?_
      rw [HT3.out, show ansOr ⟨(n8 b0), ⟨(n8 b1), 0, 0, polZ, levZ⟩⟩ 0 = (⟨(n8 b0), ⟨(n8 b1), 0, 0, polZ, levZ⟩⟩, 0) from rfl]
      exact ⟨rfl, set12_below HB6.out (Nat.le_refl _) _ _ _ _ _ _ _ _ _ _ _ _⟩
    | succ m =>
      simp only [errv]
      go_wp2
      refine bodyPost_ret (v := .tuple #[.agg #[.int .i64 0, .int .i64 0, .int .u64 0, .int .u64 0, .int .i64 0, .int .u64 0, .int .u64 0, .int .u64 0, .int .u64 0, .int .u64 0, .int .u64 0, .int .u64 0], .iface 105 (.pointer (some (p (m + 1))))]) (by simp [results, Tryd.results14, go_sem, y0, y1, y2, y3, y4, y5, y6, y7, y8, y9, y10, y11]) rfl ?_
      rw [HT3.out, show ansOr ⟨(n8 b0), ⟨(n8 b1), 0, 0, polZ, levZ⟩⟩ (m + 1) = (ansZ, m + 1) from rfl]
      exact ⟨rfl, set12_below HB6.out (Nat.le_refl _) _ _ _ _ _ _ _ _ _ _ _ _⟩

theorem decR_calls (A : Option Addr) (c : Nat) (b : List UInt8) (p : Nat → Addr) (w : World) (hp : E4 w p) (hl : b.length ≤ 140737488351232) (hA : Cells w A (Bs b)) :
    Calls Tryd.prog 14 #[.slice A b.length c] w fun e w' => GaveA p w w' e (decR b) := by
  by_cases hf : (fixedS b 0 1).2.2 = 0
  · by_cases h5 : 5 < (fixedS b 0 1).1.toUInt8.toNat
    · exact decR_hi A c b p w hp hl hA ⟨hf, h5⟩
    · exact decR_code A c b p w hp hl hA ⟨hf, h5⟩
  · exact decR_fault A c b p w hp hl hA hf
end Go.Proofs.YtonfeppenhebjaaDoor

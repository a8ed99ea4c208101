/- Package request: Decode. (Printed by gen_reqd.py of this session.) -/
import Derived.Test.YtonfeppenhebjaaDoorReqEnd
namespace Go.Proofs.YtonfeppenhebjaaDoor
open Go Go.RowKit
set_option linter.unusedVariables false
set_option linter.unusedSimpArgs false
attribute [local go_sem] IntKind.wrap_u64 c64_8 c8_64 c16_64 c32_64 c64_16 c64_32 or8 and8 n64_self n8_self beq_n64 beq_n8 bne_n8 bne_n64 beq_n64_0 bne_n64_0 wrap_b8

/-- what Decode gives -/
def GaveR (p : Nat → Addr) (w w' : World) (e : Ending) (r : Req × Nat) : Prop := e = .returned (.tuple #[.agg (reqA r.1), errv p r.2]) ∧ Below w.heap.size w w'
theorem fv_iface (p : Nat → Addr) (m : Nat) : ∃ a, fv (p 2) (p 3) (m + 1) = .iface 105 (.pointer (some a)) ∧ errv p (fault (m + 1)) = .iface 105 (.pointer (some a)) := by
  have h : ∃ a, fv (p 2) (p 3) (m + 1) = .iface 105 (.pointer (some a)) := by cases m <;> exact ⟨_, rfl⟩
  obtain ⟨a, ha⟩ := h
  exact ⟨a, ha, by rw [← fv_errv]; exact ha⟩

set_option maxRecDepth 100000 in
set_option maxHeartbeats 3200000 in
theorem decode_fault (A : Option Addr) (c : Nat) (b : List UInt8) (p : Nat → Addr) (w : World) (hp : E4 w p) (hl : b.length ≤ 140737488351232) (hA : Cells w A (Bs b)) (hf : (fixedS b 0 1).2.2 ≠ 0) :
    Calls Tryd.prog 12 #[.slice A b.length c] w fun e w' => GaveR p w w' e (decS b) := by
  have hbx : Below w.heap.size w (w.alloc (.cells #[.int .i64 0, .string ⟨#[]⟩, .int .i64 0, .int .u64 0, .int .u64 0, .int .u64 0, .int .u64 0, .int .u64 0] 30)) := (Below.refl _ _).alloc (Nat.le_refl _) _
  have HBX := Go.Lib.hid hbx
  have HNR := Go.Lib.hid (newReader_calls A c b (w.alloc (.cells #[.int .i64 0, .string ⟨#[]⟩, .int .i64 0, .int .u64 0, .int .u64 0, .int .u64 0, .int .u64 0, .int .u64 0] 30)) (by omega) (cells_below hbx hA))
  have HP := Go.Lib.hid hp
  have HG := Go.Lib.hid (gb_of hp)
  have HN0 := Go.Lib.hid (heap_here w (.cells #[.int .i64 0, .string ⟨#[]⟩, .int .i64 0, .int .u64 0, .int .u64 0, .int .u64 0, .int .u64 0, .int .u64 0] 30) w.heap.size rfl)
  have HT : Hid (decS b = decQ b.length (fixedS b 0 1)) := rfl
  clear hbx hA hp
  go_enter Tryd.func12, Tryd.ntmps12
  go_wp2_with fail
  refine HNR.out.mono ?_
  rintro e w1 ⟨g, rfl, hr1, hb1⟩
  have HR1 := Go.Lib.hid (show Rd w1 (w.alloc (.cells #[.int .i64 0, .string ⟨#[]⟩, .int .i64 0, .int .u64 0, .int .u64 0, .int .u64 0, .int .u64 0, .int .u64 0] 30)).heap.size g b (fv (p 2) (p 3) 0) from hr1)
  have HB1 := Go.Lib.hid (below_then HBX.out hb1)
  have HN1 := Go.Lib.hid (below_heap hb1 HN0.out)
  have hB0 : (w.alloc (.cells #[.int .i64 0, .string ⟨#[]⟩, .int .i64 0, .int .u64 0, .int .u64 0, .int .u64 0, .int .u64 0, .int .u64 0] 30)).heap.size = w.heap.size + 1 := by simp
  rw [hB0] at HR1
  have hgg : w.heap.size < g := by have := rd_lt HR1.out; omega
  have hgw1 : g < w1.heap.size := (rd_lt HR1.out).2
  clear hr1 hb1 HNR HBX HN0 hB0
  go_wp2_with fail
  refine (u8_calls w1 (w.heap.size + 1) g (p 2) (p 3) b 0 (e4_two (e4_below HP.out HB1.out)) HR1.out).mono ?_
  rintro e w2 ⟨rfl, h1, h2⟩
  have HR2 := Go.Lib.hid h1
  have HB2 := Go.Lib.hid (HB1.out.trans (h2.below (B := w.heap.size) (by omega)))
  have HN2 := Go.Lib.hid (keep_heap (keep_only h2) HN1.out (by omega))
  have hs2 : w2.heap.size = w1.heap.size := h2.2.2.2.1
  have hgw2 : g < w2.heap.size := by omega
  have hnw2 : w.heap.size < w2.heap.size := by omega
  clear h1 h2 HR1 HB1 HN1 hs2 hgw1
  have HF := Go.Lib.hid hf
  clear hf
  generalize fixedS b 0 1 = q at *
  obtain ⟨u, r1, f1⟩ := q
  have hf := HF.out
  clear HF
  simp only at HR2 HT hf ⊢
  generalize hbu : u.toUInt8 = b0 at *
  have HBU := Go.Lib.hid hbu
  clear hbu
  have hb0 : 0 ≤ n8 b0 := by unfold n8; omega
  have hb1 : n8 b0 < 256 := by unfold n8; have := b0.toNat_lt; omega
  have HF := Go.Lib.hid hf
  clear hf
  cases f1 with
  | zero => exact absurd rfl HF.out
  | succ m =>
    obtain ⟨a, ha, he⟩ := fv_iface p m
    have hT : decQ b.length (u, r1, m + 1) = (reqZ, fault (m + 1)) := by unfold decQ; rw [if_pos (by simp)]
    have HT2 := Go.Lib.hid (HT.out.trans hT)
    have HE := Go.Lib.hid he
    clear hT HT he
    obtain ⟨W2, hW2⟩ : ∃ W2, W2 = w2.alloc (.cells #[.int .i64 (n8 b0), .string ⟨#[]⟩, .int .i64 0, .int .u64 0, .int .u64 0, .int .u64 0, .int .u64 0, .int .u64 0] 30) := ⟨_, rfl⟩
    have hR3 : Rd W2 (w.heap.size + 1) g r1 (fv (p 2) (p 3) (m + 1)) := by rw [hW2]; exact rd_alloc HR2.out _
    have hB3 : Below w.heap.size w W2 := by rw [hW2]; exact HB2.out.alloc HB2.out.size _
    have hn2 : W2.heap[w.heap.size]? = some (.cells #[.int .i64 0, .string ⟨#[]⟩, .int .i64 0, .int .u64 0, .int .u64 0, .int .u64 0, .int .u64 0, .int .u64 0] 30 (0, 0)) := by rw [hW2]; exact below_heap ((Below.refl _ _).alloc (Nat.le_refl _) _) HN2.out
    have hn5 : W2.heap[w2.heap.size]? = some (.cells #[.int .i64 (n8 b0), .string ⟨#[]⟩, .int .i64 0, .int .u64 0, .int .u64 0, .int .u64 0, .int .u64 0, .int .u64 0] 30 (0, 0)) := by rw [hW2]; exact heap_here _ _ _ rfl
    have HR3 := Go.Lib.hid hR3
    have HB3 := Go.Lib.hid hB3
    have HY := Go.Lib.hid hn2
    have HX := Go.Lib.hid hn5
    clear hR3 hB3 hn2 hn5 HR2 HB2 HN2
    go_wp2_with fail
    rw [← hW2]
    clear hW2
    rw [ha] at HR3
    clear ha
    obtain ⟨y0, y1, y2, y3, y4, y5, y6, y7⟩ := box8 HY.out
    have yf := heap_frozen HY.out
    refine (err_calls W2 (w.heap.size + 1) g _ _ HR3.out).mono ?_
    rintro e w3 ⟨rfl, rfl⟩
    go_wp2_with fail
    refine (err_calls w3 (w.heap.size + 1) g _ _ HR3.out).mono ?_
    rintro e w4 ⟨rfl, rfl⟩
    go_wp2
    refine bodyPost_ret (v := .tuple #[.agg #[.int .i64 0, .string ⟨#[]⟩, .int .i64 0, .int .u64 0, .int .u64 0, .int .u64 0, .int .u64 0, .int .u64 0], .iface 105 (.pointer (some a))]) (by simp [results, Tryd.results12, go_sem, y0, y1, y2, y3, y4, y5, y6, y7]) rfl ?_
    rw [HT2.out]
    exact ⟨by rw [HE.out]; rfl, set8_below HB3.out (Nat.le_refl _) _ _ _ _ _ _ _ _⟩

set_option maxRecDepth 100000 in
set_option maxHeartbeats 3200000 in
theorem decode_lo (A : Option Addr) (c : Nat) (b : List UInt8) (p : Nat → Addr) (w : World) (hp : E4 w p) (hl : b.length ≤ 140737488351232) (hA : Cells w A (Bs b)) (hf : (fixedS b 0 1).2.2 = 0 ∧ (fixedS b 0 1).1.toUInt8.toNat < 1) :
    Calls Tryd.prog 12 #[.slice A b.length c] w fun e w' => GaveR p w w' e (decS b) := by
  have hbx : Below w.heap.size w (w.alloc (.cells #[.int .i64 0, .string ⟨#[]⟩, .int .i64 0, .int .u64 0, .int .u64 0, .int .u64 0, .int .u64 0, .int .u64 0] 30)) := (Below.refl _ _).alloc (Nat.le_refl _) _
  have HBX := Go.Lib.hid hbx
  have HNR := Go.Lib.hid (newReader_calls A c b (w.alloc (.cells #[.int .i64 0, .string ⟨#[]⟩, .int .i64 0, .int .u64 0, .int .u64 0, .int .u64 0, .int .u64 0, .int .u64 0] 30)) (by omega) (cells_below hbx hA))
  have HP := Go.Lib.hid hp
  have HG := Go.Lib.hid (gb_of hp)
  have HN0 := Go.Lib.hid (heap_here w (.cells #[.int .i64 0, .string ⟨#[]⟩, .int .i64 0, .int .u64 0, .int .u64 0, .int .u64 0, .int .u64 0, .int .u64 0] 30) w.heap.size rfl)
  have HT : Hid (decS b = decQ b.length (fixedS b 0 1)) := rfl
  clear hbx hA hp
  go_enter Tryd.func12, Tryd.ntmps12
  go_wp2_with fail
  refine HNR.out.mono ?_
  rintro e w1 ⟨g, rfl, hr1, hb1⟩
  have HR1 := Go.Lib.hid (show Rd w1 (w.alloc (.cells #[.int .i64 0, .string ⟨#[]⟩, .int .i64 0, .int .u64 0, .int .u64 0, .int .u64 0, .int .u64 0, .int .u64 0] 30)).heap.size g b (fv (p 2) (p 3) 0) from hr1)
  have HB1 := Go.Lib.hid (below_then HBX.out hb1)
  have HN1 := Go.Lib.hid (below_heap hb1 HN0.out)
  have hB0 : (w.alloc (.cells #[.int .i64 0, .string ⟨#[]⟩, .int .i64 0, .int .u64 0, .int .u64 0, .int .u64 0, .int .u64 0, .int .u64 0] 30)).heap.size = w.heap.size + 1 := by simp
  rw [hB0] at HR1
  have hgg : w.heap.size < g := by have := rd_lt HR1.out; omega
  have hgw1 : g < w1.heap.size := (rd_lt HR1.out).2
  clear hr1 hb1 HNR HBX HN0 hB0
  go_wp2_with fail
  refine (u8_calls w1 (w.heap.size + 1) g (p 2) (p 3) b 0 (e4_two (e4_below HP.out HB1.out)) HR1.out).mono ?_
  rintro e w2 ⟨rfl, h1, h2⟩
  have HR2 := Go.Lib.hid h1
  have HB2 := Go.Lib.hid (HB1.out.trans (h2.below (B := w.heap.size) (by omega)))
  have HN2 := Go.Lib.hid (keep_heap (keep_only h2) HN1.out (by omega))
  have hs2 : w2.heap.size = w1.heap.size := h2.2.2.2.1
  have hgw2 : g < w2.heap.size := by omega
  have hnw2 : w.heap.size < w2.heap.size := by omega
  clear h1 h2 HR1 HB1 HN1 hs2 hgw1
  have HF := Go.Lib.hid hf
  clear hf
  generalize fixedS b 0 1 = q at *
  obtain ⟨u, r1, f1⟩ := q
  have hf := HF.out
  clear HF
  simp only at HR2 HT hf ⊢
  generalize hbu : u.toUInt8 = b0 at *
  have HBU := Go.Lib.hid hbu
  clear hbu
  have hb0 : 0 ≤ n8 b0 := by unfold n8; omega
  have hb1 : n8 b0 < 256 := by unfold n8; have := b0.toNat_lt; omega
  obtain rfl : f1 = 0 := hf.1
  have hop := hf.2
  have hop2 := hop
  have HOP := Go.Lib.hid hop2
  clear hf hop hop2
  have hT : decQ b.length (u, r1, 0) = (reqZ, 3) := by
    unfold decQ
    rw [if_neg (by simp)]
    simp only [HBU.out]
    rw [if_pos (by have := HOP.out; omega)]
  have HT2 := Go.Lib.hid (HT.out.trans hT)
  clear hT HT
  obtain ⟨W2, hW2⟩ : ∃ W2, W2 = w2.alloc (.cells #[.int .i64 (n8 b0), .string ⟨#[]⟩, .int .i64 0, .int .u64 0, .int .u64 0, .int .u64 0, .int .u64 0, .int .u64 0] 30) := ⟨_, rfl⟩
  have hR3 : Rd W2 (w.heap.size + 1) g r1 (fv (p 2) (p 3) 0) := by rw [hW2]; exact rd_alloc HR2.out _
  have hB3 : Below w.heap.size w W2 := by rw [hW2]; exact HB2.out.alloc HB2.out.size _
  have hn2 : W2.heap[w.heap.size]? = some (.cells #[.int .i64 0, .string ⟨#[]⟩, .int .i64 0, .int .u64 0, .int .u64 0, .int .u64 0, .int .u64 0, .int .u64 0] 30 (0, 0)) := by rw [hW2]; exact below_heap ((Below.refl _ _).alloc (Nat.le_refl _) _) HN2.out
  have hn5 : W2.heap[w2.heap.size]? = some (.cells #[.int .i64 (n8 b0), .string ⟨#[]⟩, .int .i64 0, .int .u64 0, .int .u64 0, .int .u64 0, .int .u64 0, .int .u64 0] 30 (0, 0)) := by rw [hW2]; exact heap_here _ _ _ rfl
  have HR3 := Go.Lib.hid hR3
  have HB3 := Go.Lib.hid hB3
  have HY := Go.Lib.hid hn2
  have HX := Go.Lib.hid hn5
  clear hR3 hB3 hn2 hn5 HR2 HB2 HN2
  go_wp2_with fail
  rw [← hW2]
  clear hW2
  have e3 := e4_form (e4_below HP.out HB3.out)
  have hg3 : 3 < w.heap.size := HG.out 3 (by decide) (by decide)
  obtain ⟨y0, y1, y2, y3, y4, y5, y6, y7⟩ := box8 HY.out
  have yf := heap_frozen HY.out
  obtain ⟨x0, x1, x2, x3, x4, x5, x6, x7⟩ := box8 HX.out
  have xf := heap_frozen HX.out
  have d1 : decide (n8 b0 < 1) = true := decide_eq_true (by have := HOP.out; unfold n8; omega)
  refine (err_calls W2 (w.heap.size + 1) g _ _ HR3.out).mono ?_
  rintro e w3 ⟨rfl, rfl⟩
  simp only [fv]
  go_wp2
  go_region
  all_goals
    go_wp2
    refine bodyPost_ret (v := .tuple #[.agg #[.int .i64 0, .string ⟨#[]⟩, .int .i64 0, .int .u64 0, .int .u64 0, .int .u64 0, .int .u64 0, .int .u64 0], .iface 105 (.pointer (some (p 3)))]) (by simp [results, Tryd.results12, go_sem, y0, y1, y2, y3, y4, y5, y6, y7]) rfl ?_
    rw [HT2.out]
    exact ⟨rfl, (set8_below HB3.out (Nat.le_refl _) _ _ _ _ _ _ _ _).drew⟩

set_option maxRecDepth 100000 in
set_option maxHeartbeats 3200000 in
theorem decode_hi (A : Option Addr) (c : Nat) (b : List UInt8) (p : Nat → Addr) (w : World) (hp : E4 w p) (hl : b.length ≤ 140737488351232) (hA : Cells w A (Bs b)) (hf : (fixedS b 0 1).2.2 = 0 ∧ 5 < (fixedS b 0 1).1.toUInt8.toNat) :
    Calls Tryd.prog 12 #[.slice A b.length c] w fun e w' => GaveR p w w' e (decS b) := by
  have hbx : Below w.heap.size w (w.alloc (.cells #[.int .i64 0, .string ⟨#[]⟩, .int .i64 0, .int .u64 0, .int .u64 0, .int .u64 0, .int .u64 0, .int .u64 0] 30)) := (Below.refl _ _).alloc (Nat.le_refl _) _
  have HBX := Go.Lib.hid hbx
  have HNR := Go.Lib.hid (newReader_calls A c b (w.alloc (.cells #[.int .i64 0, .string ⟨#[]⟩, .int .i64 0, .int .u64 0, .int .u64 0, .int .u64 0, .int .u64 0, .int .u64 0] 30)) (by omega) (cells_below hbx hA))
  have HP := Go.Lib.hid hp
  have HG := Go.Lib.hid (gb_of hp)
  have HN0 := Go.Lib.hid (heap_here w (.cells #[.int .i64 0, .string ⟨#[]⟩, .int .i64 0, .int .u64 0, .int .u64 0, .int .u64 0, .int .u64 0, .int .u64 0] 30) w.heap.size rfl)
  have HT : Hid (decS b = decQ b.length (fixedS b 0 1)) := rfl
  clear hbx hA hp
  go_enter Tryd.func12, Tryd.ntmps12
  go_wp2_with fail
  refine HNR.out.mono ?_
  rintro e w1 ⟨g, rfl, hr1, hb1⟩
  have HR1 := Go.Lib.hid (show Rd w1 (w.alloc (.cells #[.int .i64 0, .string ⟨#[]⟩, .int .i64 0, .int .u64 0, .int .u64 0, .int .u64 0, .int .u64 0, .int .u64 0] 30)).heap.size g b (fv (p 2) (p 3) 0) from hr1)
  have HB1 := Go.Lib.hid (below_then HBX.out hb1)
  have HN1 := Go.Lib.hid (below_heap hb1 HN0.out)
  have hB0 : (w.alloc (.cells #[.int .i64 0, .string ⟨#[]⟩, .int .i64 0, .int .u64 0, .int .u64 0, .int .u64 0, .int .u64 0, .int .u64 0] 30)).heap.size = w.heap.size + 1 := by simp
  rw [hB0] at HR1
  have hgg : w.heap.size < g := by have := rd_lt HR1.out; omega
  have hgw1 : g < w1.heap.size := (rd_lt HR1.out).2
  clear hr1 hb1 HNR HBX HN0 hB0
  go_wp2_with fail
  refine (u8_calls w1 (w.heap.size + 1) g (p 2) (p 3) b 0 (e4_two (e4_below HP.out HB1.out)) HR1.out).mono ?_
  rintro e w2 ⟨rfl, h1, h2⟩
  have HR2 := Go.Lib.hid h1
  have HB2 := Go.Lib.hid (HB1.out.trans (h2.below (B := w.heap.size) (by omega)))
  have HN2 := Go.Lib.hid (keep_heap (keep_only h2) HN1.out (by omega))
  have hs2 : w2.heap.size = w1.heap.size := h2.2.2.2.1
  have hgw2 : g < w2.heap.size := by omega
  have hnw2 : w.heap.size < w2.heap.size := by omega
  clear h1 h2 HR1 HB1 HN1 hs2 hgw1
  have HF := Go.Lib.hid hf
  clear hf
  generalize fixedS b 0 1 = q at *
  obtain ⟨u, r1, f1⟩ := q
  have hf := HF.out
  clear HF
  simp only at HR2 HT hf ⊢
  generalize hbu : u.toUInt8 = b0 at *
  have HBU := Go.Lib.hid hbu
  clear hbu
  have hb0 : 0 ≤ n8 b0 := by unfold n8; omega
  have hb1 : n8 b0 < 256 := by unfold n8; have := b0.toNat_lt; omega
  obtain rfl : f1 = 0 := hf.1
  have hop := hf.2
  have hop2 := hop
  have HOP := Go.Lib.hid hop2
  clear hf hop hop2
  have hT : decQ b.length (u, r1, 0) = (reqZ, 3) := by
    unfold decQ
    rw [if_neg (by simp)]
    simp only [HBU.out]
    rw [if_pos (by have := HOP.out; omega)]
  have HT2 := Go.Lib.hid (HT.out.trans hT)
  clear hT HT
  obtain ⟨W2, hW2⟩ : ∃ W2, W2 = w2.alloc (.cells #[.int .i64 (n8 b0), .string ⟨#[]⟩, .int .i64 0, .int .u64 0, .int .u64 0, .int .u64 0, .int .u64 0, .int .u64 0] 30) := ⟨_, rfl⟩
  have hR3 : Rd W2 (w.heap.size + 1) g r1 (fv (p 2) (p 3) 0) := by rw [hW2]; exact rd_alloc HR2.out _
  have hB3 : Below w.heap.size w W2 := by rw [hW2]; exact HB2.out.alloc HB2.out.size _
  have hn2 : W2.heap[w.heap.size]? = some (.cells #[.int .i64 0, .string ⟨#[]⟩, .int .i64 0, .int .u64 0, .int .u64 0, .int .u64 0, .int .u64 0, .int .u64 0] 30 (0, 0)) := by rw [hW2]; exact below_heap ((Below.refl _ _).alloc (Nat.le_refl _) _) HN2.out
  have hn5 : W2.heap[w2.heap.size]? = some (.cells #[.int .i64 (n8 b0), .string ⟨#[]⟩, .int .i64 0, .int .u64 0, .int .u64 0, .int .u64 0, .int .u64 0, .int .u64 0] 30 (0, 0)) := by rw [hW2]; exact heap_here _ _ _ rfl
  have HR3 := Go.Lib.hid hR3
  have HB3 := Go.Lib.hid hB3
  have HY := Go.Lib.hid hn2
  have HX := Go.Lib.hid hn5
  clear hR3 hB3 hn2 hn5 HR2 HB2 HN2
  go_wp2_with fail
  rw [← hW2]
  clear hW2
  have e3 := e4_form (e4_below HP.out HB3.out)
  have hg3 : 3 < w.heap.size := HG.out 3 (by decide) (by decide)
  obtain ⟨y0, y1, y2, y3, y4, y5, y6, y7⟩ := box8 HY.out
  have yf := heap_frozen HY.out
  obtain ⟨x0, x1, x2, x3, x4, x5, x6, x7⟩ := box8 HX.out
  have xf := heap_frozen HX.out
  have d1 : decide (n8 b0 < 1) = false := decide_eq_false (by have := HOP.out; unfold n8; omega)
  have d2 : decide ((5 : Int) < n8 b0) = true := decide_eq_true (by have := HOP.out; unfold n8; omega)
  refine (err_calls W2 (w.heap.size + 1) g _ _ HR3.out).mono ?_
  rintro e w3 ⟨rfl, rfl⟩
  simp only [fv]
  go_wp2
  go_region
  all_goals
    go_wp2
    refine bodyPost_ret (v := .tuple #[.agg #[.int .i64 0, .string ⟨#[]⟩, .int .i64 0, .int .u64 0, .int .u64 0, .int .u64 0, .int .u64 0, .int .u64 0], .iface 105 (.pointer (some (p 3)))]) (by simp [results, Tryd.results12, go_sem, y0, y1, y2, y3, y4, y5, y6, y7]) rfl ?_
    rw [HT2.out]
    exact ⟨rfl, (set8_below HB3.out (Nat.le_refl _) _ _ _ _ _ _ _ _).drew⟩

set_option maxRecDepth 100000 in
set_option maxHeartbeats 3200000 in
theorem decode_1 (A : Option Addr) (c : Nat) (b : List UInt8) (p : Nat → Addr) (w : World) (hp : E4 w p) (hl : b.length ≤ 140737488351232) (hA : Cells w A (Bs b)) (hf : (fixedS b 0 1).2.2 = 0 ∧ (fixedS b 0 1).1.toUInt8 = 1) :
    Calls Tryd.prog 12 #[.slice A b.length c] w fun e w' => GaveR p w w' e (decS b) := by
  have hbx : Below w.heap.size w (w.alloc (.cells #[.int .i64 0, .string ⟨#[]⟩, .int .i64 0, .int .u64 0, .int .u64 0, .int .u64 0, .int .u64 0, .int .u64 0] 30)) := (Below.refl _ _).alloc (Nat.le_refl _) _
  have HBX := Go.Lib.hid hbx
  have HNR := Go.Lib.hid (newReader_calls A c b (w.alloc (.cells #[.int .i64 0, .string ⟨#[]⟩, .int .i64 0, .int .u64 0, .int .u64 0, .int .u64 0, .int .u64 0, .int .u64 0] 30)) (by omega) (cells_below hbx hA))
  have HP := Go.Lib.hid hp
  have HG := Go.Lib.hid (gb_of hp)
  have HN0 := Go.Lib.hid (heap_here w (.cells #[.int .i64 0, .string ⟨#[]⟩, .int .i64 0, .int .u64 0, .int .u64 0, .int .u64 0, .int .u64 0, .int .u64 0] 30) w.heap.size rfl)
  have HT : Hid (decS b = decQ b.length (fixedS b 0 1)) := rfl
  clear hbx hA hp
  go_enter Tryd.func12, Tryd.ntmps12
  go_wp2_with fail
  refine HNR.out.mono ?_
  rintro e w1 ⟨g, rfl, hr1, hb1⟩
  have HR1 := Go.Lib.hid (show Rd w1 (w.alloc (.cells #[.int .i64 0, .string ⟨#[]⟩, .int .i64 0, .int .u64 0, .int .u64 0, .int .u64 0, .int .u64 0, .int .u64 0] 30)).heap.size g b (fv (p 2) (p 3) 0) from hr1)
  have HB1 := Go.Lib.hid (below_then HBX.out hb1)
  have HN1 := Go.Lib.hid (below_heap hb1 HN0.out)
  have hB0 : (w.alloc (.cells #[.int .i64 0, .string ⟨#[]⟩, .int .i64 0, .int .u64 0, .int .u64 0, .int .u64 0, .int .u64 0, .int .u64 0] 30)).heap.size = w.heap.size + 1 := by simp
  rw [hB0] at HR1
  have hgg : w.heap.size < g := by have := rd_lt HR1.out; omega
  have hgw1 : g < w1.heap.size := (rd_lt HR1.out).2
  clear hr1 hb1 HNR HBX HN0 hB0
  go_wp2_with fail
  refine (u8_calls w1 (w.heap.size + 1) g (p 2) (p 3) b 0 (e4_two (e4_below HP.out HB1.out)) HR1.out).mono ?_
  rintro e w2 ⟨rfl, h1, h2⟩
  have HR2 := Go.Lib.hid h1
  have HB2 := Go.Lib.hid (HB1.out.trans (h2.below (B := w.heap.size) (by omega)))
  have HN2 := Go.Lib.hid (keep_heap (keep_only h2) HN1.out (by omega))
  have hs2 : w2.heap.size = w1.heap.size := h2.2.2.2.1
  have hgw2 : g < w2.heap.size := by omega
  have hnw2 : w.heap.size < w2.heap.size := by omega
  clear h1 h2 HR1 HB1 HN1 hs2 hgw1
  have HF := Go.Lib.hid hf
  clear hf
  generalize fixedS b 0 1 = q at *
  obtain ⟨u, r1, f1⟩ := q
  have hf := HF.out
  clear HF
  simp only at HR2 HT hf ⊢
  generalize hbu : u.toUInt8 = b0 at *
  have HBU := Go.Lib.hid hbu
  clear hbu
  have hb0 : 0 ≤ n8 b0 := by unfold n8; omega
  have hb1 : n8 b0 < 256 := by unfold n8; have := b0.toNat_lt; omega
  obtain rfl : f1 = 0 := hf.1
  have hop := hf.2
  subst hop
  clear hf
  have hT : decQ b.length (u, r1, 0) = decOp b.length 1 (textS r1 0) := by
    unfold decQ
    rw [if_neg (by simp)]
    simp only [HBU.out]
    rfl
  have HT2 := Go.Lib.hid (HT.out.trans hT)
  clear hT HT HBU
  rw [show n8 1 = (1 : Int) from rfl]
  obtain ⟨W2, hW2⟩ : ∃ W2, W2 = w2.alloc (.cells #[.int .i64 1, .string ⟨#[]⟩, .int .i64 0, .int .u64 0, .int .u64 0, .int .u64 0, .int .u64 0, .int .u64 0] 30) := ⟨_, rfl⟩
  have hR3 : Rd W2 (w.heap.size + 1) g r1 (fv (p 2) (p 3) 0) := by rw [hW2]; exact rd_alloc HR2.out _
  have hB3 : Below w.heap.size w W2 := by rw [hW2]; exact HB2.out.alloc HB2.out.size _
  have hn2 : W2.heap[w.heap.size]? = some (.cells #[.int .i64 0, .string ⟨#[]⟩, .int .i64 0, .int .u64 0, .int .u64 0, .int .u64 0, .int .u64 0, .int .u64 0] 30 (0, 0)) := by rw [hW2]; exact below_heap ((Below.refl _ _).alloc (Nat.le_refl _) _) HN2.out
  have hn5 : W2.heap[w2.heap.size]? = some (.cells #[.int .i64 1, .string ⟨#[]⟩, .int .i64 0, .int .u64 0, .int .u64 0, .int .u64 0, .int .u64 0, .int .u64 0] 30 (0, 0)) := by rw [hW2]; exact heap_here _ _ _ rfl
  have HR3 := Go.Lib.hid hR3
  have HB3 := Go.Lib.hid hB3
  have HY := Go.Lib.hid hn2
  have HX := Go.Lib.hid hn5
  clear hR3 hB3 hn2 hn5 HR2 HB2 HN2
  go_wp2_with fail
  rw [← hW2]
  clear hW2
  refine (err_calls W2 (w.heap.size + 1) g _ _ HR3.out).mono ?_
  rintro e w3 ⟨rfl, rfl⟩
  simp only [fv]
  obtain ⟨y0, y1, y2, y3, y4, y5, y6, y7⟩ := box8 HY.out
  have yf := heap_frozen HY.out
  obtain ⟨x0, x1, x2, x3, x4, x5, x6, x7⟩ := box8 HX.out
  have xf := heap_frozen HX.out
  go_wp2_with fail
  refine (textR_calls w3 (w.heap.size + 1) g (p 2) (p 3) r1 0 (gne (gb_mono HG.out (Nat.le_succ _)) (by omega : w.heap.size + 1 ≤ g)) (e4_two (e4_below HP.out HB3.out)) HR3.out).mono ?_
  rintro e w4 ⟨rfl, h1, h2⟩
  have HR4 := Go.Lib.hid h1
  have HB4 := Go.Lib.hid (HB3.out.trans (h2.below (B := w.heap.size) (by omega)))
  have HY4 := Go.Lib.hid (keep_heap (keep_only h2) HY.out (by omega))
  have HX4 := Go.Lib.hid (keep_heap (keep_only h2) HX.out (by omega))
  clear y0 y1 y2 y3 y4 y5 y6 y7 yf
  clear x0 x1 x2 x3 x4 x5 x6 x7 xf
  clear h1 h2 HR3 HB3 HY HX
  generalize textS r1 0 = tq at *
  obtain ⟨s, r2, f2⟩ := tq
  simp only at HR4 HT2 ⊢
  obtain ⟨y0, y1, y2, y3, y4, y5, y6, y7⟩ := box8 HY4.out
  have yf := heap_frozen HY4.out
  obtain ⟨x0, x1, x2, x3, x4, x5, x6, x7⟩ := box8 HX4.out
  have xf := heap_frozen HX4.out
  go_wp2_with fail
  clear y0 y1 y2 y3 y4 y5 y6 y7 yf
  clear x0 x1 x2 x3 x4 x5 x6 x7 xf
  obtain ⟨W5, hnew⟩ : ∃ W, W = w4.setCell ⟨w2.heap.size, 1, none⟩ (.string ⟨s.toArray⟩) := ⟨_, rfl⟩
  have hrd : Rd W5 (w.heap.size + 1) g r2 (fv (p 2) (p 3) f2) := by rw [hnew]; exact rd_set HR4.out HX4.out (by decide) rfl _ _
  have hbl : Below w.heap.size w W5 := by rw [hnew]; exact HB4.out.setCell (by show w.heap.size ≤ w2.heap.size; omega) _
  have hy : W5.heap[w.heap.size]? = some (.cells #[.int .i64 0, .string ⟨#[]⟩, .int .i64 0, .int .u64 0, .int .u64 0, .int .u64 0, .int .u64 0, .int .u64 0] 30 (0, 0)) := by rw [hnew]; exact set_other HY4.out (by omega) _ _
  have hx : W5.heap[w2.heap.size]? = some (.cells #[.int .i64 1, .string ⟨s.toArray⟩, .int .i64 0, .int .u64 0, .int .u64 0, .int .u64 0, .int .u64 0, .int .u64 0] 30 (0, 0)) := by rw [hnew]; exact set_heap HX4.out _ _
  have HR5 := Go.Lib.hid hrd
  have HB5 := Go.Lib.hid hbl
  have HY5 := Go.Lib.hid hy
  have HX5 := Go.Lib.hid hx
  clear hrd hbl hy hx HR4 HB4 HY4 HX4
  rw [← hnew]
  clear hnew
  cases f2 with
  | succ m =>
    obtain ⟨a, ha, he⟩ := fv_iface p m
    have hT : decOp b.length 1 (s, r2, m + 1) = (reqZ, fault (m + 1)) := by unfold decOp; rw [if_pos (by simp)]
    have HT3 := Go.Lib.hid (HT2.out.trans hT)
    have HE := Go.Lib.hid he
    clear hT HT2 he
    have HT2 := HT3
    rw [ha] at HR5
    clear ha
    obtain ⟨y0, y1, y2, y3, y4, y5, y6, y7⟩ := box8 HY5.out
    have yf := heap_frozen HY5.out
    refine (err_calls W5 (w.heap.size + 1) g _ _ HR5.out).mono ?_
    rintro e wx ⟨rfl, rfl⟩
    go_wp2_with fail
    refine (err_calls wx (w.heap.size + 1) g _ _ HR5.out).mono ?_
    rintro e wy ⟨rfl, rfl⟩
    go_wp2
    refine bodyPost_ret (v := .tuple #[.agg #[.int .i64 0, .string ⟨#[]⟩, .int .i64 0, .int .u64 0, .int .u64 0, .int .u64 0, .int .u64 0, .int .u64 0], .iface 105 (.pointer (some a))]) (by simp [results, Tryd.results12, go_sem, y0, y1, y2, y3, y4, y5, y6, y7]) rfl ?_
    rw [HT2.out]
    exact ⟨by rw [HE.out]; rfl, set8_below HB5.out (Nat.le_refl _) _ _ _ _ _ _ _ _⟩
  | zero =>
    obtain ⟨y0, y1, y2, y3, y4, y5, y6, y7⟩ := box8 HY5.out
    have yf := heap_frozen HY5.out
    obtain ⟨x0, x1, x2, x3, x4, x5, x6, x7⟩ := box8 HX5.out
    have xf := heap_frozen HX5.out
    refine (err_calls W5 (w.heap.size + 1) g _ _ HR5.out).mono ?_
    rintro e w6 ⟨rfl, rfl⟩
    simp only [fv]
    go_wp2_with fail
    clear y0 y1 y2 y3 y4 y5 y6 y7 yf
    clear x0 x1 x2 x3 x4 x5 x6 x7 xf
    refine (takePolicy_calls p (w.heap.size + 1) g r2 0 w6 (e4_below HP.out HB5.out) (gb_mono HG.out (Nat.le_succ _)) (by have := HB5.out.size; have := rd_lt HR5.out; omega) HR5.out).mono ?_
    rintro e w7 ⟨rfl, h1, h2⟩
    have HR7 := Go.Lib.hid h1
    have HB7 := Go.Lib.hid (HB5.out.trans (keep_below h2 (by omega) HB5.out.size))
    have HY7 := Go.Lib.hid (keep_heap h2 HY5.out (by omega))
    have HX7 := Go.Lib.hid (keep_heap h2 HX5.out (by omega))
    have hnw7 : w.heap.size < w7.heap.size := heap_lt HY7.out
    have hn7 : w2.heap.size < w7.heap.size := heap_lt HX7.out
    clear h1 h2 HR5 HB5 HY5 HX5
    have HT3 : Hid (decS b = if (takePolS r2 0).2.1 ≠ 0 then (reqZ, (takePolS r2 0).2.1) else reqOr ⟨1, s, (takePolS r2 0).1, 0⟩ (endE (takePolS r2 0).2.2.1 (takePolS r2 0).2.2.2 b.length)) := HT2.out
    clear HT2
    generalize takePolS r2 0 = pq at *
    obtain ⟨pol, k, r3, f3⟩ := pq
    simp only [polA] at HR7 HT3 ⊢
    obtain ⟨y0, y1, y2, y3, y4, y5, y6, y7⟩ := box8 HY7.out
    have yf := heap_frozen HY7.out
    obtain ⟨x0, x1, x2, x3, x4, x5, x6, x7⟩ := box8 HX7.out
    have xf := heap_frozen HX7.out
    cases k with
    | succ m =>
      have hT := HT3.out
      rw [if_pos (by simp)] at hT
      have HT4 := Go.Lib.hid hT
      clear hT HT3
      simp only [errv]
      go_wp2
      refine bodyPost_ret (v := .tuple #[.agg #[.int .i64 0, .string ⟨#[]⟩, .int .i64 0, .int .u64 0, .int .u64 0, .int .u64 0, .int .u64 0, .int .u64 0], .iface 105 (.pointer (some (p (m + 1))))]) (by simp [results, Tryd.results12, go_sem, hn7, hnw7, y0, y1, y2, y3, y4, y5, y6, y7]) rfl ?_
      rw [HT4.out]
      exact ⟨rfl, Below.alloc (set8_below HB7.out (Nat.le_refl _) _ _ _ _ _ _ _ _) (by have := HB7.out.size; simp [World.setCell]; omega) _⟩
    | zero =>
      have hT := HT3.out
      rw [if_neg (by simp)] at hT
      have HT4 := Go.Lib.hid hT
      clear hT HT3
      have HT3 := HT4
      simp only [errv]
      go_wp2_with fail
      clear y0 y1 y2 y3 y4 y5 y6 y7 yf
      clear x0 x1 x2 x3 x4 x5 x6 x7 xf
      obtain ⟨W8, hnew⟩ : ∃ W, W = (((((w7.setCell ⟨w2.heap.size, 2, none⟩ (.int .i64 pol.kind)).setCell ⟨w2.heap.size, 3, none⟩ (.int .u64 (n64 pol.gap))).setCell ⟨w2.heap.size, 4, none⟩ (.int .u64 (n64 pol.slack))).setCell ⟨w2.heap.size, 5, none⟩ (.int .u64 (n64 pol.limit))).setCell ⟨w2.heap.size, 6, none⟩ (.int .u64 (n64 pol.span))).alloc (.cells #[.int .i64 pol.kind, .int .u64 (n64 pol.gap), .int .u64 (n64 pol.slack), .int .u64 (n64 pol.limit), .int .u64 (n64 pol.span)] 28) := ⟨_, rfl⟩
      have hrd : Rd W8 (w.heap.size + 1) g r3 (fv (p 2) (p 3) f3) := by rw [hnew]; exact rd_alloc (rd_five HR7.out HX7.out (by decide) rfl _ _ _ _ _) _
      have hbl : Below w.heap.size w W8 := by rw [hnew]; exact Below.alloc (five_below HB7.out (by show w.heap.size ≤ w2.heap.size; omega) _ _ _ _ _) (by have := HB7.out.size; simp [World.setCell]; omega) _
      have hy : W8.heap[w.heap.size]? = some (.cells #[.int .i64 0, .string ⟨#[]⟩, .int .i64 0, .int .u64 0, .int .u64 0, .int .u64 0, .int .u64 0, .int .u64 0] 30 (0, 0)) := by rw [hnew]; exact alloc_heap (five_other HY7.out (by omega) _ _ _ _ _) _
      have hx : W8.heap[w2.heap.size]? = some (.cells #[.int .i64 1, .string ⟨s.toArray⟩, .int .i64 pol.kind, .int .u64 (n64 pol.gap), .int .u64 (n64 pol.slack), .int .u64 (n64 pol.limit), .int .u64 (n64 pol.span), .int .u64 0] 30 (0, 0)) := by rw [hnew]; exact alloc_heap (set_heap (set_heap (set_heap (set_heap (set_heap HX7.out _ _) _ _) _ _) _ _) _ _) _
      have HR8 := Go.Lib.hid hrd
      have HB8 := Go.Lib.hid hbl
      have HY8 := Go.Lib.hid hy
      have HX8 := Go.Lib.hid hx
      clear hrd hbl hy hx HR7 HB7 HY7 HX7
      rw [← hnew]
      clear hnew
      refine (end_calls' p (w.heap.size + 1) g r3 f3 A c b.length W8 (e4_below HP.out HB8.out) (by omega) HR8.out).mono ?_
      rintro e wx ⟨rfl, rfl⟩
      generalize endE r3 f3 b.length = k at *
      obtain ⟨y0, y1, y2, y3, y4, y5, y6, y7⟩ := box8 HY8.out
      have yf := heap_frozen HY8.out
      obtain ⟨x0, x1, x2, x3, x4, x5, x6, x7⟩ := box8 HX8.out
      have xf := heap_frozen HX8.out
      cases k with
      | zero =>
        simp only [errv]
        go_wp2
        refine bodyPost_ret (v := .tuple #[.agg #[.int .i64 1, .string ⟨s.toArray⟩, .int .i64 pol.kind, .int .u64 (n64 pol.gap), .int .u64 (n64 pol.slack), .int .u64 (n64 pol.limit), .int .u64 (n64 pol.span), .int .u64 0], .nilIface]) (by simp [results, Tryd.results12, go_sem, y0, y1, y2, y3, y4, y5, y6, y7]) rfl ?_
        rw [HT3.out, show reqOr ⟨1, s, pol, 0⟩ 0 = (⟨1, s, pol, 0⟩, 0) from rfl]
        exact ⟨rfl, set8_below HB8.out (Nat.le_refl _) _ _ _ _ _ _ _ _⟩
      | succ m =>
        simp only [errv]
        go_wp2
        refine bodyPost_ret (v := .tuple #[.agg #[.int .i64 0, .string ⟨#[]⟩, .int .i64 0, .int .u64 0, .int .u64 0, .int .u64 0, .int .u64 0, .int .u64 0], .iface 105 (.pointer (some (p (m + 1))))]) (by simp [results, Tryd.results12, go_sem, y0, y1, y2, y3, y4, y5, y6, y7]) rfl ?_
        rw [HT3.out, show reqOr ⟨1, s, pol, 0⟩ (m + 1) = (reqZ, m + 1) from rfl]
        exact ⟨rfl, set8_below HB8.out (Nat.le_refl _) _ _ _ _ _ _ _ _⟩

set_option maxRecDepth 100000 in
set_option maxHeartbeats 3200000 in
theorem decode_2 (A : Option Addr) (c : Nat) (b : List UInt8) (p : Nat → Addr) (w : World) (hp : E4 w p) (hl : b.length ≤ 140737488351232) (hA : Cells w A (Bs b)) (hf : (fixedS b 0 1).2.2 = 0 ∧ (fixedS b 0 1).1.toUInt8 = 2) :
    Calls Tryd.prog 12 #[.slice A b.length c] w fun e w' => GaveR p w w' e (decS b) := by
  have hbx : Below w.heap.size w (w.alloc (.cells #[.int .i64 0, .string ⟨#[]⟩, .int .i64 0, .int .u64 0, .int .u64 0, .int .u64 0, .int .u64 0, .int .u64 0] 30)) := (Below.refl _ _).alloc (Nat.le_refl _) _
  have HBX := Go.Lib.hid hbx
  have HNR := Go.Lib.hid (newReader_calls A c b (w.alloc (.cells #[.int .i64 0, .string ⟨#[]⟩, .int .i64 0, .int .u64 0, .int .u64 0, .int .u64 0, .int .u64 0, .int .u64 0] 30)) (by omega) (cells_below hbx hA))
  have HP := Go.Lib.hid hp
  have HG := Go.Lib.hid (gb_of hp)
  have HN0 := Go.Lib.hid (heap_here w (.cells #[.int .i64 0, .string ⟨#[]⟩, .int .i64 0, .int .u64 0, .int .u64 0, .int .u64 0, .int .u64 0, .int .u64 0] 30) w.heap.size rfl)
  have HT : Hid (decS b = decQ b.length (fixedS b 0 1)) := rfl
  clear hbx hA hp
  go_enter Tryd.func12, Tryd.ntmps12
  go_wp2_with fail
  refine HNR.out.mono ?_
  rintro e w1 ⟨g, rfl, hr1, hb1⟩
  have HR1 := Go.Lib.hid (show Rd w1 (w.alloc (.cells #[.int .i64 0, .string ⟨#[]⟩, .int .i64 0, .int .u64 0, .int .u64 0, .int .u64 0, .int .u64 0, .int .u64 0] 30)).heap.size g b (fv (p 2) (p 3) 0) from hr1)
  have HB1 := Go.Lib.hid (below_then HBX.out hb1)
  have HN1 := Go.Lib.hid (below_heap hb1 HN0.out)
  have hB0 : (w.alloc (.cells #[.int .i64 0, .string ⟨#[]⟩, .int .i64 0, .int .u64 0, .int .u64 0, .int .u64 0, .int .u64 0, .int .u64 0] 30)).heap.size = w.heap.size + 1 := by simp
  rw [hB0] at HR1
  have hgg : w.heap.size < g := by have := rd_lt HR1.out; omega
  have hgw1 : g < w1.heap.size := (rd_lt HR1.out).2
  clear hr1 hb1 HNR HBX HN0 hB0
  go_wp2_with fail
  refine (u8_calls w1 (w.heap.size + 1) g (p 2) (p 3) b 0 (e4_two (e4_below HP.out HB1.out)) HR1.out).mono ?_
  rintro e w2 ⟨rfl, h1, h2⟩
  have HR2 := Go.Lib.hid h1
  have HB2 := Go.Lib.hid (HB1.out.trans (h2.below (B := w.heap.size) (by omega)))
  have HN2 := Go.Lib.hid (keep_heap (keep_only h2) HN1.out (by omega))
  have hs2 : w2.heap.size = w1.heap.size := h2.2.2.2.1
  have hgw2 : g < w2.heap.size := by omega
  have hnw2 : w.heap.size < w2.heap.size := by omega
  clear h1 h2 HR1 HB1 HN1 hs2 hgw1
  have HF := Go.Lib.hid hf
  clear hf
  generalize fixedS b 0 1 = q at *
  obtain ⟨u, r1, f1⟩ := q
  have hf := HF.out
  clear HF
  simp only at HR2 HT hf ⊢
  generalize hbu : u.toUInt8 = b0 at *
  have HBU := Go.Lib.hid hbu
  clear hbu
  have hb0 : 0 ≤ n8 b0 := by unfold n8; omega
  have hb1 : n8 b0 < 256 := by unfold n8; have := b0.toNat_lt; omega
  obtain rfl : f1 = 0 := hf.1
  have hop := hf.2
  subst hop
  clear hf
  have hT : decQ b.length (u, r1, 0) = decOp b.length 2 (textS r1 0) := by
    unfold decQ
    rw [if_neg (by simp)]
    simp only [HBU.out]
    rfl
  have HT2 := Go.Lib.hid (HT.out.trans hT)
  clear hT HT HBU
  rw [show n8 2 = (2 : Int) from rfl]
  obtain ⟨W2, hW2⟩ : ∃ W2, W2 = w2.alloc (.cells #[.int .i64 2, .string ⟨#[]⟩, .int .i64 0, .int .u64 0, .int .u64 0, .int .u64 0, .int .u64 0, .int .u64 0] 30) := ⟨_, rfl⟩
  have hR3 : Rd W2 (w.heap.size + 1) g r1 (fv (p 2) (p 3) 0) := by rw [hW2]; exact rd_alloc HR2.out _
  have hB3 : Below w.heap.size w W2 := by rw [hW2]; exact HB2.out.alloc HB2.out.size _
  have hn2 : W2.heap[w.heap.size]? = some (.cells #[.int .i64 0, .string ⟨#[]⟩, .int .i64 0, .int .u64 0, .int .u64 0, .int .u64 0, .int .u64 0, .int .u64 0] 30 (0, 0)) := by rw [hW2]; exact below_heap ((Below.refl _ _).alloc (Nat.le_refl _) _) HN2.out
  have hn5 : W2.heap[w2.heap.size]? = some (.cells #[.int .i64 2, .string ⟨#[]⟩, .int .i64 0, .int .u64 0, .int .u64 0, .int .u64 0, .int .u64 0, .int .u64 0] 30 (0, 0)) := by rw [hW2]; exact heap_here _ _ _ rfl
  have HR3 := Go.Lib.hid hR3
  have HB3 := Go.Lib.hid hB3
  have HY := Go.Lib.hid hn2
  have HX := Go.Lib.hid hn5
  clear hR3 hB3 hn2 hn5 HR2 HB2 HN2
  go_wp2_with fail
  rw [← hW2]
  clear hW2
  refine (err_calls W2 (w.heap.size + 1) g _ _ HR3.out).mono ?_
  rintro e w3 ⟨rfl, rfl⟩
  simp only [fv]
  obtain ⟨y0, y1, y2, y3, y4, y5, y6, y7⟩ := box8 HY.out
  have yf := heap_frozen HY.out
  obtain ⟨x0, x1, x2, x3, x4, x5, x6, x7⟩ := box8 HX.out
  have xf := heap_frozen HX.out
  go_wp2_with fail
  refine (textR_calls w3 (w.heap.size + 1) g (p 2) (p 3) r1 0 (gne (gb_mono HG.out (Nat.le_succ _)) (by omega : w.heap.size + 1 ≤ g)) (e4_two (e4_below HP.out HB3.out)) HR3.out).mono ?_
  rintro e w4 ⟨rfl, h1, h2⟩
  have HR4 := Go.Lib.hid h1
  have HB4 := Go.Lib.hid (HB3.out.trans (h2.below (B := w.heap.size) (by omega)))
  have HY4 := Go.Lib.hid (keep_heap (keep_only h2) HY.out (by omega))
  have HX4 := Go.Lib.hid (keep_heap (keep_only h2) HX.out (by omega))
  clear y0 y1 y2 y3 y4 y5 y6 y7 yf
  clear x0 x1 x2 x3 x4 x5 x6 x7 xf
  clear h1 h2 HR3 HB3 HY HX
  generalize textS r1 0 = tq at *
  obtain ⟨s, r2, f2⟩ := tq
  simp only at HR4 HT2 ⊢
  obtain ⟨y0, y1, y2, y3, y4, y5, y6, y7⟩ := box8 HY4.out
  have yf := heap_frozen HY4.out
  obtain ⟨x0, x1, x2, x3, x4, x5, x6, x7⟩ := box8 HX4.out
  have xf := heap_frozen HX4.out
  go_wp2_with fail
  clear y0 y1 y2 y3 y4 y5 y6 y7 yf
  clear x0 x1 x2 x3 x4 x5 x6 x7 xf
  obtain ⟨W5, hnew⟩ : ∃ W, W = w4.setCell ⟨w2.heap.size, 1, none⟩ (.string ⟨s.toArray⟩) := ⟨_, rfl⟩
  have hrd : Rd W5 (w.heap.size + 1) g r2 (fv (p 2) (p 3) f2) := by rw [hnew]; exact rd_set HR4.out HX4.out (by decide) rfl _ _
  have hbl : Below w.heap.size w W5 := by rw [hnew]; exact HB4.out.setCell (by show w.heap.size ≤ w2.heap.size; omega) _
  have hy : W5.heap[w.heap.size]? = some (.cells #[.int .i64 0, .string ⟨#[]⟩, .int .i64 0, .int .u64 0, .int .u64 0, .int .u64 0, .int .u64 0, .int .u64 0] 30 (0, 0)) := by rw [hnew]; exact set_other HY4.out (by omega) _ _
  have hx : W5.heap[w2.heap.size]? = some (.cells #[.int .i64 2, .string ⟨s.toArray⟩, .int .i64 0, .int .u64 0, .int .u64 0, .int .u64 0, .int .u64 0, .int .u64 0] 30 (0, 0)) := by rw [hnew]; exact set_heap HX4.out _ _
  have HR5 := Go.Lib.hid hrd
  have HB5 := Go.Lib.hid hbl
  have HY5 := Go.Lib.hid hy
  have HX5 := Go.Lib.hid hx
  clear hrd hbl hy hx HR4 HB4 HY4 HX4
  rw [← hnew]
  clear hnew
  cases f2 with
  | succ m =>
    obtain ⟨a, ha, he⟩ := fv_iface p m
    have hT : decOp b.length 2 (s, r2, m + 1) = (reqZ, fault (m + 1)) := by unfold decOp; rw [if_pos (by simp)]
    have HT3 := Go.Lib.hid (HT2.out.trans hT)
    have HE := Go.Lib.hid he
    clear hT HT2 he
    have HT2 := HT3
    rw [ha] at HR5
    clear ha
    obtain ⟨y0, y1, y2, y3, y4, y5, y6, y7⟩ := box8 HY5.out
    have yf := heap_frozen HY5.out
    refine (err_calls W5 (w.heap.size + 1) g _ _ HR5.out).mono ?_
    rintro e wx ⟨rfl, rfl⟩
    go_wp2_with fail
    refine (err_calls wx (w.heap.size + 1) g _ _ HR5.out).mono ?_
    rintro e wy ⟨rfl, rfl⟩
    go_wp2
    refine bodyPost_ret (v := .tuple #[.agg #[.int .i64 0, .string ⟨#[]⟩, .int .i64 0, .int .u64 0, .int .u64 0, .int .u64 0, .int .u64 0, .int .u64 0], .iface 105 (.pointer (some a))]) (by simp [results, Tryd.results12, go_sem, y0, y1, y2, y3, y4, y5, y6, y7]) rfl ?_
    rw [HT2.out]
    exact ⟨by rw [HE.out]; rfl, set8_below HB5.out (Nat.le_refl _) _ _ _ _ _ _ _ _⟩
  | zero =>
    obtain ⟨y0, y1, y2, y3, y4, y5, y6, y7⟩ := box8 HY5.out
    have yf := heap_frozen HY5.out
    obtain ⟨x0, x1, x2, x3, x4, x5, x6, x7⟩ := box8 HX5.out
    have xf := heap_frozen HX5.out
    refine (err_calls W5 (w.heap.size + 1) g _ _ HR5.out).mono ?_
    rintro e w6 ⟨rfl, rfl⟩
    simp only [fv]
    have HT3 := Go.Lib.hid (HT2.out.trans (show decOp b.length 2 (s, r2, 0) = reqOr ⟨2, s, polZ, (fixedS r2 0 8).1⟩ (endE (fixedS r2 0 8).2.1 (fixedS r2 0 8).2.2 b.length) from rfl))
    clear HT2
    go_wp2_with fail
    clear y0 y1 y2 y3 y4 y5 y6 y7 yf
    clear x0 x1 x2 x3 x4 x5 x6 x7 xf
    refine (u64_calls w6 (w.heap.size + 1) g (p 2) (p 3) r2 0 (e4_two (e4_below HP.out HB5.out)) HR5.out).mono ?_
    rintro e w7 ⟨rfl, h1, h2⟩
    have HR7 := Go.Lib.hid h1
    have HB7 := Go.Lib.hid (HB5.out.trans (h2.below (B := w.heap.size) (by omega)))
    have HY7 := Go.Lib.hid (keep_heap (keep_only h2) HY5.out (by omega))
    have HX7 := Go.Lib.hid (keep_heap (keep_only h2) HX5.out (by omega))
    clear h1 h2 HR5 HB5 HY5 HX5
    generalize fixedS r2 0 8 = uq at *
    obtain ⟨uu, r3, f3⟩ := uq
    simp only at HR7 HT3 ⊢
    obtain ⟨y0, y1, y2, y3, y4, y5, y6, y7⟩ := box8 HY7.out
    have yf := heap_frozen HY7.out
    obtain ⟨x0, x1, x2, x3, x4, x5, x6, x7⟩ := box8 HX7.out
    have xf := heap_frozen HX7.out
    go_wp2_with fail
    clear y0 y1 y2 y3 y4 y5 y6 y7 yf
    clear x0 x1 x2 x3 x4 x5 x6 x7 xf
    obtain ⟨W8, hnew⟩ : ∃ W, W = w7.setCell ⟨w2.heap.size, 7, none⟩ (.int .u64 (n64 uu)) := ⟨_, rfl⟩
    have hrd : Rd W8 (w.heap.size + 1) g r3 (fv (p 2) (p 3) f3) := by rw [hnew]; exact rd_set HR7.out HX7.out (by decide) rfl _ _
    have hbl : Below w.heap.size w W8 := by rw [hnew]; exact HB7.out.setCell (by show w.heap.size ≤ w2.heap.size; omega) _
    have hy : W8.heap[w.heap.size]? = some (.cells #[.int .i64 0, .string ⟨#[]⟩, .int .i64 0, .int .u64 0, .int .u64 0, .int .u64 0, .int .u64 0, .int .u64 0] 30 (0, 0)) := by rw [hnew]; exact set_other HY7.out (by omega) _ _
    have hx : W8.heap[w2.heap.size]? = some (.cells #[.int .i64 2, .string ⟨s.toArray⟩, .int .i64 0, .int .u64 0, .int .u64 0, .int .u64 0, .int .u64 0, .int .u64 (n64 uu)] 30 (0, 0)) := by rw [hnew]; exact set_heap HX7.out _ _
    have HR8 := Go.Lib.hid hrd
    have HB8 := Go.Lib.hid hbl
    have HY8 := Go.Lib.hid hy
    have HX8 := Go.Lib.hid hx
    clear hrd hbl hy hx HR7 HB7 HY7 HX7
    rw [← hnew]
    clear hnew
    refine (end_calls' p (w.heap.size + 1) g r3 f3 A c b.length W8 (e4_below HP.out HB8.out) (by omega) HR8.out).mono ?_
    rintro e wx ⟨rfl, rfl⟩
    generalize endE r3 f3 b.length = k at *
    obtain ⟨y0, y1, y2, y3, y4, y5, y6, y7⟩ := box8 HY8.out
    have yf := heap_frozen HY8.out
    obtain ⟨x0, x1, x2, x3, x4, x5, x6, x7⟩ := box8 HX8.out
    have xf := heap_frozen HX8.out
    cases k with
    | zero =>
      simp only [errv]
      go_wp2
      refine bodyPost_ret (v := .tuple #[.agg #[.int .i64 2, .string ⟨s.toArray⟩, .int .i64 0, .int .u64 0, .int .u64 0, .int .u64 0, .int .u64 0, .int .u64 (n64 uu)], .nilIface]) (by simp [results, Tryd.results12, go_sem, y0, y1, y2, y3, y4, y5, y6, y7]) rfl ?_
      rw [HT3.out, show reqOr ⟨2, s, polZ, uu⟩ 0 = (⟨2, s, polZ, uu⟩, 0) from rfl]
      exact ⟨rfl, set8_below HB8.out (Nat.le_refl _) _ _ _ _ _ _ _ _⟩
    | succ m =>
      simp only [errv]
      go_wp2
      refine bodyPost_ret (v := .tuple #[.agg #[.int .i64 0, .string ⟨#[]⟩, .int .i64 0, .int .u64 0, .int .u64 0, .int .u64 0, .int .u64 0, .int .u64 0], .iface 105 (.pointer (some (p (m + 1))))]) (by simp [results, Tryd.results12, go_sem, y0, y1, y2, y3, y4, y5, y6, y7]) rfl ?_
      rw [HT3.out, show reqOr ⟨2, s, polZ, uu⟩ (m + 1) = (reqZ, m + 1) from rfl]
      exact ⟨rfl, set8_below HB8.out (Nat.le_refl _) _ _ _ _ _ _ _ _⟩

set_option maxRecDepth 100000 in
set_option maxHeartbeats 3200000 in
theorem decode_3 (A : Option Addr) (c : Nat) (b : List UInt8) (p : Nat → Addr) (w : World) (hp : E4 w p) (hl : b.length ≤ 140737488351232) (hA : Cells w A (Bs b)) (hf : (fixedS b 0 1).2.2 = 0 ∧ (fixedS b 0 1).1.toUInt8 = 3) :
    Calls Tryd.prog 12 #[.slice A b.length c] w fun e w' => GaveR p w w' e (decS b) := by
  have hbx : Below w.heap.size w (w.alloc (.cells #[.int .i64 0, .string ⟨#[]⟩, .int .i64 0, .int .u64 0, .int .u64 0, .int .u64 0, .int .u64 0, .int .u64 0] 30)) := (Below.refl _ _).alloc (Nat.le_refl _) _
  have HBX := Go.Lib.hid hbx
  have HNR := Go.Lib.hid (newReader_calls A c b (w.alloc (.cells #[.int .i64 0, .string ⟨#[]⟩, .int .i64 0, .int .u64 0, .int .u64 0, .int .u64 0, .int .u64 0, .int .u64 0] 30)) (by omega) (cells_below hbx hA))
  have HP := Go.Lib.hid hp
  have HG := Go.Lib.hid (gb_of hp)
  have HN0 := Go.Lib.hid (heap_here w (.cells #[.int .i64 0, .string ⟨#[]⟩, .int .i64 0, .int .u64 0, .int .u64 0, .int .u64 0, .int .u64 0, .int .u64 0] 30) w.heap.size rfl)
  have HT : Hid (decS b = decQ b.length (fixedS b 0 1)) := rfl
  clear hbx hA hp
  go_enter Tryd.func12, Tryd.ntmps12
  go_wp2_with fail
  refine HNR.out.mono ?_
  rintro e w1 ⟨g, rfl, hr1, hb1⟩
  have HR1 := Go.Lib.hid (show Rd w1 (w.alloc (.cells #[.int .i64 0, .string ⟨#[]⟩, .int .i64 0, .int .u64 0, .int .u64 0, .int .u64 0, .int .u64 0, .int .u64 0] 30)).heap.size g b (fv (p 2) (p 3) 0) from hr1)
  have HB1 := Go.Lib.hid (below_then HBX.out hb1)
  have HN1 := Go.Lib.hid (below_heap hb1 HN0.out)
  have hB0 : (w.alloc (.cells #[.int .i64 0, .string ⟨#[]⟩, .int .i64 0, .int .u64 0, .int .u64 0, .int .u64 0, .int .u64 0, .int .u64 0] 30)).heap.size = w.heap.size + 1 := by simp
  rw [hB0] at HR1
  have hgg : w.heap.size < g := by have := rd_lt HR1.out; omega
  have hgw1 : g < w1.heap.size := (rd_lt HR1.out).2
  clear hr1 hb1 HNR HBX HN0 hB0
  go_wp2_with fail
  refine (u8_calls w1 (w.heap.size + 1) g (p 2) (p 3) b 0 (e4_two (e4_below HP.out HB1.out)) HR1.out).mono ?_
  rintro e w2 ⟨rfl, h1, h2⟩
  have HR2 := Go.Lib.hid h1
  have HB2 := Go.Lib.hid (HB1.out.trans (h2.below (B := w.heap.size) (by omega)))
  have HN2 := Go.Lib.hid (keep_heap (keep_only h2) HN1.out (by omega))
  have hs2 : w2.heap.size = w1.heap.size := h2.2.2.2.1
  have hgw2 : g < w2.heap.size := by omega
  have hnw2 : w.heap.size < w2.heap.size := by omega
  clear h1 h2 HR1 HB1 HN1 hs2 hgw1
  have HF := Go.Lib.hid hf
  clear hf
  generalize fixedS b 0 1 = q at *
  obtain ⟨u, r1, f1⟩ := q
  have hf := HF.out
  clear HF
  simp only at HR2 HT hf ⊢
  generalize hbu : u.toUInt8 = b0 at *
  have HBU := Go.Lib.hid hbu
  clear hbu
  have hb0 : 0 ≤ n8 b0 := by unfold n8; omega
  have hb1 : n8 b0 < 256 := by unfold n8; have := b0.toNat_lt; omega
  obtain rfl : f1 = 0 := hf.1
  have hop := hf.2
  subst hop
  clear hf
  have hT : decQ b.length (u, r1, 0) = decOp b.length 3 (textS r1 0) := by
    unfold decQ
    rw [if_neg (by simp)]
    simp only [HBU.out]
    rfl
  have HT2 := Go.Lib.hid (HT.out.trans hT)
  clear hT HT HBU
  rw [show n8 3 = (3 : Int) from rfl]
  obtain ⟨W2, hW2⟩ : ∃ W2, W2 = w2.alloc (.cells #[.int .i64 3, .string ⟨#[]⟩, .int .i64 0, .int .u64 0, .int .u64 0, .int .u64 0, .int .u64 0, .int .u64 0] 30) := ⟨_, rfl⟩
  have hR3 : Rd W2 (w.heap.size + 1) g r1 (fv (p 2) (p 3) 0) := by rw [hW2]; exact rd_alloc HR2.out _
  have hB3 : Below w.heap.size w W2 := by rw [hW2]; exact HB2.out.alloc HB2.out.size _
  have hn2 : W2.heap[w.heap.size]? = some (.cells #[.int .i64 0, .string ⟨#[]⟩, .int .i64 0, .int .u64 0, .int .u64 0, .int .u64 0, .int .u64 0, .int .u64 0] 30 (0, 0)) := by rw [hW2]; exact below_heap ((Below.refl _ _).alloc (Nat.le_refl _) _) HN2.out
  have hn5 : W2.heap[w2.heap.size]? = some (.cells #[.int .i64 3, .string ⟨#[]⟩, .int .i64 0, .int .u64 0, .int .u64 0, .int .u64 0, .int .u64 0, .int .u64 0] 30 (0, 0)) := by rw [hW2]; exact heap_here _ _ _ rfl
  have HR3 := Go.Lib.hid hR3
  have HB3 := Go.Lib.hid hB3
  have HY := Go.Lib.hid hn2
  have HX := Go.Lib.hid hn5
  clear hR3 hB3 hn2 hn5 HR2 HB2 HN2
  go_wp2_with fail
  rw [← hW2]
  clear hW2
  refine (err_calls W2 (w.heap.size + 1) g _ _ HR3.out).mono ?_
  rintro e w3 ⟨rfl, rfl⟩
  simp only [fv]
  obtain ⟨y0, y1, y2, y3, y4, y5, y6, y7⟩ := box8 HY.out
  have yf := heap_frozen HY.out
  obtain ⟨x0, x1, x2, x3, x4, x5, x6, x7⟩ := box8 HX.out
  have xf := heap_frozen HX.out
  go_wp2_with fail
  refine (textR_calls w3 (w.heap.size + 1) g (p 2) (p 3) r1 0 (gne (gb_mono HG.out (Nat.le_succ _)) (by omega : w.heap.size + 1 ≤ g)) (e4_two (e4_below HP.out HB3.out)) HR3.out).mono ?_
  rintro e w4 ⟨rfl, h1, h2⟩
  have HR4 := Go.Lib.hid h1
  have HB4 := Go.Lib.hid (HB3.out.trans (h2.below (B := w.heap.size) (by omega)))
  have HY4 := Go.Lib.hid (keep_heap (keep_only h2) HY.out (by omega))
  have HX4 := Go.Lib.hid (keep_heap (keep_only h2) HX.out (by omega))
  clear y0 y1 y2 y3 y4 y5 y6 y7 yf
  clear x0 x1 x2 x3 x4 x5 x6 x7 xf
  clear h1 h2 HR3 HB3 HY HX
  generalize textS r1 0 = tq at *
  obtain ⟨s, r2, f2⟩ := tq
  simp only at HR4 HT2 ⊢
  obtain ⟨y0, y1, y2, y3, y4, y5, y6, y7⟩ := box8 HY4.out
  have yf := heap_frozen HY4.out
  obtain ⟨x0, x1, x2, x3, x4, x5, x6, x7⟩ := box8 HX4.out
  have xf := heap_frozen HX4.out
  go_wp2_with fail
  clear y0 y1 y2 y3 y4 y5 y6 y7 yf
  clear x0 x1 x2 x3 x4 x5 x6 x7 xf
  obtain ⟨W5, hnew⟩ : ∃ W, W = w4.setCell ⟨w2.heap.size, 1, none⟩ (.string ⟨s.toArray⟩) := ⟨_, rfl⟩
  have hrd : Rd W5 (w.heap.size + 1) g r2 (fv (p 2) (p 3) f2) := by rw [hnew]; exact rd_set HR4.out HX4.out (by decide) rfl _ _
  have hbl : Below w.heap.size w W5 := by rw [hnew]; exact HB4.out.setCell (by show w.heap.size ≤ w2.heap.size; omega) _
  have hy : W5.heap[w.heap.size]? = some (.cells #[.int .i64 0, .string ⟨#[]⟩, .int .i64 0, .int .u64 0, .int .u64 0, .int .u64 0, .int .u64 0, .int .u64 0] 30 (0, 0)) := by rw [hnew]; exact set_other HY4.out (by omega) _ _
  have hx : W5.heap[w2.heap.size]? = some (.cells #[.int .i64 3, .string ⟨s.toArray⟩, .int .i64 0, .int .u64 0, .int .u64 0, .int .u64 0, .int .u64 0, .int .u64 0] 30 (0, 0)) := by rw [hnew]; exact set_heap HX4.out _ _
  have HR5 := Go.Lib.hid hrd
  have HB5 := Go.Lib.hid hbl
  have HY5 := Go.Lib.hid hy
  have HX5 := Go.Lib.hid hx
  clear hrd hbl hy hx HR4 HB4 HY4 HX4
  rw [← hnew]
  clear hnew
  cases f2 with
  | succ m =>
    obtain ⟨a, ha, he⟩ := fv_iface p m
    have hT : decOp b.length 3 (s, r2, m + 1) = (reqZ, fault (m + 1)) := by unfold decOp; rw [if_pos (by simp)]
    have HT3 := Go.Lib.hid (HT2.out.trans hT)
    have HE := Go.Lib.hid he
    clear hT HT2 he
    have HT2 := HT3
    rw [ha] at HR5
    clear ha
    obtain ⟨y0, y1, y2, y3, y4, y5, y6, y7⟩ := box8 HY5.out
    have yf := heap_frozen HY5.out
    refine (err_calls W5 (w.heap.size + 1) g _ _ HR5.out).mono ?_
    rintro e wx ⟨rfl, rfl⟩
    go_wp2_with fail
    refine (err_calls wx (w.heap.size + 1) g _ _ HR5.out).mono ?_
    rintro e wy ⟨rfl, rfl⟩
    go_wp2
    refine bodyPost_ret (v := .tuple #[.agg #[.int .i64 0, .string ⟨#[]⟩, .int .i64 0, .int .u64 0, .int .u64 0, .int .u64 0, .int .u64 0, .int .u64 0], .iface 105 (.pointer (some a))]) (by simp [results, Tryd.results12, go_sem, y0, y1, y2, y3, y4, y5, y6, y7]) rfl ?_
    rw [HT2.out]
    exact ⟨by rw [HE.out]; rfl, set8_below HB5.out (Nat.le_refl _) _ _ _ _ _ _ _ _⟩
  | zero =>
    obtain ⟨y0, y1, y2, y3, y4, y5, y6, y7⟩ := box8 HY5.out
    have yf := heap_frozen HY5.out
    obtain ⟨x0, x1, x2, x3, x4, x5, x6, x7⟩ := box8 HX5.out
    have xf := heap_frozen HX5.out
    refine (err_calls W5 (w.heap.size + 1) g _ _ HR5.out).mono ?_
    rintro e w6 ⟨rfl, rfl⟩
    simp only [fv]
    go_wp2_with fail
    clear y0 y1 y2 y3 y4 y5 y6 y7 yf
    clear x0 x1 x2 x3 x4 x5 x6 x7 xf
    have HT3 := Go.Lib.hid (HT2.out.trans (show decOp b.length 3 (s, r2, 0) = reqOr ⟨3, s, polZ, 0⟩ (endE r2 0 b.length) from rfl))
    clear HT2
    refine (end_calls' p (w.heap.size + 1) g r2 0 A c b.length w6 (e4_below HP.out HB5.out) (by omega) HR5.out).mono ?_
    rintro e wx ⟨rfl, rfl⟩
    generalize endE r2 0 b.length = k at *
    obtain ⟨y0, y1, y2, y3, y4, y5, y6, y7⟩ := box8 HY5.out
    have yf := heap_frozen HY5.out
    obtain ⟨x0, x1, x2, x3, x4, x5, x6, x7⟩ := box8 HX5.out
    have xf := heap_frozen HX5.out
    cases k with
    | zero =>
      simp only [errv]
      go_wp2
      refine bodyPost_ret (v := .tuple #[.agg #[.int .i64 3, .string ⟨s.toArray⟩, .int .i64 0, .int .u64 0, .int .u64 0, .int .u64 0, .int .u64 0, .int .u64 0], .nilIface]) (by simp [results, Tryd.results12, go_sem, y0, y1, y2, y3, y4, y5, y6, y7]) rfl ?_
      rw [HT3.out, show reqOr ⟨3, s, polZ, 0⟩ 0 = (⟨3, s, polZ, 0⟩, 0) from rfl]
      exact ⟨rfl, set8_below HB5.out (Nat.le_refl _) _ _ _ _ _ _ _ _⟩
    | succ m =>
      simp only [errv]
      go_wp2
      refine bodyPost_ret (v := .tuple #[.agg #[.int .i64 0, .string ⟨#[]⟩, .int .i64 0, .int .u64 0, .int .u64 0, .int .u64 0, .int .u64 0, .int .u64 0], .iface 105 (.pointer (some (p (m + 1))))]) (by simp [results, Tryd.results12, go_sem, y0, y1, y2, y3, y4, y5, y6, y7]) rfl ?_
      rw [HT3.out, show reqOr ⟨3, s, polZ, 0⟩ (m + 1) = (reqZ, m + 1) from rfl]
      exact ⟨rfl, set8_below HB5.out (Nat.le_refl _) _ _ _ _ _ _ _ _⟩

set_option maxRecDepth 100000 in
set_option maxHeartbeats 3200000 in
theorem decode_4 (A : Option Addr) (c : Nat) (b : List UInt8) (p : Nat → Addr) (w : World) (hp : E4 w p) (hl : b.length ≤ 140737488351232) (hA : Cells w A (Bs b)) (hf : (fixedS b 0 1).2.2 = 0 ∧ (fixedS b 0 1).1.toUInt8 = 4) :
    Calls Tryd.prog 12 #[.slice A b.length c] w fun e w' => GaveR p w w' e (decS b) := by
  have hbx : Below w.heap.size w (w.alloc (.cells #[.int .i64 0, .string ⟨#[]⟩, .int .i64 0, .int .u64 0, .int .u64 0, .int .u64 0, .int .u64 0, .int .u64 0] 30)) := (Below.refl _ _).alloc (Nat.le_refl _) _
  have HBX := Go.Lib.hid hbx
  have HNR := Go.Lib.hid (newReader_calls A c b (w.alloc (.cells #[.int .i64 0, .string ⟨#[]⟩, .int .i64 0, .int .u64 0, .int .u64 0, .int .u64 0, .int .u64 0, .int .u64 0] 30)) (by omega) (cells_below hbx hA))
  have HP := Go.Lib.hid hp
  have HG := Go.Lib.hid (gb_of hp)
  have HN0 := Go.Lib.hid (heap_here w (.cells #[.int .i64 0, .string ⟨#[]⟩, .int .i64 0, .int .u64 0, .int .u64 0, .int .u64 0, .int .u64 0, .int .u64 0] 30) w.heap.size rfl)
  have HT : Hid (decS b = decQ b.length (fixedS b 0 1)) := rfl
  clear hbx hA hp
  go_enter Tryd.func12, Tryd.ntmps12
  go_wp2_with fail
  refine HNR.out.mono ?_
  rintro e w1 ⟨g, rfl, hr1, hb1⟩
  have HR1 := Go.Lib.hid (show Rd w1 (w.alloc (.cells #[.int .i64 0, .string ⟨#[]⟩, .int .i64 0, .int .u64 0, .int .u64 0, .int .u64 0, .int .u64 0, .int .u64 0] 30)).heap.size g b (fv (p 2) (p 3) 0) from hr1)
  have HB1 := Go.Lib.hid (below_then HBX.out hb1)
  have HN1 := Go.Lib.hid (below_heap hb1 HN0.out)
  have hB0 : (w.alloc (.cells #[.int .i64 0, .string ⟨#[]⟩, .int .i64 0, .int .u64 0, .int .u64 0, .int .u64 0, .int .u64 0, .int .u64 0] 30)).heap.size = w.heap.size + 1 := by simp
  rw [hB0] at HR1
  have hgg : w.heap.size < g := by have := rd_lt HR1.out; omega
  have hgw1 : g < w1.heap.size := (rd_lt HR1.out).2
  clear hr1 hb1 HNR HBX HN0 hB0
  go_wp2_with fail
  refine (u8_calls w1 (w.heap.size + 1) g (p 2) (p 3) b 0 (e4_two (e4_below HP.out HB1.out)) HR1.out).mono ?_
  rintro e w2 ⟨rfl, h1, h2⟩
  have HR2 := Go.Lib.hid h1
  have HB2 := Go.Lib.hid (HB1.out.trans (h2.below (B := w.heap.size) (by omega)))
  have HN2 := Go.Lib.hid (keep_heap (keep_only h2) HN1.out (by omega))
  have hs2 : w2.heap.size = w1.heap.size := h2.2.2.2.1
  have hgw2 : g < w2.heap.size := by omega
  have hnw2 : w.heap.size < w2.heap.size := by omega
  clear h1 h2 HR1 HB1 HN1 hs2 hgw1
  have HF := Go.Lib.hid hf
  clear hf
  generalize fixedS b 0 1 = q at *
  obtain ⟨u, r1, f1⟩ := q
  have hf := HF.out
  clear HF
  simp only at HR2 HT hf ⊢
  generalize hbu : u.toUInt8 = b0 at *
  have HBU := Go.Lib.hid hbu
  clear hbu
  have hb0 : 0 ≤ n8 b0 := by unfold n8; omega
  have hb1 : n8 b0 < 256 := by unfold n8; have := b0.toNat_lt; omega
  obtain rfl : f1 = 0 := hf.1
  have hop := hf.2
  subst hop
  clear hf
  have hT : decQ b.length (u, r1, 0) = decOp b.length 4 (textS r1 0) := by
    unfold decQ
    rw [if_neg (by simp)]
    simp only [HBU.out]
    rfl
  have HT2 := Go.Lib.hid (HT.out.trans hT)
  clear hT HT HBU
  rw [show n8 4 = (4 : Int) from rfl]
  obtain ⟨W2, hW2⟩ : ∃ W2, W2 = w2.alloc (.cells #[.int .i64 4, .string ⟨#[]⟩, .int .i64 0, .int .u64 0, .int .u64 0, .int .u64 0, .int .u64 0, .int .u64 0] 30) := ⟨_, rfl⟩
  have hR3 : Rd W2 (w.heap.size + 1) g r1 (fv (p 2) (p 3) 0) := by rw [hW2]; exact rd_alloc HR2.out _
  have hB3 : Below w.heap.size w W2 := by rw [hW2]; exact HB2.out.alloc HB2.out.size _
  have hn2 : W2.heap[w.heap.size]? = some (.cells #[.int .i64 0, .string ⟨#[]⟩, .int .i64 0, .int .u64 0, .int .u64 0, .int .u64 0, .int .u64 0, .int .u64 0] 30 (0, 0)) := by rw [hW2]; exact below_heap ((Below.refl _ _).alloc (Nat.le_refl _) _) HN2.out
  have hn5 : W2.heap[w2.heap.size]? = some (.cells #[.int .i64 4, .string ⟨#[]⟩, .int .i64 0, .int .u64 0, .int .u64 0, .int .u64 0, .int .u64 0, .int .u64 0] 30 (0, 0)) := by rw [hW2]; exact heap_here _ _ _ rfl
  have HR3 := Go.Lib.hid hR3
  have HB3 := Go.Lib.hid hB3
  have HY := Go.Lib.hid hn2
  have HX := Go.Lib.hid hn5
  clear hR3 hB3 hn2 hn5 HR2 HB2 HN2
  go_wp2_with fail
  rw [← hW2]
  clear hW2
  refine (err_calls W2 (w.heap.size + 1) g _ _ HR3.out).mono ?_
  rintro e w3 ⟨rfl, rfl⟩
  simp only [fv]
  obtain ⟨y0, y1, y2, y3, y4, y5, y6, y7⟩ := box8 HY.out
  have yf := heap_frozen HY.out
  obtain ⟨x0, x1, x2, x3, x4, x5, x6, x7⟩ := box8 HX.out
  have xf := heap_frozen HX.out
  go_wp2_with fail
  refine (textR_calls w3 (w.heap.size + 1) g (p 2) (p 3) r1 0 (gne (gb_mono HG.out (Nat.le_succ _)) (by omega : w.heap.size + 1 ≤ g)) (e4_two (e4_below HP.out HB3.out)) HR3.out).mono ?_
  rintro e w4 ⟨rfl, h1, h2⟩
  have HR4 := Go.Lib.hid h1
  have HB4 := Go.Lib.hid (HB3.out.trans (h2.below (B := w.heap.size) (by omega)))
  have HY4 := Go.Lib.hid (keep_heap (keep_only h2) HY.out (by omega))
  have HX4 := Go.Lib.hid (keep_heap (keep_only h2) HX.out (by omega))
  clear y0 y1 y2 y3 y4 y5 y6 y7 yf
  clear x0 x1 x2 x3 x4 x5 x6 x7 xf
  clear h1 h2 HR3 HB3 HY HX
  generalize textS r1 0 = tq at *
  obtain ⟨s, r2, f2⟩ := tq
  simp only at HR4 HT2 ⊢
  obtain ⟨y0, y1, y2, y3, y4, y5, y6, y7⟩ := box8 HY4.out
  have yf := heap_frozen HY4.out
  obtain ⟨x0, x1, x2, x3, x4, x5, x6, x7⟩ := box8 HX4.out
  have xf := heap_frozen HX4.out
  go_wp2_with fail
  clear y0 y1 y2 y3 y4 y5 y6 y7 yf
  clear x0 x1 x2 x3 x4 x5 x6 x7 xf
  obtain ⟨W5, hnew⟩ : ∃ W, W = w4.setCell ⟨w2.heap.size, 1, none⟩ (.string ⟨s.toArray⟩) := ⟨_, rfl⟩
  have hrd : Rd W5 (w.heap.size + 1) g r2 (fv (p 2) (p 3) f2) := by rw [hnew]; exact rd_set HR4.out HX4.out (by decide) rfl _ _
  have hbl : Below w.heap.size w W5 := by rw [hnew]; exact HB4.out.setCell (by show w.heap.size ≤ w2.heap.size; omega) _
  have hy : W5.heap[w.heap.size]? = some (.cells #[.int .i64 0, .string ⟨#[]⟩, .int .i64 0, .int .u64 0, .int .u64 0, .int .u64 0, .int .u64 0, .int .u64 0] 30 (0, 0)) := by rw [hnew]; exact set_other HY4.out (by omega) _ _
  have hx : W5.heap[w2.heap.size]? = some (.cells #[.int .i64 4, .string ⟨s.toArray⟩, .int .i64 0, .int .u64 0, .int .u64 0, .int .u64 0, .int .u64 0, .int .u64 0] 30 (0, 0)) := by rw [hnew]; exact set_heap HX4.out _ _
  have HR5 := Go.Lib.hid hrd
  have HB5 := Go.Lib.hid hbl
  have HY5 := Go.Lib.hid hy
  have HX5 := Go.Lib.hid hx
  clear hrd hbl hy hx HR4 HB4 HY4 HX4
  rw [← hnew]
  clear hnew
  cases f2 with
  | succ m =>
    obtain ⟨a, ha, he⟩ := fv_iface p m
    have hT : decOp b.length 4 (s, r2, m + 1) = (reqZ, fault (m + 1)) := by unfold decOp; rw [if_pos (by simp)]
    have HT3 := Go.Lib.hid (HT2.out.trans hT)
    have HE := Go.Lib.hid he
    clear hT HT2 he
    have HT2 := HT3
    rw [ha] at HR5
    clear ha
    obtain ⟨y0, y1, y2, y3, y4, y5, y6, y7⟩ := box8 HY5.out
    have yf := heap_frozen HY5.out
    refine (err_calls W5 (w.heap.size + 1) g _ _ HR5.out).mono ?_
    rintro e wx ⟨rfl, rfl⟩
    go_wp2_with fail
    refine (err_calls wx (w.heap.size + 1) g _ _ HR5.out).mono ?_
    rintro e wy ⟨rfl, rfl⟩
    go_wp2
    refine bodyPost_ret (v := .tuple #[.agg #[.int .i64 0, .string ⟨#[]⟩, .int .i64 0, .int .u64 0, .int .u64 0, .int .u64 0, .int .u64 0, .int .u64 0], .iface 105 (.pointer (some a))]) (by simp [results, Tryd.results12, go_sem, y0, y1, y2, y3, y4, y5, y6, y7]) rfl ?_
    rw [HT2.out]
    exact ⟨by rw [HE.out]; rfl, set8_below HB5.out (Nat.le_refl _) _ _ _ _ _ _ _ _⟩
  | zero =>
    obtain ⟨y0, y1, y2, y3, y4, y5, y6, y7⟩ := box8 HY5.out
    have yf := heap_frozen HY5.out
    obtain ⟨x0, x1, x2, x3, x4, x5, x6, x7⟩ := box8 HX5.out
    have xf := heap_frozen HX5.out
    refine (err_calls W5 (w.heap.size + 1) g _ _ HR5.out).mono ?_
    rintro e w6 ⟨rfl, rfl⟩
    simp only [fv]
    go_wp2_with fail
    clear y0 y1 y2 y3 y4 y5 y6 y7 yf
    clear x0 x1 x2 x3 x4 x5 x6 x7 xf
    have HT3 := Go.Lib.hid (HT2.out.trans (show decOp b.length 4 (s, r2, 0) = reqOr ⟨4, s, polZ, 0⟩ (endE r2 0 b.length) from rfl))
    clear HT2
    refine (end_calls' p (w.heap.size + 1) g r2 0 A c b.length w6 (e4_below HP.out HB5.out) (by omega) HR5.out).mono ?_
    rintro e wx ⟨rfl, rfl⟩
    generalize endE r2 0 b.length = k at *
    obtain ⟨y0, y1, y2, y3, y4, y5, y6, y7⟩ := box8 HY5.out
    have yf := heap_frozen HY5.out
    obtain ⟨x0, x1, x2, x3, x4, x5, x6, x7⟩ := box8 HX5.out
    have xf := heap_frozen HX5.out
    cases k with
    | zero =>
      simp only [errv]
      go_wp2
      refine bodyPost_ret (v := .tuple #[.agg #[.int .i64 4, .string ⟨s.toArray⟩, .int .i64 0, .int .u64 0, .int .u64 0, .int .u64 0, .int .u64 0, .int .u64 0], .nilIface]) (by simp [results, Tryd.results12, go_sem, y0, y1, y2, y3, y4, y5, y6, y7]) rfl ?_
      rw [HT3.out, show reqOr ⟨4, s, polZ, 0⟩ 0 = (⟨4, s, polZ, 0⟩, 0) from rfl]
      exact ⟨rfl, set8_below HB5.out (Nat.le_refl _) _ _ _ _ _ _ _ _⟩
    | succ m =>
      simp only [errv]
      go_wp2
      refine bodyPost_ret (v := .tuple #[.agg #[.int .i64 0, .string ⟨#[]⟩, .int .i64 0, .int .u64 0, .int .u64 0, .int .u64 0, .int .u64 0, .int .u64 0], .iface 105 (.pointer (some (p (m + 1))))]) (by simp [results, Tryd.results12, go_sem, y0, y1, y2, y3, y4, y5, y6, y7]) rfl ?_
      rw [HT3.out, show reqOr ⟨4, s, polZ, 0⟩ (m + 1) = (reqZ, m + 1) from rfl]
      exact ⟨rfl, set8_below HB5.out (Nat.le_refl _) _ _ _ _ _ _ _ _⟩

set_option maxRecDepth 100000 in
set_option maxHeartbeats 3200000 in
theorem decode_5 (A : Option Addr) (c : Nat) (b : List UInt8) (p : Nat → Addr) (w : World) (hp : E4 w p) (hl : b.length ≤ 140737488351232) (hA : Cells w A (Bs b)) (hf : (fixedS b 0 1).2.2 = 0 ∧ (fixedS b 0 1).1.toUInt8 = 5) :
    Calls Tryd.prog 12 #[.slice A b.length c] w fun e w' => GaveR p w w' e (decS b) := by
  have hbx : Below w.heap.size w (w.alloc (.cells #[.int .i64 0, .string ⟨#[]⟩, .int .i64 0, .int .u64 0, .int .u64 0, .int .u64 0, .int .u64 0, .int .u64 0] 30)) := (Below.refl _ _).alloc (Nat.le_refl _) _
  have HBX := Go.Lib.hid hbx
  have HNR := Go.Lib.hid (newReader_calls A c b (w.alloc (.cells #[.int .i64 0, .string ⟨#[]⟩, .int .i64 0, .int .u64 0, .int .u64 0, .int .u64 0, .int .u64 0, .int .u64 0] 30)) (by omega) (cells_below hbx hA))
  have HP := Go.Lib.hid hp
  have HG := Go.Lib.hid (gb_of hp)
  have HN0 := Go.Lib.hid (heap_here w (.cells #[.int .i64 0, .string ⟨#[]⟩, .int .i64 0, .int .u64 0, .int .u64 0, .int .u64 0, .int .u64 0, .int .u64 0] 30) w.heap.size rfl)
  have HT : Hid (decS b = decQ b.length (fixedS b 0 1)) := rfl
  clear hbx hA hp
  go_enter Tryd.func12, Tryd.ntmps12
  go_wp2_with fail
  refine HNR.out.mono ?_
  rintro e w1 ⟨g, rfl, hr1, hb1⟩
  have HR1 := Go.Lib.hid (show Rd w1 (w.alloc (.cells #[.int .i64 0, .string ⟨#[]⟩, .int .i64 0, .int .u64 0, .int .u64 0, .int .u64 0, .int .u64 0, .int .u64 0] 30)).heap.size g b (fv (p 2) (p 3) 0) from hr1)
  have HB1 := Go.Lib.hid (below_then HBX.out hb1)
  have HN1 := Go.Lib.hid (below_heap hb1 HN0.out)
  have hB0 : (w.alloc (.cells #[.int .i64 0, .string ⟨#[]⟩, .int .i64 0, .int .u64 0, .int .u64 0, .int .u64 0, .int .u64 0, .int .u64 0] 30)).heap.size = w.heap.size + 1 := by simp
  rw [hB0] at HR1
  have hgg : w.heap.size < g := by have := rd_lt HR1.out; omega
  have hgw1 : g < w1.heap.size := (rd_lt HR1.out).2
  clear hr1 hb1 HNR HBX HN0 hB0
  go_wp2_with fail
  refine (u8_calls w1 (w.heap.size + 1) g (p 2) (p 3) b 0 (e4_two (e4_below HP.out HB1.out)) HR1.out).mono ?_
  rintro e w2 ⟨rfl, h1, h2⟩
  have HR2 := Go.Lib.hid h1
  have HB2 := Go.Lib.hid (HB1.out.trans (h2.below (B := w.heap.size) (by omega)))
  have HN2 := Go.Lib.hid (keep_heap (keep_only h2) HN1.out (by omega))
  have hs2 : w2.heap.size = w1.heap.size := h2.2.2.2.1
  have hgw2 : g < w2.heap.size := by omega
  have hnw2 : w.heap.size < w2.heap.size := by omega
  clear h1 h2 HR1 HB1 HN1 hs2 hgw1
  have HF := Go.Lib.hid hf
  clear hf
  generalize fixedS b 0 1 = q at *
  obtain ⟨u, r1, f1⟩ := q
  have hf := HF.out
  clear HF
  simp only at HR2 HT hf ⊢
  generalize hbu : u.toUInt8 = b0 at *
  have HBU := Go.Lib.hid hbu
  clear hbu
  have hb0 : 0 ≤ n8 b0 := by unfold n8; omega
  have hb1 : n8 b0 < 256 := by unfold n8; have := b0.toNat_lt; omega
  obtain rfl : f1 = 0 := hf.1
  have hop := hf.2
  subst hop
  clear hf
  have hT : decQ b.length (u, r1, 0) = decOp b.length 5 ([], r1, 0) := by
    unfold decQ
    rw [if_neg (by simp)]
    simp only [HBU.out]
    rfl
  have HT2 := Go.Lib.hid (HT.out.trans hT)
  clear hT HT HBU
  rw [show n8 5 = (5 : Int) from rfl]
  obtain ⟨W2, hW2⟩ : ∃ W2, W2 = w2.alloc (.cells #[.int .i64 5, .string ⟨#[]⟩, .int .i64 0, .int .u64 0, .int .u64 0, .int .u64 0, .int .u64 0, .int .u64 0] 30) := ⟨_, rfl⟩
  have hR3 : Rd W2 (w.heap.size + 1) g r1 (fv (p 2) (p 3) 0) := by rw [hW2]; exact rd_alloc HR2.out _
  have hB3 : Below w.heap.size w W2 := by rw [hW2]; exact HB2.out.alloc HB2.out.size _
  have hn2 : W2.heap[w.heap.size]? = some (.cells #[.int .i64 0, .string ⟨#[]⟩, .int .i64 0, .int .u64 0, .int .u64 0, .int .u64 0, .int .u64 0, .int .u64 0] 30 (0, 0)) := by rw [hW2]; exact below_heap ((Below.refl _ _).alloc (Nat.le_refl _) _) HN2.out
  have hn5 : W2.heap[w2.heap.size]? = some (.cells #[.int .i64 5, .string ⟨#[]⟩, .int .i64 0, .int .u64 0, .int .u64 0, .int .u64 0, .int .u64 0, .int .u64 0] 30 (0, 0)) := by rw [hW2]; exact heap_here _ _ _ rfl
  have HR3 := Go.Lib.hid hR3
  have HB3 := Go.Lib.hid hB3
  have HY := Go.Lib.hid hn2
  have HX := Go.Lib.hid hn5
  clear hR3 hB3 hn2 hn5 HR2 HB2 HN2
  go_wp2_with fail
  rw [← hW2]
  clear hW2
  refine (err_calls W2 (w.heap.size + 1) g _ _ HR3.out).mono ?_
  rintro e w3 ⟨rfl, rfl⟩
  simp only [fv]
  obtain ⟨y0, y1, y2, y3, y4, y5, y6, y7⟩ := box8 HY.out
  have yf := heap_frozen HY.out
  obtain ⟨x0, x1, x2, x3, x4, x5, x6, x7⟩ := box8 HX.out
  have xf := heap_frozen HX.out
  go_wp2_with fail
  refine (err_calls w3 (w.heap.size + 1) g _ _ HR3.out).mono ?_
  rintro e w4 ⟨rfl, rfl⟩
  simp only [fv]
  go_wp2_with fail
  clear y0 y1 y2 y3 y4 y5 y6 y7 yf
  clear x0 x1 x2 x3 x4 x5 x6 x7 xf
  have HT3 := Go.Lib.hid (HT2.out.trans (show decOp b.length 5 ([], r1, 0) = reqOr ⟨5, [], polZ, 0⟩ (endE r1 0 b.length) from rfl))
  clear HT2
  refine (end_calls' p (w.heap.size + 1) g r1 0 A c b.length w4 (e4_below HP.out HB3.out) (by omega) HR3.out).mono ?_
  rintro e wx ⟨rfl, rfl⟩
  generalize endE r1 0 b.length = k at *
  obtain ⟨y0, y1, y2, y3, y4, y5, y6, y7⟩ := box8 HY.out
  have yf := heap_frozen HY.out
  obtain ⟨x0, x1, x2, x3, x4, x5, x6, x7⟩ := box8 HX.out
  have xf := heap_frozen HX.out
  cases k with
  | zero =>
    simp only [errv]
    go_wp2
    refine bodyPost_ret (v := .tuple #[.agg #[.int .i64 5, .string ⟨#[]⟩, .int .i64 0, .int .u64 0, .int .u64 0, .int .u64 0, .int .u64 0, .int .u64 0], .nilIface]) (by simp [results, Tryd.results12, go_sem, y0, y1, y2, y3, y4, y5, y6, y7]) rfl ?_
    rw [HT3.out, show reqOr ⟨5, [], polZ, 0⟩ 0 = (⟨5, [], polZ, 0⟩, 0) from rfl]
    exact ⟨rfl, set8_below HB3.out (Nat.le_refl _) _ _ _ _ _ _ _ _⟩
  | succ m =>
    simp only [errv]
    go_wp2
    refine bodyPost_ret (v := .tuple #[.agg #[.int .i64 0, .string ⟨#[]⟩, .int .i64 0, .int .u64 0, .int .u64 0, .int .u64 0, .int .u64 0, .int .u64 0], .iface 105 (.pointer (some (p (m + 1))))]) (by simp [results, Tryd.results12, go_sem, y0, y1, y2, y3, y4, y5, y6, y7]) rfl ?_
    rw [HT3.out, show reqOr ⟨5, [], polZ, 0⟩ (m + 1) = (reqZ, m + 1) from rfl]
    exact ⟨rfl, set8_below HB3.out (Nat.le_refl _) _ _ _ _ _ _ _ _⟩

theorem decode_calls (A : Option Addr) (c : Nat) (b : List UInt8) (p : Nat → Addr) (w : World) (hp : E4 w p) (hl : b.length ≤ 140737488351232) (hA : Cells w A (Bs b)) :
    Calls Tryd.prog 12 #[.slice A b.length c] w fun e w' => GaveR p w w' e (decS b) := by
  by_cases hf : (fixedS b 0 1).2.2 = 0
  · have hc : ∀ x : UInt8, x.toNat < 1 ∨ 5 < x.toNat ∨ x = 1 ∨ x = 2 ∨ x = 3 ∨ x = 4 ∨ x = 5 := fun x => by
      have h : x.toNat < 1 ∨ 5 < x.toNat ∨ x.toNat = 1 ∨ x.toNat = 2 ∨ x.toNat = 3 ∨ x.toNat = 4 ∨ x.toNat = 5 := by omega
      rcases h with h | h | h | h | h | h | h
      · exact .inl h
      · exact .inr (.inl h)
      · exact .inr (.inr (.inl (UInt8.toNat_inj.1 h)))
      · exact .inr (.inr (.inr (.inl (UInt8.toNat_inj.1 h))))
      · exact .inr (.inr (.inr (.inr (.inl (UInt8.toNat_inj.1 h)))))
      · exact .inr (.inr (.inr (.inr (.inr (.inl (UInt8.toNat_inj.1 h))))))
      · exact .inr (.inr (.inr (.inr (.inr (.inr (UInt8.toNat_inj.1 h))))))
    rcases hc (fixedS b 0 1).1.toUInt8 with h | h | h | h | h | h | h
    · exact decode_lo A c b p w hp hl hA ⟨hf, h⟩
    · exact decode_hi A c b p w hp hl hA ⟨hf, h⟩
    · exact decode_1 A c b p w hp hl hA ⟨hf, h⟩
    · exact decode_2 A c b p w hp hl hA ⟨hf, h⟩
    · exact decode_3 A c b p w hp hl hA ⟨hf, h⟩
    · exact decode_4 A c b p w hp hl hA ⟨hf, h⟩
    · exact decode_5 A c b p w hp hl hA ⟨hf, h⟩
  · exact decode_fault A c b p w hp hl hA hf
end Go.Proofs.YtonfeppenhebjaaDoor

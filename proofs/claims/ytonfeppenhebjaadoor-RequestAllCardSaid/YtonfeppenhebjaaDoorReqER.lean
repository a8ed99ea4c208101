/- Package request: EncodeReply. (Printed by gen_reqer.py of this session.) -/
import Derived.Test.YtonfeppenhebjaaDoorReqK
namespace Go.Proofs.YtonfeppenhebjaaDoor
open Go Go.RowKit
set_option linter.unusedVariables false
set_option linter.unusedSimpArgs false
attribute [local go_sem] IntKind.wrap_u64 c64_8 c8_64 c16_64 c32_64 c64_16 c64_32 or8 and8 n64_self n8_self beq_n64 beq_n8 bne_n8 bne_n64 beq_n64_0 bne_n64_0 wrap_b8

/-- a reply's payload -/
def encRBody (a : Ans) : List UInt8 := b8 a.op :: b8 a.rep.code ::
  (if a.op = 2 ∧ a.rep.code = 1 then leS a.rep.at_ 8 ++ leS a.rep.retry 8 else if a.op = 2 ∧ a.rep.code = 0 then leS a.rep.at_ 8
   else if a.op = 3 ∧ a.rep.code = 0 then leS a.rep.at_ 8 ++ polB a.rep.pol ++ leS a.rep.lev.tat 8 ++ leS a.rep.lev.index 8 ++ leS a.rep.lev.count 8 else [])
/-- can a reply be said -/
def sayA (a : Ans) : Bool := pairS a.op a.rep.code && (keptS a == a.rep) && (if a.op = 3 ∧ a.rep.code = 0 then sayS a.rep.pol else true)
def encR (a : Ans) : List UInt8 × Nat := if sayA a = true then (encRBody a, 0) else ([], 1)
theorem box12 {w : World} {g T : Nat} {v0 v1 v2 v3 v4 v5 v6 v7 v8 v9 v10 v11 : Value} {fr : Nat × Nat} (h : w.heap[g]? = some (.cells #[v0, v1, v2, v3, v4, v5, v6, v7, v8, v9, v10, v11] T fr)) :
    w.cell? ⟨g, 0, none⟩ = some v0 ∧ w.cell? ⟨g, 1, none⟩ = some v1 ∧ w.cell? ⟨g, 2, none⟩ = some v2 ∧ w.cell? ⟨g, 3, none⟩ = some v3 ∧ w.cell? ⟨g, 4, none⟩ = some v4 ∧ w.cell? ⟨g, 5, none⟩ = some v5 ∧ w.cell? ⟨g, 6, none⟩ = some v6 ∧ w.cell? ⟨g, 7, none⟩ = some v7 ∧ w.cell? ⟨g, 8, none⟩ = some v8 ∧ w.cell? ⟨g, 9, none⟩ = some v9 ∧ w.cell? ⟨g, 10, none⟩ = some v10 ∧ w.cell? ⟨g, 11, none⟩ = some v11 :=
  ⟨blk_cell h 0 _ rfl, blk_cell h 1 _ rfl, blk_cell h 2 _ rfl, blk_cell h 3 _ rfl, blk_cell h 4 _ rfl, blk_cell h 5 _ rfl, blk_cell h 6 _ rfl, blk_cell h 7 _ rfl, blk_cell h 8 _ rfl, blk_cell h 9 _ rfl, blk_cell h 10 _ rfl, blk_cell h 11 _ rfl⟩
/-- a slice of bytes that was just made -/
theorem own_fresh {w : World} {b g e : Nat} {l : List UInt8} (hg : w.heap[g]? = some (.cells (Bs l).toArray e (0, 0))) (hb : b ≤ g) (n : Nat) (hn : l.length = n) (hm : n ≤ 9223372036854775807) : Own w b e (.slice (some ⟨g, 0, none⟩) n n) (Bs l) := by
  subst hn
  exact ⟨by simp [Bs], .inr ⟨g, l.length, _, by rw [Bs_length], hb, hg, by rw [Bs_length]; exact Nat.le_refl _, by unfold maxLen; omega, by simp [Bs], by simp⟩⟩
theorem own_cells {w : World} {b e n c : Nat} {A : Option Addr} {vs : List Value} (h : Own w b e (.slice A n c) vs) : Cells w A vs := by
  obtain ⟨A1, c1, hv, _, _, hc⟩ := own_slice h
  cases hv
  exact hc
theorem putPolicy_lit (B : Nat) (A : Option Addr) (c : Nat) (l : List UInt8) (k : Int) (p1 p2 p3 p4 : UInt64) (N : Nat) (w : World) (hB : B ≤ w.heap.size) (hl : l.length ≤ N) (hN : N ≤ 1000000) (hv : Own w B 5 (.slice A l.length c) (Bs l)) :
    Calls Tryd.prog 25 #[.slice A l.length c, .agg #[.int .i64 k, .int .u64 (n64 p1), .int .u64 (n64 p2), .int .u64 (n64 p3), .int .u64 (n64 p4)]] w fun e w' => ∃ A' c' l', e = .returned (.slice A' (l' : List UInt8).length c') ∧ Hid (l' = l ++ polB ⟨k, p1, p2, p3, p4⟩) ∧ Hid (Cells w' A' (Bs l')) ∧ l'.length ≤ N + 17 ∧ Hid (Own w' B 5 (.slice A' l'.length c') (Bs l')) ∧ Below B w w' :=
  putPolicy_v B A c l ⟨k, p1, p2, p3, p4⟩ N w hB hl hN hv

set_option maxRecDepth 100000 in
set_option maxHeartbeats 3200000 in
theorem encR_nopair (at_ retry : UInt64) (k : Int) (p1 p2 p3 p4 l1 l2 l3 : UInt64) (op code : Int) (p : Nat → Addr) (w : World) (hp : E4 w p) (hpair : pairS op code = false) :
    Calls Tryd.prog 15 #[.agg (ansA ⟨op, ⟨code, at_, retry, ⟨k, p1, p2, p3, p4⟩, ⟨l1, l2, l3⟩⟩⟩)] w fun e w' => GaveE p w w' e (encR ⟨op, ⟨code, at_, retry, ⟨k, p1, p2, p3, p4⟩, ⟨l1, l2, l3⟩⟩⟩) := by
  have hE : encR ⟨op, ⟨code, at_, retry, ⟨k, p1, p2, p3, p4⟩, ⟨l1, l2, l3⟩⟩⟩ = ([], 1) := by unfold encR sayA; rw [if_neg (by simp [hpair])]
  rw [hE]
  clear hE
  have hpc : ∀ V : World, Calls Tryd.prog 34 #[.int .i64 op, .int .i64 code] V fun e w' => e = .returned (.bool false) ∧ Below V.heap.size V w' := fun V => by rw [← hpair]; exact pair_calls op code V
  clear hpair
  have hbx : Below w.heap.size w (w.alloc (.cells #[.int .i64 op, .int .i64 code, .int .u64 (n64 at_), .int .u64 (n64 retry), .int .i64 k, .int .u64 (n64 p1), .int .u64 (n64 p2), .int .u64 (n64 p3), .int .u64 (n64 p4), .int .u64 (n64 l1), .int .u64 (n64 l2), .int .u64 (n64 l3)] 36)) := (Below.refl _ _).alloc (Nat.le_refl _) _
  have HBX := Go.Lib.hid hbx
  have HX := Go.Lib.hid (heap_here w (.cells #[.int .i64 op, .int .i64 code, .int .u64 (n64 at_), .int .u64 (n64 retry), .int .i64 k, .int .u64 (n64 p1), .int .u64 (n64 p2), .int .u64 (n64 p3), .int .u64 (n64 p4), .int .u64 (n64 l1), .int .u64 (n64 l2), .int .u64 (n64 l3)] 36) w.heap.size rfl)
  have HE1 := Go.Lib.hid (e4_below hp hbx)
  have HSZ := Go.Lib.hid (show w.heap.size < (w.alloc (.cells #[.int .i64 op, .int .i64 code, .int .u64 (n64 at_), .int .u64 (n64 retry), .int .i64 k, .int .u64 (n64 p1), .int .u64 (n64 p2), .int .u64 (n64 p3), .int .u64 (n64 p4), .int .u64 (n64 l1), .int .u64 (n64 l2), .int .u64 (n64 l3)] 36)).heap.size by simp)
  obtain ⟨W, hW⟩ : ∃ W, W = w.alloc (.cells #[.int .i64 op, .int .i64 code, .int .u64 (n64 at_), .int .u64 (n64 retry), .int .i64 k, .int .u64 (n64 p1), .int .u64 (n64 p2), .int .u64 (n64 p3), .int .u64 (n64 p4), .int .u64 (n64 l1), .int .u64 (n64 l2), .int .u64 (n64 l3)] 36) := ⟨_, rfl⟩
  simp only [ansA]
  go_enter Tryd.func15, Tryd.ntmps15
  go_wp2
  rw [← hW] at HBX HX HE1 HSZ ⊢
  clear hW hbx hp
  have hsz := HSZ.out
  obtain ⟨x0, x1, x2, x3, x4, x5, x6, x7, x8, x9, x10, x11⟩ := box12 HX.out
  first
    | go_region_with (go_at_call 34; (with_reducible refine (hpc W.drew).mono ?_); rintro e w5 ⟨rfl, hb5⟩)
    | fail
  all_goals
    have hb5w : Below W.heap.size W w5 := undrew hb5
    have e1 := e4_arg (e4_below HE1.out hb5w)
    have HB5 := Go.Lib.hid (below_then HBX.out hb5w)
    clear hb5 hb5w
    go_wp2
    go_quiet (fail)
    go_wp2
    go_ret2
    exact ⟨_, rfl, own_nil _ _ _, HB5.out.trans (below_drewN _ _ _)⟩

set_option maxRecDepth 100000 in
set_option maxHeartbeats 3200000 in
theorem encR_nokept (at_ retry : UInt64) (k : Int) (p1 p2 p3 p4 l1 l2 l3 : UInt64) (op code : Int) (p : Nat → Addr) (w : World) (hp : E4 w p) (hpair : pairS op code = true) (hkept : (keptS ⟨op, ⟨code, at_, retry, ⟨k, p1, p2, p3, p4⟩, ⟨l1, l2, l3⟩⟩⟩ == ⟨code, at_, retry, ⟨k, p1, p2, p3, p4⟩, ⟨l1, l2, l3⟩⟩) = false) :
    Calls Tryd.prog 15 #[.agg (ansA ⟨op, ⟨code, at_, retry, ⟨k, p1, p2, p3, p4⟩, ⟨l1, l2, l3⟩⟩⟩)] w fun e w' => GaveE p w w' e (encR ⟨op, ⟨code, at_, retry, ⟨k, p1, p2, p3, p4⟩, ⟨l1, l2, l3⟩⟩⟩) := by
  have hE : encR ⟨op, ⟨code, at_, retry, ⟨k, p1, p2, p3, p4⟩, ⟨l1, l2, l3⟩⟩⟩ = ([], 1) := by unfold encR sayA; rw [if_neg (by simp [hkept])]
  rw [hE]
  clear hE
  have HPR := Go.Lib.hid hpair
  have hkc : ∀ V : World, Calls Tryd.prog 35 #[.agg #[.int .i64 op, .int .i64 code, .int .u64 (n64 at_), .int .u64 (n64 retry), .int .i64 k, .int .u64 (n64 p1), .int .u64 (n64 p2), .int .u64 (n64 p3), .int .u64 (n64 p4), .int .u64 (n64 l1), .int .u64 (n64 l2), .int .u64 (n64 l3)]] V fun e w' => e = .returned (.agg (repA (keptS ⟨op, ⟨code, at_, retry, ⟨k, p1, p2, p3, p4⟩, ⟨l1, l2, l3⟩⟩⟩))) ∧ Below V.heap.size V w' := fun V => kept_calls ⟨op, ⟨code, at_, retry, ⟨k, p1, p2, p3, p4⟩, ⟨l1, l2, l3⟩⟩⟩ V
  generalize keptS ⟨op, ⟨code, at_, retry, ⟨k, p1, p2, p3, p4⟩, ⟨l1, l2, l3⟩⟩⟩ = kr at *
  have HKC := hkc
  clear hpair hkc
  have hbx : Below w.heap.size w (w.alloc (.cells #[.int .i64 op, .int .i64 code, .int .u64 (n64 at_), .int .u64 (n64 retry), .int .i64 k, .int .u64 (n64 p1), .int .u64 (n64 p2), .int .u64 (n64 p3), .int .u64 (n64 p4), .int .u64 (n64 l1), .int .u64 (n64 l2), .int .u64 (n64 l3)] 36)) := (Below.refl _ _).alloc (Nat.le_refl _) _
  have HBX := Go.Lib.hid hbx
  have HX := Go.Lib.hid (heap_here w (.cells #[.int .i64 op, .int .i64 code, .int .u64 (n64 at_), .int .u64 (n64 retry), .int .i64 k, .int .u64 (n64 p1), .int .u64 (n64 p2), .int .u64 (n64 p3), .int .u64 (n64 p4), .int .u64 (n64 l1), .int .u64 (n64 l2), .int .u64 (n64 l3)] 36) w.heap.size rfl)
  have HE1 := Go.Lib.hid (e4_below hp hbx)
  have HSZ := Go.Lib.hid (show w.heap.size < (w.alloc (.cells #[.int .i64 op, .int .i64 code, .int .u64 (n64 at_), .int .u64 (n64 retry), .int .i64 k, .int .u64 (n64 p1), .int .u64 (n64 p2), .int .u64 (n64 p3), .int .u64 (n64 p4), .int .u64 (n64 l1), .int .u64 (n64 l2), .int .u64 (n64 l3)] 36)).heap.size by simp)
  obtain ⟨W, hW⟩ : ∃ W, W = w.alloc (.cells #[.int .i64 op, .int .i64 code, .int .u64 (n64 at_), .int .u64 (n64 retry), .int .i64 k, .int .u64 (n64 p1), .int .u64 (n64 p2), .int .u64 (n64 p3), .int .u64 (n64 p4), .int .u64 (n64 l1), .int .u64 (n64 l2), .int .u64 (n64 l3)] 36) := ⟨_, rfl⟩
  simp only [ansA]
  go_enter Tryd.func15, Tryd.ntmps15
  go_wp2
  rw [← hW] at HBX HX HE1 HSZ ⊢
  clear hW hbx hp
  have hsz := HSZ.out
  obtain ⟨x0, x1, x2, x3, x4, x5, x6, x7, x8, x9, x10, x11⟩ := box12 HX.out
  have hq : ∀ V : World, (binOp .neq 34 (.agg (repA kr)) (.agg #[.int .i64 code, .int .u64 (n64 at_), .int .u64 (n64 retry), .int .i64 k, .int .u64 (n64 p1), .int .u64 (n64 p2), .int .u64 (n64 p3), .int .u64 (n64 p4), .int .u64 (n64 l1), .int .u64 (n64 l2), .int .u64 (n64 l3)])).run Tryd.prog V = .ok (.bool (!false)) V := fun V => by rw [← hkept]; exact neq_rep kr ⟨code, at_, retry, ⟨k, p1, p2, p3, p4⟩, ⟨l1, l2, l3⟩⟩ V
  clear hkept
  go_region_held3 (fun w' => w'.cell? ⟨w.heap.size, 0, none⟩ = some (.int .i64 op) ∧ w'.cell? ⟨w.heap.size, 1, none⟩ = some (.int .i64 code) ∧ w'.cell? ⟨w.heap.size, 2, none⟩ = some (.int .u64 (n64 at_)) ∧ w'.cell? ⟨w.heap.size, 3, none⟩ = some (.int .u64 (n64 retry)) ∧ w'.cell? ⟨w.heap.size, 4, none⟩ = some (.int .i64 k) ∧ w'.cell? ⟨w.heap.size, 5, none⟩ = some (.int .u64 (n64 p1)) ∧ w'.cell? ⟨w.heap.size, 6, none⟩ = some (.int .u64 (n64 p2)) ∧ w'.cell? ⟨w.heap.size, 7, none⟩ = some (.int .u64 (n64 p3)) ∧ w'.cell? ⟨w.heap.size, 8, none⟩ = some (.int .u64 (n64 p4)) ∧ w'.cell? ⟨w.heap.size, 9, none⟩ = some (.int .u64 (n64 l1)) ∧ w'.cell? ⟨w.heap.size, 10, none⟩ = some (.int .u64 (n64 l2)) ∧ w'.cell? ⟨w.heap.size, 11, none⟩ = some (.int .u64 (n64 l3)))
    (first | exact ⟨x0, x1, x2, x3, x4, x5, x6, x7, x8, x9, x10, x11⟩ | exact ⟨below_cell hb6 (below_cell hb5 x0), below_cell hb6 (below_cell hb5 x1), below_cell hb6 (below_cell hb5 x2), below_cell hb6 (below_cell hb5 x3), below_cell hb6 (below_cell hb5 x4), below_cell hb6 (below_cell hb5 x5), below_cell hb6 (below_cell hb5 x6), below_cell hb6 (below_cell hb5 x7), below_cell hb6 (below_cell hb5 x8), below_cell hb6 (below_cell hb5 x9), below_cell hb6 (below_cell hb5 x10), below_cell hb6 (below_cell hb5 x11)⟩ | exact ⟨below_cell hb5 x0, below_cell hb5 x1, below_cell hb5 x2, below_cell hb5 x3, below_cell hb5 x4, below_cell hb5 x5, below_cell hb5 x6, below_cell hb5 x7, below_cell hb5 x8, below_cell hb5 x9, below_cell hb5 x10, below_cell hb5 x11⟩ | fail)
    (first
      | (go_at_call 34; (with_reducible refine (pair_calls op code W.drew).mono ?_); rintro e w5 ⟨rfl, hb5⟩; rw [HPR.out])
      | (go_at_call 35; (with_reducible refine (HKC w5).mono ?_); rintro e w6 ⟨rfl, hb6⟩)
      | fail)
  have hb5w : Below W.heap.size W w5 := undrew hb5
  have hbb := below_then hb5w hb6
  have HE6 := Go.Lib.hid (e4_below HE1.out hbb)
  have HB6 := Go.Lib.hid (below_then HBX.out hbb)
  have HX6 := Go.Lib.hid (below_heap hbb HX.out)
  have hsz6 : w.heap.size < w6.heap.size := heap_lt HX6.out
  clear x0 x1 x2 x3 x4 x5 x6 x7 x8 x9 x10 x11
  clear hb5 hb5w hb6 hbb HX HBX HE1 hsz HSZ
  have e1 := e4_arg HE6.out
  go_wp2
  go_quiet (fail)
  go_wp2
  go_ret2
  exact ⟨_, rfl, own_nil _ _ _, HB6.out.trans (below_drewN _ _ _)⟩

set_option maxRecDepth 100000 in
set_option maxHeartbeats 3200000 in
theorem encR_2x (at_ retry : UInt64) (k : Int) (p1 p2 p3 p4 l1 l2 l3 : UInt64) (code : Int) (p : Nat → Addr) (w : World) (hp : E4 w p) (hpair : pairS 2 code = true) (hkept : (keptS ⟨2, ⟨code, at_, retry, ⟨k, p1, p2, p3, p4⟩, ⟨l1, l2, l3⟩⟩⟩ == ⟨code, at_, retry, ⟨k, p1, p2, p3, p4⟩, ⟨l1, l2, l3⟩⟩) = true) (h0 : (code == 0) = false) (h1 : (code == 1) = false) :
    Calls Tryd.prog 15 #[.agg (ansA ⟨2, ⟨code, at_, retry, ⟨k, p1, p2, p3, p4⟩, ⟨l1, l2, l3⟩⟩⟩)] w fun e w' => GaveE p w w' e (encR ⟨2, ⟨code, at_, retry, ⟨k, p1, p2, p3, p4⟩, ⟨l1, l2, l3⟩⟩⟩) := by
  have hE : encR ⟨2, ⟨code, at_, retry, ⟨k, p1, p2, p3, p4⟩, ⟨l1, l2, l3⟩⟩⟩ = ([b8 2, b8 code], 0) := by
    have hs : sayA ⟨2, ⟨code, at_, retry, ⟨k, p1, p2, p3, p4⟩, ⟨l1, l2, l3⟩⟩⟩ = true := by unfold sayA; simp [hpair, hkept]
    unfold encR; rw [if_pos hs]
    unfold encRBody
    rw [if_neg (by simp at h1; simp [h1]), if_neg (by simp at h0; simp [h0]), if_neg (by simp)]
  rw [hE]
  clear hE
  have HPR := Go.Lib.hid hpair
  have hkc : ∀ V : World, Calls Tryd.prog 35 #[.agg #[.int .i64 2, .int .i64 code, .int .u64 (n64 at_), .int .u64 (n64 retry), .int .i64 k, .int .u64 (n64 p1), .int .u64 (n64 p2), .int .u64 (n64 p3), .int .u64 (n64 p4), .int .u64 (n64 l1), .int .u64 (n64 l2), .int .u64 (n64 l3)]] V fun e w' => e = .returned (.agg (repA (keptS ⟨2, ⟨code, at_, retry, ⟨k, p1, p2, p3, p4⟩, ⟨l1, l2, l3⟩⟩⟩))) ∧ Below V.heap.size V w' := fun V => kept_calls ⟨2, ⟨code, at_, retry, ⟨k, p1, p2, p3, p4⟩, ⟨l1, l2, l3⟩⟩⟩ V
  generalize keptS ⟨2, ⟨code, at_, retry, ⟨k, p1, p2, p3, p4⟩, ⟨l1, l2, l3⟩⟩⟩ = kr at *
  have HKC := hkc
  clear hpair hkc
  have hbx : Below w.heap.size w (w.alloc (.cells #[.int .i64 2, .int .i64 code, .int .u64 (n64 at_), .int .u64 (n64 retry), .int .i64 k, .int .u64 (n64 p1), .int .u64 (n64 p2), .int .u64 (n64 p3), .int .u64 (n64 p4), .int .u64 (n64 l1), .int .u64 (n64 l2), .int .u64 (n64 l3)] 36)) := (Below.refl _ _).alloc (Nat.le_refl _) _
  have HBX := Go.Lib.hid hbx
  have HX := Go.Lib.hid (heap_here w (.cells #[.int .i64 2, .int .i64 code, .int .u64 (n64 at_), .int .u64 (n64 retry), .int .i64 k, .int .u64 (n64 p1), .int .u64 (n64 p2), .int .u64 (n64 p3), .int .u64 (n64 p4), .int .u64 (n64 l1), .int .u64 (n64 l2), .int .u64 (n64 l3)] 36) w.heap.size rfl)
  have HE1 := Go.Lib.hid (e4_below hp hbx)
  have HSZ := Go.Lib.hid (show w.heap.size < (w.alloc (.cells #[.int .i64 2, .int .i64 code, .int .u64 (n64 at_), .int .u64 (n64 retry), .int .i64 k, .int .u64 (n64 p1), .int .u64 (n64 p2), .int .u64 (n64 p3), .int .u64 (n64 p4), .int .u64 (n64 l1), .int .u64 (n64 l2), .int .u64 (n64 l3)] 36)).heap.size by simp)
  obtain ⟨W, hW⟩ : ∃ W, W = w.alloc (.cells #[.int .i64 2, .int .i64 code, .int .u64 (n64 at_), .int .u64 (n64 retry), .int .i64 k, .int .u64 (n64 p1), .int .u64 (n64 p2), .int .u64 (n64 p3), .int .u64 (n64 p4), .int .u64 (n64 l1), .int .u64 (n64 l2), .int .u64 (n64 l3)] 36) := ⟨_, rfl⟩
  simp only [ansA]
  go_enter Tryd.func15, Tryd.ntmps15
  go_wp2
  rw [← hW] at HBX HX HE1 HSZ ⊢
  clear hW hbx hp
  have hsz := HSZ.out
  obtain ⟨x0, x1, x2, x3, x4, x5, x6, x7, x8, x9, x10, x11⟩ := box12 HX.out
  have hq : ∀ V : World, (binOp .neq 34 (.agg (repA kr)) (.agg #[.int .i64 code, .int .u64 (n64 at_), .int .u64 (n64 retry), .int .i64 k, .int .u64 (n64 p1), .int .u64 (n64 p2), .int .u64 (n64 p3), .int .u64 (n64 p4), .int .u64 (n64 l1), .int .u64 (n64 l2), .int .u64 (n64 l3)])).run Tryd.prog V = .ok (.bool (!true)) V := fun V => by rw [← hkept]; exact neq_rep kr ⟨code, at_, retry, ⟨k, p1, p2, p3, p4⟩, ⟨l1, l2, l3⟩⟩ V
  clear hkept
  go_region_held3 (fun w' => w'.cell? ⟨w.heap.size, 0, none⟩ = some (.int .i64 2) ∧ w'.cell? ⟨w.heap.size, 1, none⟩ = some (.int .i64 code) ∧ w'.cell? ⟨w.heap.size, 2, none⟩ = some (.int .u64 (n64 at_)) ∧ w'.cell? ⟨w.heap.size, 3, none⟩ = some (.int .u64 (n64 retry)) ∧ w'.cell? ⟨w.heap.size, 4, none⟩ = some (.int .i64 k) ∧ w'.cell? ⟨w.heap.size, 5, none⟩ = some (.int .u64 (n64 p1)) ∧ w'.cell? ⟨w.heap.size, 6, none⟩ = some (.int .u64 (n64 p2)) ∧ w'.cell? ⟨w.heap.size, 7, none⟩ = some (.int .u64 (n64 p3)) ∧ w'.cell? ⟨w.heap.size, 8, none⟩ = some (.int .u64 (n64 p4)) ∧ w'.cell? ⟨w.heap.size, 9, none⟩ = some (.int .u64 (n64 l1)) ∧ w'.cell? ⟨w.heap.size, 10, none⟩ = some (.int .u64 (n64 l2)) ∧ w'.cell? ⟨w.heap.size, 11, none⟩ = some (.int .u64 (n64 l3)))
    (first | exact ⟨x0, x1, x2, x3, x4, x5, x6, x7, x8, x9, x10, x11⟩ | exact ⟨below_cell hb6 (below_cell hb5 x0), below_cell hb6 (below_cell hb5 x1), below_cell hb6 (below_cell hb5 x2), below_cell hb6 (below_cell hb5 x3), below_cell hb6 (below_cell hb5 x4), below_cell hb6 (below_cell hb5 x5), below_cell hb6 (below_cell hb5 x6), below_cell hb6 (below_cell hb5 x7), below_cell hb6 (below_cell hb5 x8), below_cell hb6 (below_cell hb5 x9), below_cell hb6 (below_cell hb5 x10), below_cell hb6 (below_cell hb5 x11)⟩ | exact ⟨below_cell hb5 x0, below_cell hb5 x1, below_cell hb5 x2, below_cell hb5 x3, below_cell hb5 x4, below_cell hb5 x5, below_cell hb5 x6, below_cell hb5 x7, below_cell hb5 x8, below_cell hb5 x9, below_cell hb5 x10, below_cell hb5 x11⟩ | fail)
    (first
      | (go_at_call 34; (with_reducible refine (pair_calls 2 code W.drew).mono ?_); rintro e w5 ⟨rfl, hb5⟩; rw [HPR.out])
      | (go_at_call 35; (with_reducible refine (HKC w5).mono ?_); rintro e w6 ⟨rfl, hb6⟩)
      | fail)
  have hb5w : Below W.heap.size W w5 := undrew hb5
  have hbb := below_then hb5w hb6
  have HE6 := Go.Lib.hid (e4_below HE1.out hbb)
  have HB6 := Go.Lib.hid (below_then HBX.out hbb)
  have HX6 := Go.Lib.hid (below_heap hbb HX.out)
  have hsz6 : w.heap.size < w6.heap.size := heap_lt HX6.out
  clear x0 x1 x2 x3 x4 x5 x6 x7 x8 x9 x10 x11
  clear hb5 hb5w hb6 hbb HX HBX HE1 hsz HSZ
  obtain ⟨x0, x1, x2, x3, x4, x5, x6, x7, x8, x9, x10, x11⟩ := box12 HX6.out
  go_wp2
  go_ret2
  refine ⟨_, rfl, own_fresh (l := [b8 2, b8 code]) (g := w6.heap.size) (heap_here _ _ _ rfl) (by omega) 2 rfl (by decide), HB6.out.alloc (by omega) _⟩

set_option maxRecDepth 100000 in
set_option maxHeartbeats 3200000 in
theorem encR_3x (at_ retry : UInt64) (k : Int) (p1 p2 p3 p4 l1 l2 l3 : UInt64) (code : Int) (p : Nat → Addr) (w : World) (hp : E4 w p) (hpair : pairS 3 code = true) (hkept : (keptS ⟨3, ⟨code, at_, retry, ⟨k, p1, p2, p3, p4⟩, ⟨l1, l2, l3⟩⟩⟩ == ⟨code, at_, retry, ⟨k, p1, p2, p3, p4⟩, ⟨l1, l2, l3⟩⟩) = true) (h0 : (code == 0) = false) :
    Calls Tryd.prog 15 #[.agg (ansA ⟨3, ⟨code, at_, retry, ⟨k, p1, p2, p3, p4⟩, ⟨l1, l2, l3⟩⟩⟩)] w fun e w' => GaveE p w w' e (encR ⟨3, ⟨code, at_, retry, ⟨k, p1, p2, p3, p4⟩, ⟨l1, l2, l3⟩⟩⟩) := by
  have hE : encR ⟨3, ⟨code, at_, retry, ⟨k, p1, p2, p3, p4⟩, ⟨l1, l2, l3⟩⟩⟩ = ([b8 3, b8 code], 0) := by
    have hs : sayA ⟨3, ⟨code, at_, retry, ⟨k, p1, p2, p3, p4⟩, ⟨l1, l2, l3⟩⟩⟩ = true := by unfold sayA; simp [hpair, hkept]; simp at h0; simp [h0]
    unfold encR; rw [if_pos hs]
    unfold encRBody
    rw [if_neg (by simp), if_neg (by simp), if_neg (by simp at h0; simp [h0])]
  rw [hE]
  clear hE
  have HPR := Go.Lib.hid hpair
  have hkc : ∀ V : World, Calls Tryd.prog 35 #[.agg #[.int .i64 3, .int .i64 code, .int .u64 (n64 at_), .int .u64 (n64 retry), .int .i64 k, .int .u64 (n64 p1), .int .u64 (n64 p2), .int .u64 (n64 p3), .int .u64 (n64 p4), .int .u64 (n64 l1), .int .u64 (n64 l2), .int .u64 (n64 l3)]] V fun e w' => e = .returned (.agg (repA (keptS ⟨3, ⟨code, at_, retry, ⟨k, p1, p2, p3, p4⟩, ⟨l1, l2, l3⟩⟩⟩))) ∧ Below V.heap.size V w' := fun V => kept_calls ⟨3, ⟨code, at_, retry, ⟨k, p1, p2, p3, p4⟩, ⟨l1, l2, l3⟩⟩⟩ V
  generalize keptS ⟨3, ⟨code, at_, retry, ⟨k, p1, p2, p3, p4⟩, ⟨l1, l2, l3⟩⟩⟩ = kr at *
  have HKC := hkc
  clear hpair hkc
  have hbx : Below w.heap.size w (w.alloc (.cells #[.int .i64 3, .int .i64 code, .int .u64 (n64 at_), .int .u64 (n64 retry), .int .i64 k, .int .u64 (n64 p1), .int .u64 (n64 p2), .int .u64 (n64 p3), .int .u64 (n64 p4), .int .u64 (n64 l1), .int .u64 (n64 l2), .int .u64 (n64 l3)] 36)) := (Below.refl _ _).alloc (Nat.le_refl _) _
  have HBX := Go.Lib.hid hbx
  have HX := Go.Lib.hid (heap_here w (.cells #[.int .i64 3, .int .i64 code, .int .u64 (n64 at_), .int .u64 (n64 retry), .int .i64 k, .int .u64 (n64 p1), .int .u64 (n64 p2), .int .u64 (n64 p3), .int .u64 (n64 p4), .int .u64 (n64 l1), .int .u64 (n64 l2), .int .u64 (n64 l3)] 36) w.heap.size rfl)
  have HE1 := Go.Lib.hid (e4_below hp hbx)
  have HSZ := Go.Lib.hid (show w.heap.size < (w.alloc (.cells #[.int .i64 3, .int .i64 code, .int .u64 (n64 at_), .int .u64 (n64 retry), .int .i64 k, .int .u64 (n64 p1), .int .u64 (n64 p2), .int .u64 (n64 p3), .int .u64 (n64 p4), .int .u64 (n64 l1), .int .u64 (n64 l2), .int .u64 (n64 l3)] 36)).heap.size by simp)
  obtain ⟨W, hW⟩ : ∃ W, W = w.alloc (.cells #[.int .i64 3, .int .i64 code, .int .u64 (n64 at_), .int .u64 (n64 retry), .int .i64 k, .int .u64 (n64 p1), .int .u64 (n64 p2), .int .u64 (n64 p3), .int .u64 (n64 p4), .int .u64 (n64 l1), .int .u64 (n64 l2), .int .u64 (n64 l3)] 36) := ⟨_, rfl⟩
  simp only [ansA]
  go_enter Tryd.func15, Tryd.ntmps15
  go_wp2
  rw [← hW] at HBX HX HE1 HSZ ⊢
  clear hW hbx hp
  have hsz := HSZ.out
  obtain ⟨x0, x1, x2, x3, x4, x5, x6, x7, x8, x9, x10, x11⟩ := box12 HX.out
  have hq : ∀ V : World, (binOp .neq 34 (.agg (repA kr)) (.agg #[.int .i64 code, .int .u64 (n64 at_), .int .u64 (n64 retry), .int .i64 k, .int .u64 (n64 p1), .int .u64 (n64 p2), .int .u64 (n64 p3), .int .u64 (n64 p4), .int .u64 (n64 l1), .int .u64 (n64 l2), .int .u64 (n64 l3)])).run Tryd.prog V = .ok (.bool (!true)) V := fun V => by rw [← hkept]; exact neq_rep kr ⟨code, at_, retry, ⟨k, p1, p2, p3, p4⟩, ⟨l1, l2, l3⟩⟩ V
  clear hkept
  go_region_held3 (fun w' => w'.cell? ⟨w.heap.size, 0, none⟩ = some (.int .i64 3) ∧ w'.cell? ⟨w.heap.size, 1, none⟩ = some (.int .i64 code) ∧ w'.cell? ⟨w.heap.size, 2, none⟩ = some (.int .u64 (n64 at_)) ∧ w'.cell? ⟨w.heap.size, 3, none⟩ = some (.int .u64 (n64 retry)) ∧ w'.cell? ⟨w.heap.size, 4, none⟩ = some (.int .i64 k) ∧ w'.cell? ⟨w.heap.size, 5, none⟩ = some (.int .u64 (n64 p1)) ∧ w'.cell? ⟨w.heap.size, 6, none⟩ = some (.int .u64 (n64 p2)) ∧ w'.cell? ⟨w.heap.size, 7, none⟩ = some (.int .u64 (n64 p3)) ∧ w'.cell? ⟨w.heap.size, 8, none⟩ = some (.int .u64 (n64 p4)) ∧ w'.cell? ⟨w.heap.size, 9, none⟩ = some (.int .u64 (n64 l1)) ∧ w'.cell? ⟨w.heap.size, 10, none⟩ = some (.int .u64 (n64 l2)) ∧ w'.cell? ⟨w.heap.size, 11, none⟩ = some (.int .u64 (n64 l3)))
    (first | exact ⟨x0, x1, x2, x3, x4, x5, x6, x7, x8, x9, x10, x11⟩ | exact ⟨below_cell hb6 (below_cell hb5 x0), below_cell hb6 (below_cell hb5 x1), below_cell hb6 (below_cell hb5 x2), below_cell hb6 (below_cell hb5 x3), below_cell hb6 (below_cell hb5 x4), below_cell hb6 (below_cell hb5 x5), below_cell hb6 (below_cell hb5 x6), below_cell hb6 (below_cell hb5 x7), below_cell hb6 (below_cell hb5 x8), below_cell hb6 (below_cell hb5 x9), below_cell hb6 (below_cell hb5 x10), below_cell hb6 (below_cell hb5 x11)⟩ | exact ⟨below_cell hb5 x0, below_cell hb5 x1, below_cell hb5 x2, below_cell hb5 x3, below_cell hb5 x4, below_cell hb5 x5, below_cell hb5 x6, below_cell hb5 x7, below_cell hb5 x8, below_cell hb5 x9, below_cell hb5 x10, below_cell hb5 x11⟩ | fail)
    (first
      | (go_at_call 34; (with_reducible refine (pair_calls 3 code W.drew).mono ?_); rintro e w5 ⟨rfl, hb5⟩; rw [HPR.out])
      | (go_at_call 35; (with_reducible refine (HKC w5).mono ?_); rintro e w6 ⟨rfl, hb6⟩)
      | fail)
  have hb5w : Below W.heap.size W w5 := undrew hb5
  have hbb := below_then hb5w hb6
  have HE6 := Go.Lib.hid (e4_below HE1.out hbb)
  have HB6 := Go.Lib.hid (below_then HBX.out hbb)
  have HX6 := Go.Lib.hid (below_heap hbb HX.out)
  have hsz6 : w.heap.size < w6.heap.size := heap_lt HX6.out
  clear x0 x1 x2 x3 x4 x5 x6 x7 x8 x9 x10 x11
  clear hb5 hb5w hb6 hbb HX HBX HE1 hsz HSZ
  obtain ⟨x0, x1, x2, x3, x4, x5, x6, x7, x8, x9, x10, x11⟩ := box12 HX6.out
  go_wp2
  go_ret2
  refine ⟨_, rfl, own_fresh (l := [b8 3, b8 code]) (g := w6.heap.size) (heap_here _ _ _ rfl) (by omega) 2 rfl (by decide), HB6.out.alloc (by omega) _⟩

set_option maxRecDepth 100000 in
set_option maxHeartbeats 3200000 in
theorem encR_x (at_ retry : UInt64) (k : Int) (p1 p2 p3 p4 l1 l2 l3 : UInt64) (op code : Int) (p : Nat → Addr) (w : World) (hp : E4 w p) (hpair : pairS op code = true) (hkept : (keptS ⟨op, ⟨code, at_, retry, ⟨k, p1, p2, p3, p4⟩, ⟨l1, l2, l3⟩⟩⟩ == ⟨code, at_, retry, ⟨k, p1, p2, p3, p4⟩, ⟨l1, l2, l3⟩⟩) = true) (h2 : (op == 2) = false) (h3 : (op == 3) = false) :
    Calls Tryd.prog 15 #[.agg (ansA ⟨op, ⟨code, at_, retry, ⟨k, p1, p2, p3, p4⟩, ⟨l1, l2, l3⟩⟩⟩)] w fun e w' => GaveE p w w' e (encR ⟨op, ⟨code, at_, retry, ⟨k, p1, p2, p3, p4⟩, ⟨l1, l2, l3⟩⟩⟩) := by
  have hE : encR ⟨op, ⟨code, at_, retry, ⟨k, p1, p2, p3, p4⟩, ⟨l1, l2, l3⟩⟩⟩ = ([b8 op, b8 code], 0) := by
    have hs : sayA ⟨op, ⟨code, at_, retry, ⟨k, p1, p2, p3, p4⟩, ⟨l1, l2, l3⟩⟩⟩ = true := by unfold sayA; simp [hpair, hkept]; simp at h3; simp [h3]
    unfold encR; rw [if_pos hs]
    unfold encRBody
    rw [if_neg (by simp at h2; simp [h2]), if_neg (by simp at h2; simp [h2]), if_neg (by simp at h3; simp [h3])]
  rw [hE]
  clear hE
  have HPR := Go.Lib.hid hpair
  have hkc : ∀ V : World, Calls Tryd.prog 35 #[.agg #[.int .i64 op, .int .i64 code, .int .u64 (n64 at_), .int .u64 (n64 retry), .int .i64 k, .int .u64 (n64 p1), .int .u64 (n64 p2), .int .u64 (n64 p3), .int .u64 (n64 p4), .int .u64 (n64 l1), .int .u64 (n64 l2), .int .u64 (n64 l3)]] V fun e w' => e = .returned (.agg (repA (keptS ⟨op, ⟨code, at_, retry, ⟨k, p1, p2, p3, p4⟩, ⟨l1, l2, l3⟩⟩⟩))) ∧ Below V.heap.size V w' := fun V => kept_calls ⟨op, ⟨code, at_, retry, ⟨k, p1, p2, p3, p4⟩, ⟨l1, l2, l3⟩⟩⟩ V
  generalize keptS ⟨op, ⟨code, at_, retry, ⟨k, p1, p2, p3, p4⟩, ⟨l1, l2, l3⟩⟩⟩ = kr at *
  have HKC := hkc
  clear hpair hkc
  have hbx : Below w.heap.size w (w.alloc (.cells #[.int .i64 op, .int .i64 code, .int .u64 (n64 at_), .int .u64 (n64 retry), .int .i64 k, .int .u64 (n64 p1), .int .u64 (n64 p2), .int .u64 (n64 p3), .int .u64 (n64 p4), .int .u64 (n64 l1), .int .u64 (n64 l2), .int .u64 (n64 l3)] 36)) := (Below.refl _ _).alloc (Nat.le_refl _) _
  have HBX := Go.Lib.hid hbx
  have HX := Go.Lib.hid (heap_here w (.cells #[.int .i64 op, .int .i64 code, .int .u64 (n64 at_), .int .u64 (n64 retry), .int .i64 k, .int .u64 (n64 p1), .int .u64 (n64 p2), .int .u64 (n64 p3), .int .u64 (n64 p4), .int .u64 (n64 l1), .int .u64 (n64 l2), .int .u64 (n64 l3)] 36) w.heap.size rfl)
  have HE1 := Go.Lib.hid (e4_below hp hbx)
  have HSZ := Go.Lib.hid (show w.heap.size < (w.alloc (.cells #[.int .i64 op, .int .i64 code, .int .u64 (n64 at_), .int .u64 (n64 retry), .int .i64 k, .int .u64 (n64 p1), .int .u64 (n64 p2), .int .u64 (n64 p3), .int .u64 (n64 p4), .int .u64 (n64 l1), .int .u64 (n64 l2), .int .u64 (n64 l3)] 36)).heap.size by simp)
  obtain ⟨W, hW⟩ : ∃ W, W = w.alloc (.cells #[.int .i64 op, .int .i64 code, .int .u64 (n64 at_), .int .u64 (n64 retry), .int .i64 k, .int .u64 (n64 p1), .int .u64 (n64 p2), .int .u64 (n64 p3), .int .u64 (n64 p4), .int .u64 (n64 l1), .int .u64 (n64 l2), .int .u64 (n64 l3)] 36) := ⟨_, rfl⟩
  simp only [ansA]
  go_enter Tryd.func15, Tryd.ntmps15
  go_wp2
  rw [← hW] at HBX HX HE1 HSZ ⊢
  clear hW hbx hp
  have hsz := HSZ.out
  obtain ⟨x0, x1, x2, x3, x4, x5, x6, x7, x8, x9, x10, x11⟩ := box12 HX.out
  have hq : ∀ V : World, (binOp .neq 34 (.agg (repA kr)) (.agg #[.int .i64 code, .int .u64 (n64 at_), .int .u64 (n64 retry), .int .i64 k, .int .u64 (n64 p1), .int .u64 (n64 p2), .int .u64 (n64 p3), .int .u64 (n64 p4), .int .u64 (n64 l1), .int .u64 (n64 l2), .int .u64 (n64 l3)])).run Tryd.prog V = .ok (.bool (!true)) V := fun V => by rw [← hkept]; exact neq_rep kr ⟨code, at_, retry, ⟨k, p1, p2, p3, p4⟩, ⟨l1, l2, l3⟩⟩ V
  clear hkept
  go_region_held3 (fun w' => w'.cell? ⟨w.heap.size, 0, none⟩ = some (.int .i64 op) ∧ w'.cell? ⟨w.heap.size, 1, none⟩ = some (.int .i64 code) ∧ w'.cell? ⟨w.heap.size, 2, none⟩ = some (.int .u64 (n64 at_)) ∧ w'.cell? ⟨w.heap.size, 3, none⟩ = some (.int .u64 (n64 retry)) ∧ w'.cell? ⟨w.heap.size, 4, none⟩ = some (.int .i64 k) ∧ w'.cell? ⟨w.heap.size, 5, none⟩ = some (.int .u64 (n64 p1)) ∧ w'.cell? ⟨w.heap.size, 6, none⟩ = some (.int .u64 (n64 p2)) ∧ w'.cell? ⟨w.heap.size, 7, none⟩ = some (.int .u64 (n64 p3)) ∧ w'.cell? ⟨w.heap.size, 8, none⟩ = some (.int .u64 (n64 p4)) ∧ w'.cell? ⟨w.heap.size, 9, none⟩ = some (.int .u64 (n64 l1)) ∧ w'.cell? ⟨w.heap.size, 10, none⟩ = some (.int .u64 (n64 l2)) ∧ w'.cell? ⟨w.heap.size, 11, none⟩ = some (.int .u64 (n64 l3)))
    (first | exact ⟨x0, x1, x2, x3, x4, x5, x6, x7, x8, x9, x10, x11⟩ | exact ⟨below_cell hb6 (below_cell hb5 x0), below_cell hb6 (below_cell hb5 x1), below_cell hb6 (below_cell hb5 x2), below_cell hb6 (below_cell hb5 x3), below_cell hb6 (below_cell hb5 x4), below_cell hb6 (below_cell hb5 x5), below_cell hb6 (below_cell hb5 x6), below_cell hb6 (below_cell hb5 x7), below_cell hb6 (below_cell hb5 x8), below_cell hb6 (below_cell hb5 x9), below_cell hb6 (below_cell hb5 x10), below_cell hb6 (below_cell hb5 x11)⟩ | exact ⟨below_cell hb5 x0, below_cell hb5 x1, below_cell hb5 x2, below_cell hb5 x3, below_cell hb5 x4, below_cell hb5 x5, below_cell hb5 x6, below_cell hb5 x7, below_cell hb5 x8, below_cell hb5 x9, below_cell hb5 x10, below_cell hb5 x11⟩ | fail)
    (first
      | (go_at_call 34; (with_reducible refine (pair_calls op code W.drew).mono ?_); rintro e w5 ⟨rfl, hb5⟩; rw [HPR.out])
      | (go_at_call 35; (with_reducible refine (HKC w5).mono ?_); rintro e w6 ⟨rfl, hb6⟩)
      | fail)
  have hb5w : Below W.heap.size W w5 := undrew hb5
  have hbb := below_then hb5w hb6
  have HE6 := Go.Lib.hid (e4_below HE1.out hbb)
  have HB6 := Go.Lib.hid (below_then HBX.out hbb)
  have HX6 := Go.Lib.hid (below_heap hbb HX.out)
  have hsz6 : w.heap.size < w6.heap.size := heap_lt HX6.out
  clear x0 x1 x2 x3 x4 x5 x6 x7 x8 x9 x10 x11
  clear hb5 hb5w hb6 hbb HX HBX HE1 hsz HSZ
  obtain ⟨x0, x1, x2, x3, x4, x5, x6, x7, x8, x9, x10, x11⟩ := box12 HX6.out
  go_wp2
  go_ret2
  refine ⟨_, rfl, own_fresh (l := [b8 op, b8 code]) (g := w6.heap.size) (heap_here _ _ _ rfl) (by omega) 2 rfl (by decide), HB6.out.alloc (by omega) _⟩

set_option maxRecDepth 100000 in
set_option maxHeartbeats 3200000 in
theorem encR_20 (at_ retry : UInt64) (k : Int) (p1 p2 p3 p4 l1 l2 l3 : UInt64) (p : Nat → Addr) (w : World) (hp : E4 w p) (hpair : pairS 2 0 = true) (hkept : (keptS ⟨2, ⟨0, at_, retry, ⟨k, p1, p2, p3, p4⟩, ⟨l1, l2, l3⟩⟩⟩ == ⟨0, at_, retry, ⟨k, p1, p2, p3, p4⟩, ⟨l1, l2, l3⟩⟩) = true) :
    Calls Tryd.prog 15 #[.agg (ansA ⟨2, ⟨0, at_, retry, ⟨k, p1, p2, p3, p4⟩, ⟨l1, l2, l3⟩⟩⟩)] w fun e w' => GaveE p w w' e (encR ⟨2, ⟨0, at_, retry, ⟨k, p1, p2, p3, p4⟩, ⟨l1, l2, l3⟩⟩⟩) := by
  have hE : encR ⟨2, ⟨0, at_, retry, ⟨k, p1, p2, p3, p4⟩, ⟨l1, l2, l3⟩⟩⟩ = (b8 2 :: b8 0 :: leS at_ 8, 0) := by
    have hs : sayA ⟨2, ⟨0, at_, retry, ⟨k, p1, p2, p3, p4⟩, ⟨l1, l2, l3⟩⟩⟩ = true := by unfold sayA; simp [hpair, hkept]
    unfold encR; rw [if_pos hs]
    unfold encRBody
    simp
  rw [hE]
  clear hE
  have HPR := Go.Lib.hid hpair
  have hkc : ∀ V : World, Calls Tryd.prog 35 #[.agg #[.int .i64 2, .int .i64 0, .int .u64 (n64 at_), .int .u64 (n64 retry), .int .i64 k, .int .u64 (n64 p1), .int .u64 (n64 p2), .int .u64 (n64 p3), .int .u64 (n64 p4), .int .u64 (n64 l1), .int .u64 (n64 l2), .int .u64 (n64 l3)]] V fun e w' => e = .returned (.agg (repA (keptS ⟨2, ⟨0, at_, retry, ⟨k, p1, p2, p3, p4⟩, ⟨l1, l2, l3⟩⟩⟩))) ∧ Below V.heap.size V w' := fun V => kept_calls ⟨2, ⟨0, at_, retry, ⟨k, p1, p2, p3, p4⟩, ⟨l1, l2, l3⟩⟩⟩ V
  generalize keptS ⟨2, ⟨0, at_, retry, ⟨k, p1, p2, p3, p4⟩, ⟨l1, l2, l3⟩⟩⟩ = kr at *
  have HKC := hkc
  clear hpair hkc
  have hbx : Below w.heap.size w (w.alloc (.cells #[.int .i64 2, .int .i64 0, .int .u64 (n64 at_), .int .u64 (n64 retry), .int .i64 k, .int .u64 (n64 p1), .int .u64 (n64 p2), .int .u64 (n64 p3), .int .u64 (n64 p4), .int .u64 (n64 l1), .int .u64 (n64 l2), .int .u64 (n64 l3)] 36)) := (Below.refl _ _).alloc (Nat.le_refl _) _
  have HBX := Go.Lib.hid hbx
  have HX := Go.Lib.hid (heap_here w (.cells #[.int .i64 2, .int .i64 0, .int .u64 (n64 at_), .int .u64 (n64 retry), .int .i64 k, .int .u64 (n64 p1), .int .u64 (n64 p2), .int .u64 (n64 p3), .int .u64 (n64 p4), .int .u64 (n64 l1), .int .u64 (n64 l2), .int .u64 (n64 l3)] 36) w.heap.size rfl)
  have HE1 := Go.Lib.hid (e4_below hp hbx)
  have HSZ := Go.Lib.hid (show w.heap.size < (w.alloc (.cells #[.int .i64 2, .int .i64 0, .int .u64 (n64 at_), .int .u64 (n64 retry), .int .i64 k, .int .u64 (n64 p1), .int .u64 (n64 p2), .int .u64 (n64 p3), .int .u64 (n64 p4), .int .u64 (n64 l1), .int .u64 (n64 l2), .int .u64 (n64 l3)] 36)).heap.size by simp)
  obtain ⟨W, hW⟩ : ∃ W, W = w.alloc (.cells #[.int .i64 2, .int .i64 0, .int .u64 (n64 at_), .int .u64 (n64 retry), .int .i64 k, .int .u64 (n64 p1), .int .u64 (n64 p2), .int .u64 (n64 p3), .int .u64 (n64 p4), .int .u64 (n64 l1), .int .u64 (n64 l2), .int .u64 (n64 l3)] 36) := ⟨_, rfl⟩
  simp only [ansA]
  go_enter Tryd.func15, Tryd.ntmps15
  go_wp2
  rw [← hW] at HBX HX HE1 HSZ ⊢
  clear hW hbx hp
  have hsz := HSZ.out
  obtain ⟨x0, x1, x2, x3, x4, x5, x6, x7, x8, x9, x10, x11⟩ := box12 HX.out
  have hq : ∀ V : World, (binOp .neq 34 (.agg (repA kr)) (.agg #[.int .i64 0, .int .u64 (n64 at_), .int .u64 (n64 retry), .int .i64 k, .int .u64 (n64 p1), .int .u64 (n64 p2), .int .u64 (n64 p3), .int .u64 (n64 p4), .int .u64 (n64 l1), .int .u64 (n64 l2), .int .u64 (n64 l3)])).run Tryd.prog V = .ok (.bool (!true)) V := fun V => by rw [← hkept]; exact neq_rep kr ⟨0, at_, retry, ⟨k, p1, p2, p3, p4⟩, ⟨l1, l2, l3⟩⟩ V
  clear hkept
  go_region_held3 (fun w' => w'.cell? ⟨w.heap.size, 0, none⟩ = some (.int .i64 2) ∧ w'.cell? ⟨w.heap.size, 1, none⟩ = some (.int .i64 0) ∧ w'.cell? ⟨w.heap.size, 2, none⟩ = some (.int .u64 (n64 at_)) ∧ w'.cell? ⟨w.heap.size, 3, none⟩ = some (.int .u64 (n64 retry)) ∧ w'.cell? ⟨w.heap.size, 4, none⟩ = some (.int .i64 k) ∧ w'.cell? ⟨w.heap.size, 5, none⟩ = some (.int .u64 (n64 p1)) ∧ w'.cell? ⟨w.heap.size, 6, none⟩ = some (.int .u64 (n64 p2)) ∧ w'.cell? ⟨w.heap.size, 7, none⟩ = some (.int .u64 (n64 p3)) ∧ w'.cell? ⟨w.heap.size, 8, none⟩ = some (.int .u64 (n64 p4)) ∧ w'.cell? ⟨w.heap.size, 9, none⟩ = some (.int .u64 (n64 l1)) ∧ w'.cell? ⟨w.heap.size, 10, none⟩ = some (.int .u64 (n64 l2)) ∧ w'.cell? ⟨w.heap.size, 11, none⟩ = some (.int .u64 (n64 l3)))
    (first | exact ⟨x0, x1, x2, x3, x4, x5, x6, x7, x8, x9, x10, x11⟩ | exact ⟨below_cell hb6 (below_cell hb5 x0), below_cell hb6 (below_cell hb5 x1), below_cell hb6 (below_cell hb5 x2), below_cell hb6 (below_cell hb5 x3), below_cell hb6 (below_cell hb5 x4), below_cell hb6 (below_cell hb5 x5), below_cell hb6 (below_cell hb5 x6), below_cell hb6 (below_cell hb5 x7), below_cell hb6 (below_cell hb5 x8), below_cell hb6 (below_cell hb5 x9), below_cell hb6 (below_cell hb5 x10), below_cell hb6 (below_cell hb5 x11)⟩ | exact ⟨below_cell hb5 x0, below_cell hb5 x1, below_cell hb5 x2, below_cell hb5 x3, below_cell hb5 x4, below_cell hb5 x5, below_cell hb5 x6, below_cell hb5 x7, below_cell hb5 x8, below_cell hb5 x9, below_cell hb5 x10, below_cell hb5 x11⟩ | fail)
    (first
      | (go_at_call 34; (with_reducible refine (pair_calls 2 0 W.drew).mono ?_); rintro e w5 ⟨rfl, hb5⟩; rw [HPR.out])
      | (go_at_call 35; (with_reducible refine (HKC w5).mono ?_); rintro e w6 ⟨rfl, hb6⟩)
      | fail)
  have hb5w : Below W.heap.size W w5 := undrew hb5
  have hbb := below_then hb5w hb6
  have HE6 := Go.Lib.hid (e4_below HE1.out hbb)
  have HB6 := Go.Lib.hid (below_then HBX.out hbb)
  have HX6 := Go.Lib.hid (below_heap hbb HX.out)
  have hsz6 : w.heap.size < w6.heap.size := heap_lt HX6.out
  clear x0 x1 x2 x3 x4 x5 x6 x7 x8 x9 x10 x11
  clear hb5 hb5w hb6 hbb HX HBX HE1 hsz HSZ
  obtain ⟨x0, x1, x2, x3, x4, x5, x6, x7, x8, x9, x10, x11⟩ := box12 HX6.out
  go_wp2_with fail
  have hbb : Below w6.heap.size w6 (w6.alloc (.cells #[.int .u8 (n8 (b8 2)), .int .u8 (n8 (b8 0))] 5)) := (Below.refl _ _).alloc (Nat.le_refl _) _
  have hcb : Cells (w6.alloc (.cells #[.int .u8 (n8 (b8 2)), .int .u8 (n8 (b8 0))] 5)) (some ⟨w6.heap.size, 0, none⟩) (Bs [b8 2, b8 0]) := cells_new w6 (Bs [b8 2, b8 0]) 5 (0, 0)
  refine (putU64_n (some ⟨w6.heap.size, 0, none⟩) 2 2 [b8 2, b8 0] at_ 2 (w6.alloc (.cells #[.int .u8 (n8 (b8 2)), .int .u8 (n8 (b8 0))] 5)) rfl (by simp) (by decide) hcb).mono ?_
  rintro e w7 ⟨A7, c7, l7, rfl, HL7, HC7, hl7, HO7, hb7⟩
  have hb67 := below_then hbb hb7
  have HB7 := Go.Lib.hid (below_then HB6.out hb67)
  have HX7 := Go.Lib.hid (below_heap hb67 HX6.out)
  clear x0 x1 x2 x3 x4 x5 x6 x7 x8 x9 x10 x11
  clear hb7 hb67 hbb hcb
  obtain ⟨x0, x1, x2, x3, x4, x5, x6, x7, x8, x9, x10, x11⟩ := box12 HX7.out
  go_wp2
  go_ret2
  have ho := own_mono HO7.out (b' := w.heap.size) (by have := HB6.out.size; simp; omega)
  refine ⟨_, rfl, ?_, HB7.out⟩
  rw [HL7.out] at ho ⊢
  simpa [errv] using ho

set_option maxRecDepth 100000 in
set_option maxHeartbeats 3200000 in
theorem encR_21 (at_ retry : UInt64) (k : Int) (p1 p2 p3 p4 l1 l2 l3 : UInt64) (p : Nat → Addr) (w : World) (hp : E4 w p) (hpair : pairS 2 1 = true) (hkept : (keptS ⟨2, ⟨1, at_, retry, ⟨k, p1, p2, p3, p4⟩, ⟨l1, l2, l3⟩⟩⟩ == ⟨1, at_, retry, ⟨k, p1, p2, p3, p4⟩, ⟨l1, l2, l3⟩⟩) = true) :
    Calls Tryd.prog 15 #[.agg (ansA ⟨2, ⟨1, at_, retry, ⟨k, p1, p2, p3, p4⟩, ⟨l1, l2, l3⟩⟩⟩)] w fun e w' => GaveE p w w' e (encR ⟨2, ⟨1, at_, retry, ⟨k, p1, p2, p3, p4⟩, ⟨l1, l2, l3⟩⟩⟩) := by
  have hE : encR ⟨2, ⟨1, at_, retry, ⟨k, p1, p2, p3, p4⟩, ⟨l1, l2, l3⟩⟩⟩ = (b8 2 :: b8 1 :: (leS at_ 8 ++ leS retry 8), 0) := by
    have hs : sayA ⟨2, ⟨1, at_, retry, ⟨k, p1, p2, p3, p4⟩, ⟨l1, l2, l3⟩⟩⟩ = true := by unfold sayA; simp [hpair, hkept]
    unfold encR; rw [if_pos hs]
    unfold encRBody
    simp
  rw [hE]
  clear hE
  have HPR := Go.Lib.hid hpair
  have hkc : ∀ V : World, Calls Tryd.prog 35 #[.agg #[.int .i64 2, .int .i64 1, .int .u64 (n64 at_), .int .u64 (n64 retry), .int .i64 k, .int .u64 (n64 p1), .int .u64 (n64 p2), .int .u64 (n64 p3), .int .u64 (n64 p4), .int .u64 (n64 l1), .int .u64 (n64 l2), .int .u64 (n64 l3)]] V fun e w' => e = .returned (.agg (repA (keptS ⟨2, ⟨1, at_, retry, ⟨k, p1, p2, p3, p4⟩, ⟨l1, l2, l3⟩⟩⟩))) ∧ Below V.heap.size V w' := fun V => kept_calls ⟨2, ⟨1, at_, retry, ⟨k, p1, p2, p3, p4⟩, ⟨l1, l2, l3⟩⟩⟩ V
  generalize keptS ⟨2, ⟨1, at_, retry, ⟨k, p1, p2, p3, p4⟩, ⟨l1, l2, l3⟩⟩⟩ = kr at *
  have HKC := hkc
  clear hpair hkc
  have hbx : Below w.heap.size w (w.alloc (.cells #[.int .i64 2, .int .i64 1, .int .u64 (n64 at_), .int .u64 (n64 retry), .int .i64 k, .int .u64 (n64 p1), .int .u64 (n64 p2), .int .u64 (n64 p3), .int .u64 (n64 p4), .int .u64 (n64 l1), .int .u64 (n64 l2), .int .u64 (n64 l3)] 36)) := (Below.refl _ _).alloc (Nat.le_refl _) _
  have HBX := Go.Lib.hid hbx
  have HX := Go.Lib.hid (heap_here w (.cells #[.int .i64 2, .int .i64 1, .int .u64 (n64 at_), .int .u64 (n64 retry), .int .i64 k, .int .u64 (n64 p1), .int .u64 (n64 p2), .int .u64 (n64 p3), .int .u64 (n64 p4), .int .u64 (n64 l1), .int .u64 (n64 l2), .int .u64 (n64 l3)] 36) w.heap.size rfl)
  have HE1 := Go.Lib.hid (e4_below hp hbx)
  have HSZ := Go.Lib.hid (show w.heap.size < (w.alloc (.cells #[.int .i64 2, .int .i64 1, .int .u64 (n64 at_), .int .u64 (n64 retry), .int .i64 k, .int .u64 (n64 p1), .int .u64 (n64 p2), .int .u64 (n64 p3), .int .u64 (n64 p4), .int .u64 (n64 l1), .int .u64 (n64 l2), .int .u64 (n64 l3)] 36)).heap.size by simp)
  obtain ⟨W, hW⟩ : ∃ W, W = w.alloc (.cells #[.int .i64 2, .int .i64 1, .int .u64 (n64 at_), .int .u64 (n64 retry), .int .i64 k, .int .u64 (n64 p1), .int .u64 (n64 p2), .int .u64 (n64 p3), .int .u64 (n64 p4), .int .u64 (n64 l1), .int .u64 (n64 l2), .int .u64 (n64 l3)] 36) := ⟨_, rfl⟩
  simp only [ansA]
  go_enter Tryd.func15, Tryd.ntmps15
  go_wp2
  rw [← hW] at HBX HX HE1 HSZ ⊢
  clear hW hbx hp
  have hsz := HSZ.out
  obtain ⟨x0, x1, x2, x3, x4, x5, x6, x7, x8, x9, x10, x11⟩ := box12 HX.out
  have hq : ∀ V : World, (binOp .neq 34 (.agg (repA kr)) (.agg #[.int .i64 1, .int .u64 (n64 at_), .int .u64 (n64 retry), .int .i64 k, .int .u64 (n64 p1), .int .u64 (n64 p2), .int .u64 (n64 p3), .int .u64 (n64 p4), .int .u64 (n64 l1), .int .u64 (n64 l2), .int .u64 (n64 l3)])).run Tryd.prog V = .ok (.bool (!true)) V := fun V => by rw [← hkept]; exact neq_rep kr ⟨1, at_, retry, ⟨k, p1, p2, p3, p4⟩, ⟨l1, l2, l3⟩⟩ V
  clear hkept
  go_region_held3 (fun w' => w'.cell? ⟨w.heap.size, 0, none⟩ = some (.int .i64 2) ∧ w'.cell? ⟨w.heap.size, 1, none⟩ = some (.int .i64 1) ∧ w'.cell? ⟨w.heap.size, 2, none⟩ = some (.int .u64 (n64 at_)) ∧ w'.cell? ⟨w.heap.size, 3, none⟩ = some (.int .u64 (n64 retry)) ∧ w'.cell? ⟨w.heap.size, 4, none⟩ = some (.int .i64 k) ∧ w'.cell? ⟨w.heap.size, 5, none⟩ = some (.int .u64 (n64 p1)) ∧ w'.cell? ⟨w.heap.size, 6, none⟩ = some (.int .u64 (n64 p2)) ∧ w'.cell? ⟨w.heap.size, 7, none⟩ = some (.int .u64 (n64 p3)) ∧ w'.cell? ⟨w.heap.size, 8, none⟩ = some (.int .u64 (n64 p4)) ∧ w'.cell? ⟨w.heap.size, 9, none⟩ = some (.int .u64 (n64 l1)) ∧ w'.cell? ⟨w.heap.size, 10, none⟩ = some (.int .u64 (n64 l2)) ∧ w'.cell? ⟨w.heap.size, 11, none⟩ = some (.int .u64 (n64 l3)))
    (first | exact ⟨x0, x1, x2, x3, x4, x5, x6, x7, x8, x9, x10, x11⟩ | exact ⟨below_cell hb6 (below_cell hb5 x0), below_cell hb6 (below_cell hb5 x1), below_cell hb6 (below_cell hb5 x2), below_cell hb6 (below_cell hb5 x3), below_cell hb6 (below_cell hb5 x4), below_cell hb6 (below_cell hb5 x5), below_cell hb6 (below_cell hb5 x6), below_cell hb6 (below_cell hb5 x7), below_cell hb6 (below_cell hb5 x8), below_cell hb6 (below_cell hb5 x9), below_cell hb6 (below_cell hb5 x10), below_cell hb6 (below_cell hb5 x11)⟩ | exact ⟨below_cell hb5 x0, below_cell hb5 x1, below_cell hb5 x2, below_cell hb5 x3, below_cell hb5 x4, below_cell hb5 x5, below_cell hb5 x6, below_cell hb5 x7, below_cell hb5 x8, below_cell hb5 x9, below_cell hb5 x10, below_cell hb5 x11⟩ | fail)
    (first
      | (go_at_call 34; (with_reducible refine (pair_calls 2 1 W.drew).mono ?_); rintro e w5 ⟨rfl, hb5⟩; rw [HPR.out])
      | (go_at_call 35; (with_reducible refine (HKC w5).mono ?_); rintro e w6 ⟨rfl, hb6⟩)
      | fail)
  have hb5w : Below W.heap.size W w5 := undrew hb5
  have hbb := below_then hb5w hb6
  have HE6 := Go.Lib.hid (e4_below HE1.out hbb)
  have HB6 := Go.Lib.hid (below_then HBX.out hbb)
  have HX6 := Go.Lib.hid (below_heap hbb HX.out)
  have hsz6 : w.heap.size < w6.heap.size := heap_lt HX6.out
  clear x0 x1 x2 x3 x4 x5 x6 x7 x8 x9 x10 x11
  clear hb5 hb5w hb6 hbb HX HBX HE1 hsz HSZ
  obtain ⟨x0, x1, x2, x3, x4, x5, x6, x7, x8, x9, x10, x11⟩ := box12 HX6.out
  go_wp2
  have hbb : Below w6.heap.size w6 (w6.alloc (.cells #[.int .u8 (n8 (b8 2)), .int .u8 (n8 (b8 1))] 5)) := (Below.refl _ _).alloc (Nat.le_refl _) _
  have hcb : Cells (w6.alloc (.cells #[.int .u8 (n8 (b8 2)), .int .u8 (n8 (b8 1))] 5)) (some ⟨w6.heap.size, 0, none⟩) (Bs [b8 2, b8 1]) := cells_new w6 (Bs [b8 2, b8 1]) 5 (0, 0)
  obtain ⟨W7, hW7⟩ : ∃ V, V = w6.alloc (.cells #[.int .u8 (n8 (b8 2)), .int .u8 (n8 (b8 1))] 5) := ⟨_, rfl⟩
  have HX7 := Go.Lib.hid (below_heap hbb HX6.out)
  have HB7 := Go.Lib.hid (below_then HB6.out hbb)
  have HCB := Go.Lib.hid hcb
  clear x0 x1 x2 x3 x4 x5 x6 x7 x8 x9 x10 x11
  rw [← hW7] at HX7 HB7 HCB ⊢
  clear hbb hcb hW7
  have HCBd : Hid (Cells W7.drew (some ⟨w6.heap.size, 0, none⟩) (Bs [b8 2, b8 1])) := HCB.out
  obtain ⟨x0, x1, x2, x3, x4, x5, x6, x7, x8, x9, x10, x11⟩ := box12 HX7.out
  go_region_held3 (fun w' => w'.cell? ⟨w.heap.size, 2, none⟩ = some (.int .u64 (n64 at_)) ∧ w'.cell? ⟨w.heap.size, 3, none⟩ = some (.int .u64 (n64 retry)))
    (first | exact ⟨x2, x3⟩ | exact ⟨below_cell hb9 (below_cell hb8 x2), below_cell hb9 (below_cell hb8 x3)⟩ | exact ⟨below_cell hb8 x2, below_cell hb8 x3⟩ | fail)
    (first
      | (go_at_call 26; (with_reducible refine (putU64_n (some ⟨w6.heap.size, 0, none⟩) 2 2 [b8 2, b8 1] at_ 2 W7.drew rfl (by simp) (by decide) HCBd.out).mono ?_); rintro e w8 ⟨A8, c8, l8, rfl, HL8, HC8, hl8, HO8, hb8⟩)
      | (go_at_call 26; (with_reducible refine (putU64_v A8 c8 l8 retry (2 + 8) w8 hl8 (by decide) HC8.out).mono ?_); rintro e w9 ⟨A9, c9, l9, rfl, HL9, HC9, hl9, HO9, hb9⟩)
      | fail)
  have hb8w : Below W7.heap.size W7 w8 := undrew hb8
  have HB9 := Go.Lib.hid (below_then HB7.out (below_then hb8w hb9))
  have hs8 : w.heap.size ≤ w8.heap.size := by have := HB7.out.size; have := hb8w.size; omega
  clear hb8 hb9 hb8w
  go_wp2
  go_ret2
  have ho := own_mono HO9.out hs8
  refine ⟨_, rfl, ?_, HB9.out⟩
  rw [HL9.out, HL8.out] at ho ⊢
  simpa [errv] using ho

set_option maxRecDepth 100000 in
set_option maxHeartbeats 3200000 in
theorem encR_30_say (at_ retry : UInt64) (k : Int) (p1 p2 p3 p4 l1 l2 l3 : UInt64) (p : Nat → Addr) (w : World) (hp : E4 w p) (hpair : pairS 3 0 = true) (hkept : (keptS ⟨3, ⟨0, at_, retry, ⟨k, p1, p2, p3, p4⟩, ⟨l1, l2, l3⟩⟩⟩ == ⟨0, at_, retry, ⟨k, p1, p2, p3, p4⟩, ⟨l1, l2, l3⟩⟩) = true) (hsay : sayS ⟨k, p1, p2, p3, p4⟩ = false) :
    Calls Tryd.prog 15 #[.agg (ansA ⟨3, ⟨0, at_, retry, ⟨k, p1, p2, p3, p4⟩, ⟨l1, l2, l3⟩⟩⟩)] w fun e w' => GaveE p w w' e (encR ⟨3, ⟨0, at_, retry, ⟨k, p1, p2, p3, p4⟩, ⟨l1, l2, l3⟩⟩⟩) := by
  have hE : encR ⟨3, ⟨0, at_, retry, ⟨k, p1, p2, p3, p4⟩, ⟨l1, l2, l3⟩⟩⟩ = ([], 1) := by unfold encR sayA; rw [if_neg (by simp [hsay])]
  rw [hE]
  clear hE
  have HPR := Go.Lib.hid hpair
  have hkc : ∀ V : World, Calls Tryd.prog 35 #[.agg #[.int .i64 3, .int .i64 0, .int .u64 (n64 at_), .int .u64 (n64 retry), .int .i64 k, .int .u64 (n64 p1), .int .u64 (n64 p2), .int .u64 (n64 p3), .int .u64 (n64 p4), .int .u64 (n64 l1), .int .u64 (n64 l2), .int .u64 (n64 l3)]] V fun e w' => e = .returned (.agg (repA (keptS ⟨3, ⟨0, at_, retry, ⟨k, p1, p2, p3, p4⟩, ⟨l1, l2, l3⟩⟩⟩))) ∧ Below V.heap.size V w' := fun V => kept_calls ⟨3, ⟨0, at_, retry, ⟨k, p1, p2, p3, p4⟩, ⟨l1, l2, l3⟩⟩⟩ V
  generalize keptS ⟨3, ⟨0, at_, retry, ⟨k, p1, p2, p3, p4⟩, ⟨l1, l2, l3⟩⟩⟩ = kr at *
  have HKC := hkc
  clear hpair hkc
  have hbx : Below w.heap.size w (w.alloc (.cells #[.int .i64 3, .int .i64 0, .int .u64 (n64 at_), .int .u64 (n64 retry), .int .i64 k, .int .u64 (n64 p1), .int .u64 (n64 p2), .int .u64 (n64 p3), .int .u64 (n64 p4), .int .u64 (n64 l1), .int .u64 (n64 l2), .int .u64 (n64 l3)] 36)) := (Below.refl _ _).alloc (Nat.le_refl _) _
  have HBX := Go.Lib.hid hbx
  have HX := Go.Lib.hid (heap_here w (.cells #[.int .i64 3, .int .i64 0, .int .u64 (n64 at_), .int .u64 (n64 retry), .int .i64 k, .int .u64 (n64 p1), .int .u64 (n64 p2), .int .u64 (n64 p3), .int .u64 (n64 p4), .int .u64 (n64 l1), .int .u64 (n64 l2), .int .u64 (n64 l3)] 36) w.heap.size rfl)
  have HE1 := Go.Lib.hid (e4_below hp hbx)
  have HSZ := Go.Lib.hid (show w.heap.size < (w.alloc (.cells #[.int .i64 3, .int .i64 0, .int .u64 (n64 at_), .int .u64 (n64 retry), .int .i64 k, .int .u64 (n64 p1), .int .u64 (n64 p2), .int .u64 (n64 p3), .int .u64 (n64 p4), .int .u64 (n64 l1), .int .u64 (n64 l2), .int .u64 (n64 l3)] 36)).heap.size by simp)
  obtain ⟨W, hW⟩ : ∃ W, W = w.alloc (.cells #[.int .i64 3, .int .i64 0, .int .u64 (n64 at_), .int .u64 (n64 retry), .int .i64 k, .int .u64 (n64 p1), .int .u64 (n64 p2), .int .u64 (n64 p3), .int .u64 (n64 p4), .int .u64 (n64 l1), .int .u64 (n64 l2), .int .u64 (n64 l3)] 36) := ⟨_, rfl⟩
  simp only [ansA]
  go_enter Tryd.func15, Tryd.ntmps15
  go_wp2
  rw [← hW] at HBX HX HE1 HSZ ⊢
  clear hW hbx hp
  have hsz := HSZ.out
  obtain ⟨x0, x1, x2, x3, x4, x5, x6, x7, x8, x9, x10, x11⟩ := box12 HX.out
  have hq : ∀ V : World, (binOp .neq 34 (.agg (repA kr)) (.agg #[.int .i64 0, .int .u64 (n64 at_), .int .u64 (n64 retry), .int .i64 k, .int .u64 (n64 p1), .int .u64 (n64 p2), .int .u64 (n64 p3), .int .u64 (n64 p4), .int .u64 (n64 l1), .int .u64 (n64 l2), .int .u64 (n64 l3)])).run Tryd.prog V = .ok (.bool (!true)) V := fun V => by rw [← hkept]; exact neq_rep kr ⟨0, at_, retry, ⟨k, p1, p2, p3, p4⟩, ⟨l1, l2, l3⟩⟩ V
  clear hkept
  go_region_held3 (fun w' => w'.cell? ⟨w.heap.size, 0, none⟩ = some (.int .i64 3) ∧ w'.cell? ⟨w.heap.size, 1, none⟩ = some (.int .i64 0) ∧ w'.cell? ⟨w.heap.size, 2, none⟩ = some (.int .u64 (n64 at_)) ∧ w'.cell? ⟨w.heap.size, 3, none⟩ = some (.int .u64 (n64 retry)) ∧ w'.cell? ⟨w.heap.size, 4, none⟩ = some (.int .i64 k) ∧ w'.cell? ⟨w.heap.size, 5, none⟩ = some (.int .u64 (n64 p1)) ∧ w'.cell? ⟨w.heap.size, 6, none⟩ = some (.int .u64 (n64 p2)) ∧ w'.cell? ⟨w.heap.size, 7, none⟩ = some (.int .u64 (n64 p3)) ∧ w'.cell? ⟨w.heap.size, 8, none⟩ = some (.int .u64 (n64 p4)) ∧ w'.cell? ⟨w.heap.size, 9, none⟩ = some (.int .u64 (n64 l1)) ∧ w'.cell? ⟨w.heap.size, 10, none⟩ = some (.int .u64 (n64 l2)) ∧ w'.cell? ⟨w.heap.size, 11, none⟩ = some (.int .u64 (n64 l3)))
    (first | exact ⟨x0, x1, x2, x3, x4, x5, x6, x7, x8, x9, x10, x11⟩ | exact ⟨below_cell hb6 (below_cell hb5 x0), below_cell hb6 (below_cell hb5 x1), below_cell hb6 (below_cell hb5 x2), below_cell hb6 (below_cell hb5 x3), below_cell hb6 (below_cell hb5 x4), below_cell hb6 (below_cell hb5 x5), below_cell hb6 (below_cell hb5 x6), below_cell hb6 (below_cell hb5 x7), below_cell hb6 (below_cell hb5 x8), below_cell hb6 (below_cell hb5 x9), below_cell hb6 (below_cell hb5 x10), below_cell hb6 (below_cell hb5 x11)⟩ | exact ⟨below_cell hb5 x0, below_cell hb5 x1, below_cell hb5 x2, below_cell hb5 x3, below_cell hb5 x4, below_cell hb5 x5, below_cell hb5 x6, below_cell hb5 x7, below_cell hb5 x8, below_cell hb5 x9, below_cell hb5 x10, below_cell hb5 x11⟩ | fail)
    (first
      | (go_at_call 34; (with_reducible refine (pair_calls 3 0 W.drew).mono ?_); rintro e w5 ⟨rfl, hb5⟩; rw [HPR.out])
      | (go_at_call 35; (with_reducible refine (HKC w5).mono ?_); rintro e w6 ⟨rfl, hb6⟩)
      | fail)
  have hb5w : Below W.heap.size W w5 := undrew hb5
  have hbb := below_then hb5w hb6
  have HE6 := Go.Lib.hid (e4_below HE1.out hbb)
  have HB6 := Go.Lib.hid (below_then HBX.out hbb)
  have HX6 := Go.Lib.hid (below_heap hbb HX.out)
  have hsz6 : w.heap.size < w6.heap.size := heap_lt HX6.out
  clear x0 x1 x2 x3 x4 x5 x6 x7 x8 x9 x10 x11
  clear hb5 hb5w hb6 hbb HX HBX HE1 hsz HSZ
  obtain ⟨x0, x1, x2, x3, x4, x5, x6, x7, x8, x9, x10, x11⟩ := box12 HX6.out
  have hsc : ∀ V : World, Calls Tryd.prog 23 #[.agg #[.int .i64 k, .int .u64 (n64 p1), .int .u64 (n64 p2), .int .u64 (n64 p3), .int .u64 (n64 p4)]] V fun e w' => e = .returned (.bool false) ∧ Below V.heap.size V w' := fun V => by rw [← hsay]; exact sayable_calls ⟨k, p1, p2, p3, p4⟩ V
  clear hsay
  go_wp2_with fail
  have hbb : Below w6.heap.size w6 (w6.alloc (.cells #[.int .u8 (n8 (b8 3)), .int .u8 (n8 (b8 0))] 5)) := (Below.refl _ _).alloc (Nat.le_refl _) _
  have hcb : Cells (w6.alloc (.cells #[.int .u8 (n8 (b8 3)), .int .u8 (n8 (b8 0))] 5)) (some ⟨w6.heap.size, 0, none⟩) (Bs [b8 3, b8 0]) := cells_new w6 (Bs [b8 3, b8 0]) 5 (0, 0)
  refine (hsc (w6.alloc (.cells #[.int .u8 (n8 (b8 3)), .int .u8 (n8 (b8 0))] 5))).mono ?_
  rintro e w7 ⟨rfl, hb7⟩
  have hb67 := below_then hbb hb7
  have HB7 := Go.Lib.hid (below_then HB6.out hb67)
  have HX7 := Go.Lib.hid (below_heap hb67 HX6.out)
  have HE7 := Go.Lib.hid (e4_below HE6.out hb67)
  have HC7 := Go.Lib.hid (cells_below hb7 hcb)
  clear x0 x1 x2 x3 x4 x5 x6 x7 x8 x9 x10 x11
  clear hb7 hb67 hbb hcb hsc
  obtain ⟨x0, x1, x2, x3, x4, x5, x6, x7, x8, x9, x10, x11⟩ := box12 HX7.out
  have e1 := e4_arg HE7.out
  go_wp2
  go_quiet (fail)
  go_wp2
  go_ret2
  exact ⟨_, rfl, own_nil _ _ _, HB7.out.trans (below_drewN _ _ _)⟩

set_option maxRecDepth 100000 in
set_option maxHeartbeats 3200000 in
theorem encR_30 (at_ retry : UInt64) (k : Int) (p1 p2 p3 p4 l1 l2 l3 : UInt64) (p : Nat → Addr) (w : World) (hp : E4 w p) (hpair : pairS 3 0 = true) (hkept : (keptS ⟨3, ⟨0, at_, retry, ⟨k, p1, p2, p3, p4⟩, ⟨l1, l2, l3⟩⟩⟩ == ⟨0, at_, retry, ⟨k, p1, p2, p3, p4⟩, ⟨l1, l2, l3⟩⟩) = true) (hsay : sayS ⟨k, p1, p2, p3, p4⟩ = true) :
    Calls Tryd.prog 15 #[.agg (ansA ⟨3, ⟨0, at_, retry, ⟨k, p1, p2, p3, p4⟩, ⟨l1, l2, l3⟩⟩⟩)] w fun e w' => GaveE p w w' e (encR ⟨3, ⟨0, at_, retry, ⟨k, p1, p2, p3, p4⟩, ⟨l1, l2, l3⟩⟩⟩) := by
  have hE : encR ⟨3, ⟨0, at_, retry, ⟨k, p1, p2, p3, p4⟩, ⟨l1, l2, l3⟩⟩⟩ = (b8 3 :: b8 0 :: (leS at_ 8 ++ polB ⟨k, p1, p2, p3, p4⟩ ++ leS l1 8 ++ leS l2 8 ++ leS l3 8), 0) := by
    have hs : sayA ⟨3, ⟨0, at_, retry, ⟨k, p1, p2, p3, p4⟩, ⟨l1, l2, l3⟩⟩⟩ = true := by unfold sayA; simp [hpair, hkept, hsay]
    unfold encR; rw [if_pos hs]
    unfold encRBody
    simp
  rw [hE]
  clear hE
  have HPR := Go.Lib.hid hpair
  have hkc : ∀ V : World, Calls Tryd.prog 35 #[.agg #[.int .i64 3, .int .i64 0, .int .u64 (n64 at_), .int .u64 (n64 retry), .int .i64 k, .int .u64 (n64 p1), .int .u64 (n64 p2), .int .u64 (n64 p3), .int .u64 (n64 p4), .int .u64 (n64 l1), .int .u64 (n64 l2), .int .u64 (n64 l3)]] V fun e w' => e = .returned (.agg (repA (keptS ⟨3, ⟨0, at_, retry, ⟨k, p1, p2, p3, p4⟩, ⟨l1, l2, l3⟩⟩⟩))) ∧ Below V.heap.size V w' := fun V => kept_calls ⟨3, ⟨0, at_, retry, ⟨k, p1, p2, p3, p4⟩, ⟨l1, l2, l3⟩⟩⟩ V
  generalize keptS ⟨3, ⟨0, at_, retry, ⟨k, p1, p2, p3, p4⟩, ⟨l1, l2, l3⟩⟩⟩ = kr at *
  have HKC := hkc
  clear hpair hkc
  have hbx : Below w.heap.size w (w.alloc (.cells #[.int .i64 3, .int .i64 0, .int .u64 (n64 at_), .int .u64 (n64 retry), .int .i64 k, .int .u64 (n64 p1), .int .u64 (n64 p2), .int .u64 (n64 p3), .int .u64 (n64 p4), .int .u64 (n64 l1), .int .u64 (n64 l2), .int .u64 (n64 l3)] 36)) := (Below.refl _ _).alloc (Nat.le_refl _) _
  have HBX := Go.Lib.hid hbx
  have HX := Go.Lib.hid (heap_here w (.cells #[.int .i64 3, .int .i64 0, .int .u64 (n64 at_), .int .u64 (n64 retry), .int .i64 k, .int .u64 (n64 p1), .int .u64 (n64 p2), .int .u64 (n64 p3), .int .u64 (n64 p4), .int .u64 (n64 l1), .int .u64 (n64 l2), .int .u64 (n64 l3)] 36) w.heap.size rfl)
  have HE1 := Go.Lib.hid (e4_below hp hbx)
  have HSZ := Go.Lib.hid (show w.heap.size < (w.alloc (.cells #[.int .i64 3, .int .i64 0, .int .u64 (n64 at_), .int .u64 (n64 retry), .int .i64 k, .int .u64 (n64 p1), .int .u64 (n64 p2), .int .u64 (n64 p3), .int .u64 (n64 p4), .int .u64 (n64 l1), .int .u64 (n64 l2), .int .u64 (n64 l3)] 36)).heap.size by simp)
  obtain ⟨W, hW⟩ : ∃ W, W = w.alloc (.cells #[.int .i64 3, .int .i64 0, .int .u64 (n64 at_), .int .u64 (n64 retry), .int .i64 k, .int .u64 (n64 p1), .int .u64 (n64 p2), .int .u64 (n64 p3), .int .u64 (n64 p4), .int .u64 (n64 l1), .int .u64 (n64 l2), .int .u64 (n64 l3)] 36) := ⟨_, rfl⟩
  simp only [ansA]
  go_enter Tryd.func15, Tryd.ntmps15
  go_wp2
  rw [← hW] at HBX HX HE1 HSZ ⊢
  clear hW hbx hp
  have hsz := HSZ.out
  obtain ⟨x0, x1, x2, x3, x4, x5, x6, x7, x8, x9, x10, x11⟩ := box12 HX.out
  have hq : ∀ V : World, (binOp .neq 34 (.agg (repA kr)) (.agg #[.int .i64 0, .int .u64 (n64 at_), .int .u64 (n64 retry), .int .i64 k, .int .u64 (n64 p1), .int .u64 (n64 p2), .int .u64 (n64 p3), .int .u64 (n64 p4), .int .u64 (n64 l1), .int .u64 (n64 l2), .int .u64 (n64 l3)])).run Tryd.prog V = .ok (.bool (!true)) V := fun V => by rw [← hkept]; exact neq_rep kr ⟨0, at_, retry, ⟨k, p1, p2, p3, p4⟩, ⟨l1, l2, l3⟩⟩ V
  clear hkept
  go_region_held3 (fun w' => w'.cell? ⟨w.heap.size, 0, none⟩ = some (.int .i64 3) ∧ w'.cell? ⟨w.heap.size, 1, none⟩ = some (.int .i64 0) ∧ w'.cell? ⟨w.heap.size, 2, none⟩ = some (.int .u64 (n64 at_)) ∧ w'.cell? ⟨w.heap.size, 3, none⟩ = some (.int .u64 (n64 retry)) ∧ w'.cell? ⟨w.heap.size, 4, none⟩ = some (.int .i64 k) ∧ w'.cell? ⟨w.heap.size, 5, none⟩ = some (.int .u64 (n64 p1)) ∧ w'.cell? ⟨w.heap.size, 6, none⟩ = some (.int .u64 (n64 p2)) ∧ w'.cell? ⟨w.heap.size, 7, none⟩ = some (.int .u64 (n64 p3)) ∧ w'.cell? ⟨w.heap.size, 8, none⟩ = some (.int .u64 (n64 p4)) ∧ w'.cell? ⟨w.heap.size, 9, none⟩ = some (.int .u64 (n64 l1)) ∧ w'.cell? ⟨w.heap.size, 10, none⟩ = some (.int .u64 (n64 l2)) ∧ w'.cell? ⟨w.heap.size, 11, none⟩ = some (.int .u64 (n64 l3)))
    (first | exact ⟨x0, x1, x2, x3, x4, x5, x6, x7, x8, x9, x10, x11⟩ | exact ⟨below_cell hb6 (below_cell hb5 x0), below_cell hb6 (below_cell hb5 x1), below_cell hb6 (below_cell hb5 x2), below_cell hb6 (below_cell hb5 x3), below_cell hb6 (below_cell hb5 x4), below_cell hb6 (below_cell hb5 x5), below_cell hb6 (below_cell hb5 x6), below_cell hb6 (below_cell hb5 x7), below_cell hb6 (below_cell hb5 x8), below_cell hb6 (below_cell hb5 x9), below_cell hb6 (below_cell hb5 x10), below_cell hb6 (below_cell hb5 x11)⟩ | exact ⟨below_cell hb5 x0, below_cell hb5 x1, below_cell hb5 x2, below_cell hb5 x3, below_cell hb5 x4, below_cell hb5 x5, below_cell hb5 x6, below_cell hb5 x7, below_cell hb5 x8, below_cell hb5 x9, below_cell hb5 x10, below_cell hb5 x11⟩ | fail)
    (first
      | (go_at_call 34; (with_reducible refine (pair_calls 3 0 W.drew).mono ?_); rintro e w5 ⟨rfl, hb5⟩; rw [HPR.out])
      | (go_at_call 35; (with_reducible refine (HKC w5).mono ?_); rintro e w6 ⟨rfl, hb6⟩)
      | fail)
  have hb5w : Below W.heap.size W w5 := undrew hb5
  have hbb := below_then hb5w hb6
  have HE6 := Go.Lib.hid (e4_below HE1.out hbb)
  have HB6 := Go.Lib.hid (below_then HBX.out hbb)
  have HX6 := Go.Lib.hid (below_heap hbb HX.out)
  have hsz6 : w.heap.size < w6.heap.size := heap_lt HX6.out
  clear x0 x1 x2 x3 x4 x5 x6 x7 x8 x9 x10 x11
  clear hb5 hb5w hb6 hbb HX HBX HE1 hsz HSZ
  obtain ⟨x0, x1, x2, x3, x4, x5, x6, x7, x8, x9, x10, x11⟩ := box12 HX6.out
  have hsc : ∀ V : World, Calls Tryd.prog 23 #[.agg #[.int .i64 k, .int .u64 (n64 p1), .int .u64 (n64 p2), .int .u64 (n64 p3), .int .u64 (n64 p4)]] V fun e w' => e = .returned (.bool true) ∧ Below V.heap.size V w' := fun V => by rw [← hsay]; exact sayable_calls ⟨k, p1, p2, p3, p4⟩ V
  clear hsay
  go_wp2_with fail
  have hbb : Below w6.heap.size w6 (w6.alloc (.cells #[.int .u8 (n8 (b8 3)), .int .u8 (n8 (b8 0))] 5)) := (Below.refl _ _).alloc (Nat.le_refl _) _
  have hcb : Cells (w6.alloc (.cells #[.int .u8 (n8 (b8 3)), .int .u8 (n8 (b8 0))] 5)) (some ⟨w6.heap.size, 0, none⟩) (Bs [b8 3, b8 0]) := cells_new w6 (Bs [b8 3, b8 0]) 5 (0, 0)
  refine (hsc (w6.alloc (.cells #[.int .u8 (n8 (b8 3)), .int .u8 (n8 (b8 0))] 5))).mono ?_
  rintro e w7 ⟨rfl, hb7⟩
  have hb67 := below_then hbb hb7
  have HB7 := Go.Lib.hid (below_then HB6.out hb67)
  have HX7 := Go.Lib.hid (below_heap hb67 HX6.out)
  have HE7 := Go.Lib.hid (e4_below HE6.out hb67)
  have HC7 := Go.Lib.hid (cells_below hb7 hcb)
  clear x0 x1 x2 x3 x4 x5 x6 x7 x8 x9 x10 x11
  clear hb7 hb67 hbb hcb hsc
  obtain ⟨x0, x1, x2, x3, x4, x5, x6, x7, x8, x9, x10, x11⟩ := box12 HX7.out
  go_wp2
  have HC7d : Hid (Cells w7.drew (some ⟨w6.heap.size, 0, none⟩) (Bs [b8 3, b8 0])) := HC7.out
  go_region_held3 (fun w' => w'.cell? ⟨w.heap.size, 0, none⟩ = some (.int .i64 3) ∧ w'.cell? ⟨w.heap.size, 1, none⟩ = some (.int .i64 0) ∧ w'.cell? ⟨w.heap.size, 2, none⟩ = some (.int .u64 (n64 at_)) ∧ w'.cell? ⟨w.heap.size, 3, none⟩ = some (.int .u64 (n64 retry)) ∧ w'.cell? ⟨w.heap.size, 4, none⟩ = some (.int .i64 k) ∧ w'.cell? ⟨w.heap.size, 5, none⟩ = some (.int .u64 (n64 p1)) ∧ w'.cell? ⟨w.heap.size, 6, none⟩ = some (.int .u64 (n64 p2)) ∧ w'.cell? ⟨w.heap.size, 7, none⟩ = some (.int .u64 (n64 p3)) ∧ w'.cell? ⟨w.heap.size, 8, none⟩ = some (.int .u64 (n64 p4)) ∧ w'.cell? ⟨w.heap.size, 9, none⟩ = some (.int .u64 (n64 l1)) ∧ w'.cell? ⟨w.heap.size, 10, none⟩ = some (.int .u64 (n64 l2)) ∧ w'.cell? ⟨w.heap.size, 11, none⟩ = some (.int .u64 (n64 l3)))
    (first | exact ⟨x0, x1, x2, x3, x4, x5, x6, x7, x8, x9, x10, x11⟩ | exact ⟨below_ge hb9 hs8 hw78 (below_cell hb8 x0), below_ge hb9 hs8 hw78 (below_cell hb8 x1), below_ge hb9 hs8 hw78 (below_cell hb8 x2), below_ge hb9 hs8 hw78 (below_cell hb8 x3), below_ge hb9 hs8 hw78 (below_cell hb8 x4), below_ge hb9 hs8 hw78 (below_cell hb8 x5), below_ge hb9 hs8 hw78 (below_cell hb8 x6), below_ge hb9 hs8 hw78 (below_cell hb8 x7), below_ge hb9 hs8 hw78 (below_cell hb8 x8), below_ge hb9 hs8 hw78 (below_cell hb8 x9), below_ge hb9 hs8 hw78 (below_cell hb8 x10), below_ge hb9 hs8 hw78 (below_cell hb8 x11)⟩ | exact ⟨below_cell hb8 x0, below_cell hb8 x1, below_cell hb8 x2, below_cell hb8 x3, below_cell hb8 x4, below_cell hb8 x5, below_cell hb8 x6, below_cell hb8 x7, below_cell hb8 x8, below_cell hb8 x9, below_cell hb8 x10, below_cell hb8 x11⟩ | fail)
    (first
      | (go_at_call 26; (with_reducible refine (putU64_n (some ⟨w6.heap.size, 0, none⟩) 2 2 [b8 3, b8 0] at_ 2 w7.drew rfl (by simp) (by decide) HC7d.out).mono ?_); rintro e w8 ⟨A8, c8, l8, rfl, HL8, HC8, hl8, HO8, hb8⟩; have hb8w : Below w7.heap.size w7 w8 := undrew hb8; have hw78 : w7.heap.size ≤ w8.heap.size := hb8w.size; have hs8 : w.heap.size < w7.heap.size := heap_lt HX7.out; have HO8b : Own w8 w7.heap.size 5 (.slice A8 l8.length c8) (Bs l8) := HO8.out)
      | (go_at_call 25; (with_reducible refine (putPolicy_lit w7.heap.size A8 c8 l8 k p1 p2 p3 p4 (2 + 8) w8 hw78 hl8 (by decide) HO8b).mono ?_); rintro e w9 ⟨A9, c9, l9, rfl, HL9, HC9, hl9, HO9, hb9⟩)
      | fail)
  have HB9 := Go.Lib.hid (below_then HB7.out (hb8w.trans hb9))
  have HX9 := Go.Lib.hid ((hb9.block w.heap.size (by show w.heap.size < w7.heap.size; exact hs8)).trans (below_heap hb8w HX7.out))
  have hs9 : w.heap.size < w9.heap.size := heap_lt HX9.out
  have HO9' := Go.Lib.hid (own_mono HO9.out (Nat.le_of_lt hs8))
  clear x0 x1 x2 x3 x4 x5 x6 x7 x8 x9 x10 x11
  clear hb8 hb9 hb8w HO8b HX7 HB7 HC7 HC7d
  obtain ⟨x0, x1, x2, x3, x4, x5, x6, x7, x8, x9, x10, x11⟩ := box12 HX9.out
  go_wp2
  obtain ⟨W10, hW10⟩ : ∃ V, V = w9.alloc (.cells #[.int .u64 (n64 l1), .int .u64 (n64 l2), .int .u64 (n64 l3)] 26) := ⟨_, rfl⟩
  have hb10 : Below w9.heap.size w9 W10 := by rw [hW10]; exact (Below.refl _ _).alloc (Nat.le_refl _) _
  have HS10 : Hid (W10.heap[w9.heap.size]? = some (.cells #[.int .u64 (n64 l1), .int .u64 (n64 l2), .int .u64 (n64 l3)] 26 (0, 0))) := by show W10.heap[w9.heap.size]? = _; rw [hW10]; exact heap_here _ _ _ rfl
  have HB10 := Go.Lib.hid (below_then HB9.out hb10)
  have HO10 := Go.Lib.hid (own_drewless HO9'.out hb10)
  rw [← hW10]
  clear x0 x1 x2 x3 x4 x5 x6 x7 x8 x9 x10 x11
  clear hW10 hb10
  go_loopw [4, 6, 103] (fun v _ i wr => ∃ (j : Nat) (A' : Option Addr) (c' : Nat) (l' : List UInt8), j ≤ 3 ∧ i = .int .i64 (j : Int) ∧ v = .slice A' l'.length c' ∧ Hid (l' = l9 ++ (([l1, l2, l3] : List UInt64).take j).flatMap (leS · 8)) ∧ l'.length ≤ 2 + 8 + 17 + 8 * j ∧ Hid (Own wr w.heap.size 5 (.slice A' l'.length c') (Bs l')) ∧ Hid (Below W10.heap.size W10 wr)) (fun _ _ i _ => 3 - (intOf i).toNat)
  case atStart => exact ⟨0, A9, c9, l9, by omega, rfl, rfl, by show l9 = l9 ++ [] ; rw [List.append_nil], by omega, HO10, Below.refl _ _⟩
  case round =>
    obtain ⟨j, A', c', l', hj, rfl, rfl, HL', hl', HO', HB'⟩ := hrel
    by_cases hlt : j < 3
    · have hx : ∃ x : UInt64, W10.cell? ⟨w9.heap.size, j, none⟩ = some (.int .u64 (n64 x)) ∧ (([l1, l2, l3] : List UInt64).take (j + 1)).flatMap (leS · 8) = (([l1, l2, l3] : List UInt64).take j).flatMap (leS · 8) ++ leS x 8 := by
        rcases j with _ | _ | _ | j
        · exact ⟨l1, blk_cell HS10.out 0 _ rfl, by simp⟩
        · exact ⟨l2, blk_cell HS10.out 1 _ rfl, by simp⟩
        · exact ⟨l3, blk_cell HS10.out 2 _ rfl, by simp⟩
        · omega
      obtain ⟨x, hxc, hxf⟩ := hx
      have hck := below_cell HB'.out hxc
      have HXF := Go.Lib.hid hxf
      have HCC := Go.Lib.hid (own_cells HO'.out)
      have hj0 : (0 : Int) ≤ (j : Int) := Int.natCast_nonneg _
      have hj3 : (j : Int) < 3 := by omega
      have hsw : w.heap.size ≤ wr.heap.size := by have := HB10.out.size; have := HB'.out.size; omega
      clear hxc hxf
      go_wp2_with fail
      refine (putU64_v _ _ l' x (2 + 8 + 17 + 8 * j) wr hl' (by omega) HCC.out).mono ?_
      rintro e w11 ⟨A11, c11, l11, rfl, HL11, HC11, hl11, HO11, hb11⟩
      have HB11 := Go.Lib.hid (below_then HB'.out hb11)
      have HO12 := Go.Lib.hid (own_mono HO11.out hsw)
      clear hb11
      go_wp2
      go_roundw
      case rel =>
        refine ⟨j + 1, A11, c11, l11, by omega, by go_num, rfl, ?_, by omega, HO12, HB11⟩
        show l11 = _
        rw [HL11.out, HL'.out, HXF.out, List.append_assoc]
      case measure => simp [intOf]; omega
    · have hj3 : j = 3 := by omega
      have hl3 := HL'.out
      rw [hj3] at hl3
      have HL3 := Go.Lib.hid hl3
      clear hl3
      go_wp2
      go_ret2
      have ho := HO'.out
      refine ⟨_, rfl, ?_, below_then HB10.out HB'.out⟩
      rw [HL3.out, HL9.out, HL8.out] at ho ⊢
      simpa [errv] using ho

theorem encR_calls (a : Ans) (p : Nat → Addr) (w : World) (hp : E4 w p) : Calls Tryd.prog 15 #[.agg (ansA a)] w fun e w' => GaveE p w w' e (encR a) := by
  obtain ⟨op, ⟨code, at_, retry, ⟨k, p1, p2, p3, p4⟩, ⟨l1, l2, l3⟩⟩⟩ := a
  by_cases hpair : pairS op code = true
  case neg => exact encR_nopair at_ retry k p1 p2 p3 p4 l1 l2 l3 op code p w hp (by simpa using hpair)
  by_cases hkept : (keptS ⟨op, ⟨code, at_, retry, ⟨k, p1, p2, p3, p4⟩, ⟨l1, l2, l3⟩⟩⟩ == (⟨code, at_, retry, ⟨k, p1, p2, p3, p4⟩, ⟨l1, l2, l3⟩⟩ : Rep)) = true
  case neg => exact encR_nokept at_ retry k p1 p2 p3 p4 l1 l2 l3 op code p w hp hpair (by simpa using hkept)
  by_cases o2 : op = 2
  · subst o2
    by_cases c1 : code = 1
    · subst c1; exact encR_21 at_ retry k p1 p2 p3 p4 l1 l2 l3 p w hp hpair hkept
    by_cases c0 : code = 0
    · subst c0; exact encR_20 at_ retry k p1 p2 p3 p4 l1 l2 l3 p w hp hpair hkept
    · exact encR_2x at_ retry k p1 p2 p3 p4 l1 l2 l3 code p w hp hpair hkept (beq_eq_false_iff_ne.2 c0) (beq_eq_false_iff_ne.2 c1)
  by_cases o3 : op = 3
  · subst o3
    by_cases c0 : code = 0
    · subst c0
      by_cases hsay : sayS ⟨k, p1, p2, p3, p4⟩ = true
      · exact encR_30 at_ retry k p1 p2 p3 p4 l1 l2 l3 p w hp hpair hkept hsay
      · exact encR_30_say at_ retry k p1 p2 p3 p4 l1 l2 l3 p w hp hpair hkept (by simpa using hsay)
    · exact encR_3x at_ retry k p1 p2 p3 p4 l1 l2 l3 code p w hp hpair hkept (beq_eq_false_iff_ne.2 c0)
  · exact encR_x at_ retry k p1 p2 p3 p4 l1 l2 l3 op code p w hp hpair hkept (beq_eq_false_iff_ne.2 o2) (beq_eq_false_iff_ne.2 o3)
end Go.Proofs.YtonfeppenhebjaaDoor

/- Package turnstileref20: policy, ended, Decode. (Printed by gen_ref20d.py of this session.) -/
import Derived.Test.YtonfeppenhebjaaDoorRef20A
import Derived.Test.YtonfeppenhebjaaDoorReqD
namespace Go.Proofs.YtonfeppenhebjaaDoor
open Go Go.RowKit
set_option linter.unusedVariables false
set_option linter.unusedSimpArgs false
attribute [local go_sem] IntKind.wrap_u64 c64_8 c8_64 c16_64 c32_64 c64_16 c64_32 or8 and8 n64_self n8_self beq_n64 beq_n8 bne_n8 bne_n64 beq_n64_0 bne_n64_0 wrap_b8

theorem rc_short0 {w : World} {g L : Nat} {rest : List UInt8} (h : Rc w g L rest 0) : w.cell? ⟨g, 2, none⟩ = some (.bool false) := by
  obtain ⟨A, c, b, a, h1, h2, _⟩ := h
  exact blk_cell h2.1 2 _ rfl
theorem rc_short1 {w : World} {g L m : Nat} {rest : List UInt8} (h : Rc w g L rest (m + 1)) : w.cell? ⟨g, 2, none⟩ = some (.bool true) := by
  obtain ⟨A, c, b, a, h1, h2, _⟩ := h
  exact blk_cell h2.1 2 _ rfl
theorem rc_fault {w : World} {g L m : Nat} {rest : List UInt8} (h : Rc w g L rest (m + 1)) : m = 0 := by
  obtain ⟨A, c, b, a, h1, h2, h3, h4⟩ := h
  omega
/-- what one byte reads as -/
theorem fixed1_int (rest : List UInt8) (f : Nat) : IntKind.i64.wrap (n64 (fixedS rest f 1).1) = n8 (fixedS rest f 1).1.toUInt8 := by
  have h : (fixedS rest f 1).1.toNat < 256 := by
    unfold fixedS
    simp only
    unfold takeS
    split
    · rename_i l h
      split at h
      · split at h
        · cases h
        · rename_i hlt
          cases h
          rcases rest with _ | ⟨a, t⟩
          · exact absurd (by simp) hlt
          · have : leV (List.take 1 (a :: t)) = a.toUInt64 := by unfold leV; simp
            rw [this]; have := a.toNat_lt; simp; omega
      · cases h
    · decide
  rw [IntKind.wrap_i64]
  unfold n64 n8
  rw [UInt64.toNat_toUInt8]
  omega

theorem n64_zero : n64 0 = 0 := rfl

/-- the fault behind all fields -/
theorem ended_calls (g L : Nat) (rest : List UInt8) (f : Nat) (w : World) (hR : Rc w g L rest f) :
    Calls Tryd.prog 45 #[.pointer (some ⟨g, 0, none⟩)] w fun e w' => e = .returned (.int .i64 (endE rest f L : Int)) ∧ ∃ n, w' = w.drewN n := by
  cases f with
  | succ m =>
    have hm := rc_fault hR
    subst hm
    have h2 := rc_short1 hR
    rw [show endE rest (0 + 1) L = 2 from rfl]
    clear hR
    go_enter Tryd.func45, Tryd.ntmps45
    go_wp2
    go_ret
    exact ⟨rfl, 0, rfl⟩
  | zero =>
    have h2 := rc_short0 hR
    obtain ⟨A, c, b, at_, rfl, ⟨hh, hlc, hc, hA, hAb, hat⟩, hrest, _⟩ := hR
    have hc0 := blk_cell hh 0 _ rfl
    have hc1 := blk_cell hh 1 _ rfl
    have hr := hrest rfl
    have hrl : rest.length = b.length - at_ := by rw [hr, List.length_drop]
    clear hh hA hAb hrest hr
    by_cases he : at_ = b.length
    · subst he
      by_cases hb : 256 < b.length
      · have hE : endE rest 0 b.length = 3 := by unfold endE; rw [if_neg (by simp), if_pos (.inr hb)]
        rw [hE]
        have d1 : decide ((256 : Int) < (b.length : Int)) = true := decide_eq_true (by omega)
        have d2 : decide (256 < b.length) = true := decide_eq_true hb
        clear hE hrl
        go_enter Tryd.func45, Tryd.ntmps45
        go_wp2
        go_quiet (fail)
        go_wp2
        go_ret
        exact ⟨rfl, _, rfl⟩
      · have hE : endE rest 0 b.length = 0 := by unfold endE; rw [if_neg (by simp), if_neg (by omega)]
        rw [hE]
        have d1 : decide ((256 : Int) < (b.length : Int)) = false := decide_eq_false (by omega)
        have d2 : decide (256 < b.length) = false := decide_eq_false hb
        clear hE hrl
        go_enter Tryd.func45, Tryd.ntmps45
        go_wp2
        go_quiet (fail)
        go_wp2
        go_ret
        exact ⟨rfl, _, rfl⟩
    · have hE : endE rest 0 b.length = 3 := by unfold endE; rw [if_neg (by simp), if_pos (.inl (by omega))]
      rw [hE]
      have g1 : ((at_ : Int) == (b.length : Int)) = false := by rw [beq_eq_false_iff_ne]; omega
      have g2 : ((at_ : Int) != (b.length : Int)) = true := by rw [bne, g1]; rfl
      clear hE hrl he
      go_enter Tryd.func45, Tryd.ntmps45
      go_wp2
      go_quiet (fail)
      go_wp2
      go_ret
      exact ⟨rfl, _, rfl⟩

set_option maxRecDepth 100000 in
set_option maxHeartbeats 800000 in
theorem policy11_1 (x y : UInt64) (w : World) : Calls Tryd.prog 53 #[.int .i64 1, .int .u64 (n64 x), .int .u64 (n64 y)] w fun e w' => e = .returned (.agg (polA ⟨1, x, y, 0, 0⟩)) ∧ Below w.heap.size w w' := by
  go_enter Tryd.func53, Tryd.ntmps53
  go_wp2
  refine bodyPost_ret (v := .agg #[.int .i64 1, .int .u64 (n64 x), .int .u64 (n64 y), .int .u64 0, .int .u64 0]) (by simp [results, Tryd.results53, go_sem]) rfl ⟨rfl, ?_⟩
  exact (Below.refl _ _).alloc (Nat.le_refl _) _
set_option maxRecDepth 100000 in
set_option maxHeartbeats 800000 in
theorem policy11_2 (x y : UInt64) (w : World) : Calls Tryd.prog 53 #[.int .i64 2, .int .u64 (n64 x), .int .u64 (n64 y)] w fun e w' => e = .returned (.agg (polA ⟨2, 0, 0, x, y⟩)) ∧ Below w.heap.size w w' := by
  go_enter Tryd.func53, Tryd.ntmps53
  go_wp2
  refine bodyPost_ret (v := .agg #[.int .i64 2, .int .u64 0, .int .u64 0, .int .u64 (n64 x), .int .u64 (n64 y)]) (by simp [results, Tryd.results53, go_sem]) rfl ⟨rfl, ?_⟩
  exact (Below.refl _ _).alloc (Nat.le_refl _) _

/-- at a fault no policy is told -/
def polOr (t : Pol × Nat × List UInt8 × Nat) : Pol := if t.2.1 ≠ 0 then polZ else t.1
def RTook (g L : Nat) (w w' : World) (e : Ending) (t : Pol × Nat × List UInt8 × Nat) : Prop :=
  e = .returned (.tuple #[.agg (polA (polOr t)), .int .i64 (t.2.1 : Int)]) ∧ Rc w' g L t.2.2.1 t.2.2.2 ∧ Keep g w w'

set_option maxRecDepth 100000 in
set_option maxHeartbeats 1600000 in
theorem rpolicy_calls (g L : Nat) (rest : List UInt8) (f : Nat) (w : World) (hR : Rc w g L rest f) :
    Calls Tryd.prog 44 #[.pointer (some ⟨g, 0, none⟩)] w fun e w' => RTook g L w w' e (takePolS rest f) := by
  have hgl := rc_lt hR
  have HTT : Hid (takePolS rest f = takePolQ (fixedS rest f 1)) := rfl
  generalize takePolS rest f = tt at *
  have hwi := fixed1_int rest f
  obtain ⟨W0, hW0⟩ : ∃ W, W = w.alloc (.cells #[.int .i64 0, .int .u64 0, .int .u64 0, .int .u64 0, .int .u64 0] 28) := ⟨_, rfl⟩
  have HRC : Hid (Rc W0 g L rest f) := by rw [hW0]; exact rc_alloc hR _
  have KP : Hid (Keep g w W0) := by rw [hW0]; exact keep_alloc (keep_refl g w) _
  have Z : Hid (W0.heap[w.heap.size]? = some (.cells #[.int .i64 0, .int .u64 0, .int .u64 0, .int .u64 0, .int .u64 0] 28 (0, 0))) := by rw [hW0]; exact heap_here w _ w.heap.size rfl
  clear hR
  go_enter Tryd.func44, Tryd.ntmps44
  go_wp2_with fail
  rw [← hW0]
  clear hW0
  refine (number11_calls W0 g L rest f 1 1 (by decide) (by decide) (by decide) HRC.out).mono ?_
  rintro e w1 ⟨rfl, h1, h2⟩
  have n_Z := Go.Lib.hid (keep_heap (keep_only h2) Z.out (by omega))
  have n_KP : Hid (Keep g w w1) := keep_trans KP.out (keep_only h2)
  clear Z KP
  have Z := n_Z; clear n_Z
  have KP := n_KP; clear n_KP
  clear HRC
  have HRC := Go.Lib.hid h1
  clear h1 h2
  generalize fixedS rest f 1 = q at *
  obtain ⟨u, r1, f1⟩ := q
  simp only at HRC HTT hwi ⊢
  generalize hbu : u.toUInt8 = b at *
  have HBU := Go.Lib.hid hbu
  clear hbu
  have hb0 : 0 ≤ n8 b := by unfold n8; omega
  have hb1 : n8 b < 256 := by unfold n8; have := b.toNat_lt; omega
  have hnw : w.heap.size < w1.heap.size := heap_lt Z.out
  cases f1 with
  | succ m =>
    have hm := rc_fault HRC.out
    subst hm
    have hT : tt = (polZ, 2, r1, 1) := by rw [HTT.out]; rfl
    clear HTT
    subst hT
    have s2 := rc_short1 HRC.out
    have c_Z0 := blk_cell Z.out 0 (.int .i64 0) rfl
    have c_Z1 := blk_cell Z.out 1 (.int .u64 0) rfl
    have c_Z2 := blk_cell Z.out 2 (.int .u64 0) rfl
    have c_Z3 := blk_cell Z.out 3 (.int .u64 0) rfl
    have c_Z4 := blk_cell Z.out 4 (.int .u64 0) rfl
    have f_Z := heap_frozen Z.out
    go_wp2
    refine bodyPost_ret (v := .tuple #[.agg #[.int .i64 0, .int .u64 0, .int .u64 0, .int .u64 0, .int .u64 0], .int .i64 2]) (by simp [results, Tryd.results44, go_sem, c_Z0, c_Z1, c_Z2, c_Z3, c_Z4]) rfl ?_
    exact ⟨rfl, rc_set (rc_set (rc_set (rc_set (rc_set HRC.out Z.out (by decide) rfl _ _) (set_heap Z.out _ _) (by decide) rfl _ _) (set_heap (set_heap Z.out _ _) _ _) (by decide) rfl _ _) (set_heap (set_heap (set_heap Z.out _ _) _ _) _ _) (by decide) rfl _ _) (set_heap (set_heap (set_heap (set_heap Z.out _ _) _ _) _ _) _ _) (by decide) rfl _ _, set5_keep KP.out (Nat.le_refl _) _ _ _ _ _⟩
  | zero =>
    have s2 := rc_short0 HRC.out
    by_cases k1 : b = 1
    · subst k1
      have HTT2 : Hid (tt = (⟨1, (fixedS r1 0 8).1, (fixedS (fixedS r1 0 8).2.1 (fixedS r1 0 8).2.2 8).1, 0, 0⟩, fault (fixedS (fixedS r1 0 8).2.1 (fixedS r1 0 8).2.2 8).2.2, (fixedS (fixedS r1 0 8).2.1 (fixedS r1 0 8).2.2 8).2.1, (fixedS (fixedS r1 0 8).2.1 (fixedS r1 0 8).2.2 8).2.2)) := by
        show tt = _
        rw [HTT.out]
        unfold takePolQ
        rw [if_neg (by simp), HBU.out]
        rfl
      clear HTT HBU
      rw [show n8 1 = (1 : Int) from rfl] at *
      go_wp2_with fail
      clear s2
      refine (number11_calls w1 g L r1 0 8 8 (by decide) (by decide) (by decide) HRC.out).mono ?_
      rintro e w2 ⟨rfl, h1, h2⟩
      have n_Z := Go.Lib.hid (keep_heap (keep_only h2) Z.out (by omega))
      have n_KP : Hid (Keep g w w2) := keep_trans KP.out (keep_only h2)
      clear Z KP
      have Z := n_Z; clear n_Z
      have KP := n_KP; clear n_KP
      clear HRC
      have HRC := Go.Lib.hid h1
      clear h1 h2
      generalize fixedS r1 0 8 = q1 at *
      obtain ⟨x, r2, f2⟩ := q1
      simp only at HRC HTT2 ⊢
      go_wp2_with fail
      refine (number11_calls w2 g L r2 f2 8 8 (by decide) (by decide) (by decide) HRC.out).mono ?_
      rintro e w3 ⟨rfl, h1, h2⟩
      have n_Z := Go.Lib.hid (keep_heap (keep_only h2) Z.out (by omega))
      have n_KP : Hid (Keep g w w3) := keep_trans KP.out (keep_only h2)
      clear Z KP
      have Z := n_Z; clear n_Z
      have KP := n_KP; clear n_KP
      clear HRC
      have HRC := Go.Lib.hid h1
      clear h1 h2
      generalize fixedS r2 f2 8 = q2 at *
      obtain ⟨y, r3, f3⟩ := q2
      simp only at HRC HTT2 ⊢
      have hnw3 : w.heap.size < w3.heap.size := heap_lt Z.out
      cases f3 with
      | succ m =>
        have hm := rc_fault HRC.out
        subst hm
        have hT := HTT2.out
        clear HTT2
        subst hT
        have s2 := rc_short1 HRC.out
        have c_Z0 := blk_cell Z.out 0 (.int .i64 0) rfl
        have c_Z1 := blk_cell Z.out 1 (.int .u64 0) rfl
        have c_Z2 := blk_cell Z.out 2 (.int .u64 0) rfl
        have c_Z3 := blk_cell Z.out 3 (.int .u64 0) rfl
        have c_Z4 := blk_cell Z.out 4 (.int .u64 0) rfl
        have f_Z := heap_frozen Z.out
        go_wp2
        refine bodyPost_ret (v := .tuple #[.agg #[.int .i64 0, .int .u64 0, .int .u64 0, .int .u64 0, .int .u64 0], .int .i64 2]) (by simp [results, Tryd.results44, go_sem, c_Z0, c_Z1, c_Z2, c_Z3, c_Z4]) rfl ?_
        exact ⟨rfl, rc_set (rc_set (rc_set (rc_set (rc_set HRC.out Z.out (by decide) rfl _ _) (set_heap Z.out _ _) (by decide) rfl _ _) (set_heap (set_heap Z.out _ _) _ _) (by decide) rfl _ _) (set_heap (set_heap (set_heap Z.out _ _) _ _) _ _) (by decide) rfl _ _) (set_heap (set_heap (set_heap (set_heap Z.out _ _) _ _) _ _) _ _) (by decide) rfl _ _, set5_keep KP.out (Nat.le_refl _) _ _ _ _ _⟩
      | zero =>
        have hT := HTT2.out
        clear HTT2
        subst hT
        have s2 := rc_short0 HRC.out
        go_wp2_with fail
        clear s2
        refine (policy11_1 x y w3).mono ?_
        rintro e w4 ⟨rfl, h2⟩
        have n_Z := Go.Lib.hid (below_heap h2 Z.out)
        have n_KP : Hid (Keep g w w4) := keep_trans KP.out (keep_of_below h2)
        have n_HRC : Hid (Rc w4 g L r3 0) := rc_below HRC.out h2
        clear Z KP HRC
        have Z := n_Z; clear n_Z
        have KP := n_KP; clear n_KP
        have HRC := n_HRC; clear n_HRC
        clear h2
        have hnw4 : w.heap.size < w4.heap.size := heap_lt Z.out
        simp only [polA, n64_zero]
        have c_Z0 := blk_cell Z.out 0 (.int .i64 0) rfl
        have c_Z1 := blk_cell Z.out 1 (.int .u64 0) rfl
        have c_Z2 := blk_cell Z.out 2 (.int .u64 0) rfl
        have c_Z3 := blk_cell Z.out 3 (.int .u64 0) rfl
        have c_Z4 := blk_cell Z.out 4 (.int .u64 0) rfl
        have f_Z := heap_frozen Z.out
        go_wp2
        refine bodyPost_ret (v := .tuple #[.agg #[.int .i64 1, .int .u64 (n64 x), .int .u64 (n64 y), .int .u64 0, .int .u64 0], .int .i64 0]) (by simp [results, Tryd.results44, go_sem, c_Z0, c_Z1, c_Z2, c_Z3, c_Z4]) rfl ?_
        exact ⟨rfl, rc_set (rc_set (rc_set (rc_set (rc_set HRC.out Z.out (by decide) rfl _ _) (set_heap Z.out _ _) (by decide) rfl _ _) (set_heap (set_heap Z.out _ _) _ _) (by decide) rfl _ _) (set_heap (set_heap (set_heap Z.out _ _) _ _) _ _) (by decide) rfl _ _) (set_heap (set_heap (set_heap (set_heap Z.out _ _) _ _) _ _) _ _) (by decide) rfl _ _, set5_keep KP.out (Nat.le_refl _) _ _ _ _ _⟩
    have b1 : (n8 b == 1) = false := by rw [show (1 : Int) = n8 1 from rfl, beq_n8]; simpa using k1
    have bb1 : (n8 b != 1) = true := by rw [bne, b1]; rfl
    by_cases k2 : b = 2
    · subst k2
      have HTT2 : Hid (tt = (⟨2, 0, 0, (fixedS r1 0 8).1, (fixedS (fixedS r1 0 8).2.1 (fixedS r1 0 8).2.2 8).1⟩, fault (fixedS (fixedS r1 0 8).2.1 (fixedS r1 0 8).2.2 8).2.2, (fixedS (fixedS r1 0 8).2.1 (fixedS r1 0 8).2.2 8).2.1, (fixedS (fixedS r1 0 8).2.1 (fixedS r1 0 8).2.2 8).2.2)) := by
        show tt = _
        rw [HTT.out]
        unfold takePolQ
        rw [if_neg (by simp), HBU.out]
        rfl
      clear HTT HBU
      rw [show n8 2 = (2 : Int) from rfl] at *
      go_wp2_with fail
      clear s2
      refine (number11_calls w1 g L r1 0 8 8 (by decide) (by decide) (by decide) HRC.out).mono ?_
      rintro e w2 ⟨rfl, h1, h2⟩
      have n_Z := Go.Lib.hid (keep_heap (keep_only h2) Z.out (by omega))
      have n_KP : Hid (Keep g w w2) := keep_trans KP.out (keep_only h2)
      clear Z KP
      have Z := n_Z; clear n_Z
      have KP := n_KP; clear n_KP
      clear HRC
      have HRC := Go.Lib.hid h1
      clear h1 h2
      generalize fixedS r1 0 8 = q1 at *
      obtain ⟨x, r2, f2⟩ := q1
      simp only at HRC HTT2 ⊢
      go_wp2_with fail
      refine (number11_calls w2 g L r2 f2 8 8 (by decide) (by decide) (by decide) HRC.out).mono ?_
      rintro e w3 ⟨rfl, h1, h2⟩
      have n_Z := Go.Lib.hid (keep_heap (keep_only h2) Z.out (by omega))
      have n_KP : Hid (Keep g w w3) := keep_trans KP.out (keep_only h2)
      clear Z KP
      have Z := n_Z; clear n_Z
      have KP := n_KP; clear n_KP
      clear HRC
      have HRC := Go.Lib.hid h1
      clear h1 h2
      generalize fixedS r2 f2 8 = q2 at *
      obtain ⟨y, r3, f3⟩ := q2
      simp only at HRC HTT2 ⊢
      have hnw3 : w.heap.size < w3.heap.size := heap_lt Z.out
      cases f3 with
      | succ m =>
        have hm := rc_fault HRC.out
        subst hm
        have hT := HTT2.out
        clear HTT2
        subst hT
        have s2 := rc_short1 HRC.out
        have c_Z0 := blk_cell Z.out 0 (.int .i64 0) rfl
        have c_Z1 := blk_cell Z.out 1 (.int .u64 0) rfl
        have c_Z2 := blk_cell Z.out 2 (.int .u64 0) rfl
        have c_Z3 := blk_cell Z.out 3 (.int .u64 0) rfl
        have c_Z4 := blk_cell Z.out 4 (.int .u64 0) rfl
        have f_Z := heap_frozen Z.out
        go_wp2
        refine bodyPost_ret (v := .tuple #[.agg #[.int .i64 0, .int .u64 0, .int .u64 0, .int .u64 0, .int .u64 0], .int .i64 2]) (by simp [results, Tryd.results44, go_sem, c_Z0, c_Z1, c_Z2, c_Z3, c_Z4]) rfl ?_
        exact ⟨rfl, rc_set (rc_set (rc_set (rc_set (rc_set HRC.out Z.out (by decide) rfl _ _) (set_heap Z.out _ _) (by decide) rfl _ _) (set_heap (set_heap Z.out _ _) _ _) (by decide) rfl _ _) (set_heap (set_heap (set_heap Z.out _ _) _ _) _ _) (by decide) rfl _ _) (set_heap (set_heap (set_heap (set_heap Z.out _ _) _ _) _ _) _ _) (by decide) rfl _ _, set5_keep KP.out (Nat.le_refl _) _ _ _ _ _⟩
      | zero =>
        have hT := HTT2.out
        clear HTT2
        subst hT
        have s2 := rc_short0 HRC.out
        go_wp2_with fail
        clear s2
        refine (policy11_2 x y w3).mono ?_
        rintro e w4 ⟨rfl, h2⟩
        have n_Z := Go.Lib.hid (below_heap h2 Z.out)
        have n_KP : Hid (Keep g w w4) := keep_trans KP.out (keep_of_below h2)
        have n_HRC : Hid (Rc w4 g L r3 0) := rc_below HRC.out h2
        clear Z KP HRC
        have Z := n_Z; clear n_Z
        have KP := n_KP; clear n_KP
        have HRC := n_HRC; clear n_HRC
        clear h2
        have hnw4 : w.heap.size < w4.heap.size := heap_lt Z.out
        simp only [polA, n64_zero]
        have c_Z0 := blk_cell Z.out 0 (.int .i64 0) rfl
        have c_Z1 := blk_cell Z.out 1 (.int .u64 0) rfl
        have c_Z2 := blk_cell Z.out 2 (.int .u64 0) rfl
        have c_Z3 := blk_cell Z.out 3 (.int .u64 0) rfl
        have c_Z4 := blk_cell Z.out 4 (.int .u64 0) rfl
        have f_Z := heap_frozen Z.out
        go_wp2
        refine bodyPost_ret (v := .tuple #[.agg #[.int .i64 2, .int .u64 0, .int .u64 0, .int .u64 (n64 x), .int .u64 (n64 y)], .int .i64 0]) (by simp [results, Tryd.results44, go_sem, c_Z0, c_Z1, c_Z2, c_Z3, c_Z4]) rfl ?_
        exact ⟨rfl, rc_set (rc_set (rc_set (rc_set (rc_set HRC.out Z.out (by decide) rfl _ _) (set_heap Z.out _ _) (by decide) rfl _ _) (set_heap (set_heap Z.out _ _) _ _) (by decide) rfl _ _) (set_heap (set_heap (set_heap Z.out _ _) _ _) _ _) (by decide) rfl _ _) (set_heap (set_heap (set_heap (set_heap Z.out _ _) _ _) _ _) _ _) (by decide) rfl _ _, set5_keep KP.out (Nat.le_refl _) _ _ _ _ _⟩
    have b2 : (n8 b == 2) = false := by rw [show (2 : Int) = n8 2 from rfl, beq_n8]; simpa using k2
    have bb2 : (n8 b != 2) = true := by rw [bne, b2]; rfl
    have hT : tt = (polZ, 3, r1, 0) := by
      rw [HTT.out]
      unfold takePolQ
      rw [if_neg (by simp)]
      simp only [HBU.out]
      rw [if_neg k1, if_neg k2]
    clear HTT HBU k1 k2
    subst hT
    have c_Z0 := blk_cell Z.out 0 (.int .i64 0) rfl
    have c_Z1 := blk_cell Z.out 1 (.int .u64 0) rfl
    have c_Z2 := blk_cell Z.out 2 (.int .u64 0) rfl
    have c_Z3 := blk_cell Z.out 3 (.int .u64 0) rfl
    have c_Z4 := blk_cell Z.out 4 (.int .u64 0) rfl
    have f_Z := heap_frozen Z.out
    go_wp2
    refine bodyPost_ret (v := .tuple #[.agg #[.int .i64 0, .int .u64 0, .int .u64 0, .int .u64 0, .int .u64 0], .int .i64 3]) (by simp [results, Tryd.results44, go_sem, c_Z0, c_Z1, c_Z2, c_Z3, c_Z4]) rfl ?_
    exact ⟨rfl, rc_set (rc_set (rc_set (rc_set (rc_set HRC.out Z.out (by decide) rfl _ _) (set_heap Z.out _ _) (by decide) rfl _ _) (set_heap (set_heap Z.out _ _) _ _) (by decide) rfl _ _) (set_heap (set_heap (set_heap Z.out _ _) _ _) _ _) (by decide) rfl _ _) (set_heap (set_heap (set_heap (set_heap Z.out _ _) _ _) _ _) _ _) (by decide) rfl _ _, set5_keep KP.out (Nat.le_refl _) _ _ _ _ _⟩
end Go.Proofs.YtonfeppenhebjaaDoor

/- takes and told over both texts' readers. (Printed by gen_takes.py of this session.) -/
import Derived.Test.YtjkocjkfedcdoaaDoorErrs
import Derived.Test.YtjkocjkfedcdoaaDoorRefNum
namespace Go.Proofs.YtjkocjkfedcdoaaDoor
open Go Go.RowKit
attribute [local go_sem] IntKind.wrap_u64 n64_self n8_self beq_n64 beq_n8 bne_n8 bne_n64

theorem fr_fault (f : Nat) : fr f = .int .i64 ((fault f : Nat) : Int) := by rcases f with _ | _ | f <;> rfl
/-- both readers hold the same -/
def Pair (w0 w : World) (p : Nat → Addr) (gr gs : Nat) (rest : List UInt8) (f : Nat) : Prop :=
  ErrsAt w0 p ∧ Below w0.heap.size w0 w ∧ Rd w w0.heap.size gr rest (fv (p 2) (p 3) f) ∧ Rr w w0.heap.size gs rest (fr f)
theorem pair_errs {w0 w : World} {p : Nat → Addr} {gr gs : Nat} {rest : List UInt8} {f : Nat} (h : Pair w0 w p gr gs rest f) : ErrsAt w p := errsAt_below h.1 h.2.1
theorem rd_rr_ne {w : World} {B B' gr gs : Nat} {rest rest' : List UInt8} {f f' : Value} (h : Rd w B gr rest f) (h' : Rr w B' gs rest' f') : gr ≠ gs := by
  rintro rfl
  obtain ⟨A, c, _, h1, _⟩ := h
  obtain ⟨A', c', _, h2, _⟩ := h'
  rw [h1] at h2
  simp only [Option.some.injEq, Obj.cells.injEq] at h2
  exact absurd h2.2.1 (by decide)
theorem fv_not_u8 (a0 a1 : Addr) (f : Nat) (u : Int) : fv a0 a1 f ≠ .int .u8 u := by rcases f with _ | _ | f <;> (unfold fv; simp)
theorem fr_not_u8 (f : Nat) (u : Int) : fr f ≠ .int .u8 u := by rcases f with _ | _ | f <;> (unfold fr; simp)
/-- a block of two cells, none a byte, lies apart from bytes -/
theorem cells_not_in {w : World} {g T : Nat} {x y : Value} {A : Option Addr} {l : List UInt8} (hg : w.heap[g]? = some (.cells #[x, y] T (0, 0))) (hx : ∀ u, x ≠ .int .u8 u) (hy : ∀ u, y ≠ .int .u8 u) (hA : Cells w A (Bs l)) (hl : 0 < l.length) :
    ∀ ad, A = some ad → ad.block ≠ g := by
  intro ad ha hb
  obtain ⟨b, o, ha', hc⟩ := hA (by rw [Bs_length]; exact hl)
  rw [ha] at ha'
  cases ha'
  obtain rfl : b = g := hb
  have h0 := hc 0 (by rw [Bs_length]; exact hl)
  rw [Nat.add_zero, cell_of_row w b o _ _ _ hg] at h0
  rcases o with _ | _ | o
  · simp [Bs] at h0; exact hx _ h0
  · simp [Bs] at h0; exact hy _ h0
  · simp at h0
theorem cells_only {w w' : World} {g : Nat} {A : Option Addr} {l : List UInt8} (h : Only g w w') (hne : 0 < l.length → ∀ ad, A = some ad → ad.block ≠ g) (hA : Cells w A (Bs l)) : Cells w' A (Bs l) := by
  intro h0
  have hl : 0 < l.length := by rw [Bs_length] at h0; exact h0
  obtain ⟨b, o, ha, hc⟩ := hA h0
  refine ⟨b, o, ha, fun i hi => ?_⟩
  rw [h.cell (p := ⟨b, o + i, none⟩) (hne hl ⟨b, o, none⟩ ha)]
  exact hc i hi
theorem rr_other {w w' : World} {B B' gr gs : Nat} {rest rest' : List UInt8} {a0 a1 : Addr} {f f' : Nat} (h : Rd w B gr rest (fv a0 a1 f)) (h' : Rr w B' gs rest' (fr f')) (ho : Only gr w w') : Rr w' B' gs rest' (fr f') := by
  have hne := rd_rr_ne h h'
  obtain ⟨A, c, _, h1, _⟩ := h
  obtain ⟨A', c', k1, k2, k3, k4, k5, k6⟩ := h'
  exact ⟨A', c', k1, (ho.2.2.2.2 gs (fun e => hne e.symm)).trans k2, k3, k4, cells_only ho (fun hl => cells_not_in h1 (by simp) (fv_not_u8 a0 a1 f) k5 hl) k5, k6⟩
theorem rd_other {w w' : World} {B B' gr gs : Nat} {rest rest' : List UInt8} {a0 a1 : Addr} {f f' : Nat} (h : Rr w B gs rest (fr f)) (h' : Rd w B' gr rest' (fv a0 a1 f')) (ho : Only gs w w') : Rd w' B' gr rest' (fv a0 a1 f') := by
  have hne := rd_rr_ne h' h
  obtain ⟨A, c, _, h1, _⟩ := h
  obtain ⟨A', c', k1, k2, k3, k4, k5, k6⟩ := h'
  exact ⟨A', c', k1, (ho.2.2.2.2 gr hne).trans k2, k3, k4, cells_only ho (fun hl => cells_not_in h1 (by simp) (fr_not_u8 f) k5 hl) k5, k6⟩
theorem pair_step {w0 w w1 w2 : World} {p : Nat → Addr} {gr gs : Nat} {rest rest' : List UInt8} {f f' : Nat} (h : Pair w0 w p gr gs rest f) (h1 : Rd w1 w0.heap.size gr rest' (fv (p 2) (p 3) f')) (h2 : Only gr w w1)
    (k1 : Rr w2 w0.heap.size gs rest' (fr f')) (k2 : Only gs w1 w2) : Pair w0 w2 p gr gs rest' f' := by
  obtain ⟨hE, hB, hR, hS⟩ := h
  have hS1 := rr_other hR hS h2
  refine ⟨hE, ?_, rd_other hS1 h1 k2, k1⟩
  have a : w0.heap.size ≤ gr := by obtain ⟨_, _, h, _⟩ := hR; exact h
  have b : w0.heap.size ≤ gs := by obtain ⟨_, _, h, _⟩ := hS; exact h
  exact (hB.trans (h2.below a)).trans (k2.below b)
theorem one_lt_heap {w : World} {p : Nat → Addr} (h : ErrsAt w p) : 1 < w.heap.size := by
  have h3 := (h.1 3 (by decide) (by decide)).1
  have h2 := (h.1 2 (by decide) (by decide)).1
  have a := World.block_lt_of_cell? w _ h3
  have b := World.block_lt_of_cell? w _ h2
  simp only [errG] at a b
  omega

/-- what takes tells of both readers -/
def TookBoth (w0 w' : World) (p : Nat → Addr) (gr gs : Nat) (e : Ending) : Prop := e = .returned (.bool true) ∧ ∃ rest' f', Pair w0 w' p gr gs rest' f'

set_option maxRecDepth 100000 in
set_option maxHeartbeats 1600000 in
theorem takes_calls (kind : Int) (w0 w : World) (p : Nat → Addr) (gr gs : Nat) (rest : List UInt8) (f : Nat) (hP : Pair w0 w p gr gs rest f) :
    Calls Tryd.prog 38 #[.int .i64 kind, .pointer (some ⟨gr, 0, none⟩), .pointer (some ⟨gs, 0, none⟩)] w fun e w' => TookBoth w0 w' p gr gs e := by
  have HP := Go.Lib.hid hP
  have hg : 1 < gr := by have := one_lt_heap hP.1; obtain ⟨_, _, h, _⟩ := hP.2.2.1; omega
  have hlen : rest.length ≤ 9223372036854775807 := by obtain ⟨_, _, _, _, h1, h2, _⟩ := hP.2.2.1; omega
  clear hP
  by_cases k1 : kind = 1
  · subst k1
    go_enter Tryd.func38, Tryd.ntmps38
    go_wp2_with fail
    refine (u8_calls w w0.heap.size gr (p 2) (p 3) rest f (errsAt_two (pair_errs HP.out)) HP.out.2.2.1).mono ?_
    rintro e w1 ⟨rfl, h1, h2⟩
    have H1 := Go.Lib.hid h1
    have H2 := Go.Lib.hid h2
    clear h1 h2
    go_wp2_with fail
    refine (ru8_calls w1 w0.heap.size gs rest f (rr_other HP.out.2.2.1 HP.out.2.2.2 H2.out)).mono ?_
    rintro e w2 ⟨rfl, k1, k2⟩
    have K1 := Go.Lib.hid k1
    have K2 := Go.Lib.hid k2
    clear k1 k2
    go_wp2
    go_ret
    exact ⟨by first | rfl | simp, _, _, pair_step HP.out H1.out H2.out K1.out K2.out⟩
  have b1 : (kind == 1) = false := beq_eq_false_iff_ne.2 k1
  by_cases k2 : kind = 2
  · subst k2
    clear k1 b1
    go_enter Tryd.func38, Tryd.ntmps38
    go_wp2_with fail
    refine (u16_calls w w0.heap.size gr (p 2) (p 3) rest f (errsAt_two (pair_errs HP.out)) HP.out.2.2.1).mono ?_
    rintro e w1 ⟨rfl, h1, h2⟩
    have H1 := Go.Lib.hid h1
    have H2 := Go.Lib.hid h2
    clear h1 h2
    go_wp2_with fail
    refine (ru16_calls w1 w0.heap.size gs rest f (rr_other HP.out.2.2.1 HP.out.2.2.2 H2.out)).mono ?_
    rintro e w2 ⟨rfl, k1, k2⟩
    have K1 := Go.Lib.hid k1
    have K2 := Go.Lib.hid k2
    clear k1 k2
    go_wp2
    go_ret
    exact ⟨by first | rfl | simp, _, _, pair_step HP.out H1.out H2.out K1.out K2.out⟩
  have b2 : (kind == 2) = false := beq_eq_false_iff_ne.2 k2
  by_cases k3 : kind = 3
  · subst k3
    clear k1 b1 k2 b2
    go_enter Tryd.func38, Tryd.ntmps38
    go_wp2_with fail
    refine (u32_calls w w0.heap.size gr (p 2) (p 3) rest f (errsAt_two (pair_errs HP.out)) HP.out.2.2.1).mono ?_
    rintro e w1 ⟨rfl, h1, h2⟩
    have H1 := Go.Lib.hid h1
    have H2 := Go.Lib.hid h2
    clear h1 h2
    go_wp2_with fail
    refine (ru32_calls w1 w0.heap.size gs rest f (rr_other HP.out.2.2.1 HP.out.2.2.2 H2.out)).mono ?_
    rintro e w2 ⟨rfl, k1, k2⟩
    have K1 := Go.Lib.hid k1
    have K2 := Go.Lib.hid k2
    clear k1 k2
    go_wp2
    go_ret
    exact ⟨by first | rfl | simp, _, _, pair_step HP.out H1.out H2.out K1.out K2.out⟩
  have b3 : (kind == 3) = false := beq_eq_false_iff_ne.2 k3
  by_cases k4 : kind = 4
  · subst k4
    clear k1 b1 k2 b2 k3 b3
    go_enter Tryd.func38, Tryd.ntmps38
    go_wp2_with fail
    refine (u64_calls w w0.heap.size gr (p 2) (p 3) rest f (errsAt_two (pair_errs HP.out)) HP.out.2.2.1).mono ?_
    rintro e w1 ⟨rfl, h1, h2⟩
    have H1 := Go.Lib.hid h1
    have H2 := Go.Lib.hid h2
    clear h1 h2
    go_wp2_with fail
    refine (ru64_calls w1 w0.heap.size gs rest f (rr_other HP.out.2.2.1 HP.out.2.2.2 H2.out)).mono ?_
    rintro e w2 ⟨rfl, k1, k2⟩
    have K1 := Go.Lib.hid k1
    have K2 := Go.Lib.hid k2
    clear k1 k2
    go_wp2
    go_ret
    exact ⟨by first | rfl | simp, _, _, pair_step HP.out H1.out H2.out K1.out K2.out⟩
  have b4 : (kind == 4) = false := beq_eq_false_iff_ne.2 k4
  by_cases k5 : kind = 5
  · subst k5
    clear k1 b1 k2 b2 k3 b3 k4 b4
    go_enter Tryd.func38, Tryd.ntmps38
    go_wp2_with fail
    refine (textR_calls w w0.heap.size gr (p 2) (p 3) rest f hg (errsAt_two (pair_errs HP.out)) HP.out.2.2.1).mono ?_
    rintro e w1 ⟨rfl, h1, h2⟩
    have H1 := Go.Lib.hid h1
    have H2 := Go.Lib.hid h2
    clear h1 h2
    go_wp2_with fail
    refine (rtext_calls w1 w0.heap.size gs rest f (rr_other HP.out.2.2.1 HP.out.2.2.2 H2.out)).mono ?_
    rintro e w2 ⟨rfl, k1, k2⟩
    have K1 := Go.Lib.hid k1
    have K2 := Go.Lib.hid k2
    clear k1 k2
    go_wp2
    go_ret
    exact ⟨by first | rfl | simp, _, _, pair_step HP.out H1.out H2.out K1.out K2.out⟩
  have b5 : (kind == 5) = false := beq_eq_false_iff_ne.2 k5
  clear k1 k2 k3 k4 k5
  go_enter Tryd.func38, Tryd.ntmps38
  go_wp2_with fail
  refine (number_calls w w0.heap.size gr (p 2) (p 3) rest f (errsAt_two (pair_errs HP.out)) HP.out.2.2.1).mono ?_
  rintro e w1 ⟨rfl, h1, h2⟩
  have H1 := Go.Lib.hid h1
  have H2 := Go.Lib.hid h2
  clear h1 h2
  go_wp2_with fail
  refine (rnumber_calls w1 w0.heap.size gs rest f hlen (rr_other HP.out.2.2.1 HP.out.2.2.2 H2.out)).mono ?_
  rintro e w2 ⟨rfl, k1, k2⟩
  have K1 := Go.Lib.hid k1
  have K2 := Go.Lib.hid k2
  clear k1 k2
  go_wp2
  go_ret
  exact ⟨by first | rfl | simp, _, _, pair_step HP.out H1.out H2.out K1.out K2.out⟩

set_option maxRecDepth 100000 in
set_option maxHeartbeats 1600000 in
theorem takes_nil (kind : Int) (w : World) :
    Calls Tryd.prog 38 #[.int .i64 kind, .pointer none, .pointer none] w fun e w' => e = .returned (.bool true) ∧ w' = w := by
  by_cases k1 : kind = 1
  · subst k1
    go_enter Tryd.func38, Tryd.ntmps38
    go_wp2_with fail
    refine (u8_nil w).mono ?_
    rintro e w1 ⟨rfl, rfl⟩
    go_wp2_with fail
    refine (ru8_nil _).mono ?_
    rintro e w2 ⟨rfl, rfl⟩
    go_wp2
    go_ret
    exact ⟨rfl, rfl⟩
  have b1 : (kind == 1) = false := beq_eq_false_iff_ne.2 k1
  by_cases k2 : kind = 2
  · subst k2
    clear k1 b1
    go_enter Tryd.func38, Tryd.ntmps38
    go_wp2_with fail
    refine (u16_nil w).mono ?_
    rintro e w1 ⟨rfl, rfl⟩
    go_wp2_with fail
    refine (ru16_nil _).mono ?_
    rintro e w2 ⟨rfl, rfl⟩
    go_wp2
    go_ret
    exact ⟨rfl, rfl⟩
  have b2 : (kind == 2) = false := beq_eq_false_iff_ne.2 k2
  by_cases k3 : kind = 3
  · subst k3
    clear k1 b1 k2 b2
    go_enter Tryd.func38, Tryd.ntmps38
    go_wp2_with fail
    refine (u32_nil w).mono ?_
    rintro e w1 ⟨rfl, rfl⟩
    go_wp2_with fail
    refine (ru32_nil _).mono ?_
    rintro e w2 ⟨rfl, rfl⟩
    go_wp2
    go_ret
    exact ⟨rfl, rfl⟩
  have b3 : (kind == 3) = false := beq_eq_false_iff_ne.2 k3
  by_cases k4 : kind = 4
  · subst k4
    clear k1 b1 k2 b2 k3 b3
    go_enter Tryd.func38, Tryd.ntmps38
    go_wp2_with fail
    refine (u64_nil w).mono ?_
    rintro e w1 ⟨rfl, rfl⟩
    go_wp2_with fail
    refine (ru64_nil _).mono ?_
    rintro e w2 ⟨rfl, rfl⟩
    go_wp2
    go_ret
    exact ⟨rfl, rfl⟩
  have b4 : (kind == 4) = false := beq_eq_false_iff_ne.2 k4
  by_cases k5 : kind = 5
  · subst k5
    clear k1 b1 k2 b2 k3 b3 k4 b4
    go_enter Tryd.func38, Tryd.ntmps38
    go_wp2_with fail
    refine (textR_nil w).mono ?_
    rintro e w1 ⟨rfl, rfl⟩
    go_wp2_with fail
    refine (rtext_nil _).mono ?_
    rintro e w2 ⟨rfl, rfl⟩
    go_wp2
    go_ret
    exact ⟨rfl, rfl⟩
  have b5 : (kind == 5) = false := beq_eq_false_iff_ne.2 k5
  clear k1 k2 k3 k4 k5
  go_enter Tryd.func38, Tryd.ntmps38
  go_wp2_with fail
  refine (number_nil w).mono ?_
  rintro e w1 ⟨rfl, rfl⟩
  go_wp2_with fail
  refine (rnumber_nil _).mono ?_
  rintro e w2 ⟨rfl, rfl⟩
  go_wp2
  go_ret
  exact ⟨rfl, rfl⟩

set_option maxRecDepth 100000 in
set_option maxHeartbeats 1600000 in
theorem told_calls (w0 w : World) (p : Nat → Addr) (gr gs : Nat) (rest : List UInt8) (f : Nat) (hP : Pair w0 w p gr gs rest f) :
    Calls Tryd.prog 37 #[.pointer (some ⟨gr, 0, none⟩), .pointer (some ⟨gs, 0, none⟩)] w fun e w' => e = .returned (.bool true) ∧ w' = w := by
  have HP := Go.Lib.hid hP
  have hI1 := is_yes w p (fault f) _ rfl (faultE_le f) (pair_errs hP)
  have hI2 := is_yes w p (fault (endS rest f)) _ rfl (faultE_le _) (pair_errs hP)
  rw [← fv_errv, ← fr_fault] at hI1 hI2
  have HI1 := Go.Lib.hid hI1
  have HI2 := Go.Lib.hid hI2
  clear hP hI1 hI2
  go_enter Tryd.func37, Tryd.ntmps37
  go_wp2_with fail
  refine (left_calls w w0.heap.size gr rest _ HP.out.2.2.1).mono ?_
  rintro e w1 ⟨rfl, rfl⟩
  go_wp2_with fail
  refine (rleft_calls w1 w0.heap.size gs rest _ HP.out.2.2.2).mono ?_
  rintro e w2 ⟨rfl, rfl⟩
  go_wp2_with fail
  refine (err_calls w2 w0.heap.size gr rest _ HP.out.2.2.1).mono ?_
  rintro e w3 ⟨rfl, rfl⟩
  go_wp2_with fail
  refine (rerr_calls w3 w0.heap.size gs rest _ HP.out.2.2.2).mono ?_
  rintro e w4 ⟨rfl, rfl⟩
  go_wp2_with fail
  refine HI1.out.mono ?_
  rintro e w5 ⟨rfl, rfl⟩
  go_wp2_with fail
  refine (end_calls w5 w0.heap.size gr (p 2) (p 3) rest f (errsAt_two (pair_errs HP.out)) HP.out.2.2.1).mono ?_
  rintro e w6 ⟨rfl, rfl⟩
  go_wp2_with fail
  refine (rend_calls w6 w0.heap.size gs rest f HP.out.2.2.2).mono ?_
  rintro e w7 ⟨rfl, rfl⟩
  go_wp2_with fail
  refine HI2.out.mono ?_
  rintro e w8 ⟨rfl, rfl⟩
  go_wp2
  go_ret
  exact ⟨rfl, rfl⟩
set_option maxRecDepth 100000 in
set_option maxHeartbeats 1600000 in
theorem told_nil (w : World) (p : Nat → Addr) (hp : ErrsAt w p) :
    Calls Tryd.prog 37 #[.pointer none, .pointer none] w fun e w' => e = .returned (.bool true) ∧ w' = w := by
  have e15 : w.cell? ⟨3, 0, none⟩ = some (errv p 15) := (hp.1 15 (by decide) (by decide)).1
  have HI := Go.Lib.hid (is_yes w p 15 15 rfl (by decide) hp)
  have H15 := Go.Lib.hid e15
  clear hp e15
  go_enter Tryd.func37, Tryd.ntmps37
  go_wp2_with fail
  refine (left_nil w).mono ?_
  rintro e w1 ⟨rfl, rfl⟩
  go_wp2_with fail
  refine (rleft_nil w1).mono ?_
  rintro e w2 ⟨rfl, rfl⟩
  go_wp2_with fail
  refine (err_nil w2 _ H15.out).mono ?_
  rintro e w3 ⟨rfl, rfl⟩
  go_wp2_with fail
  refine (rerr_nil w3).mono ?_
  rintro e w4 ⟨rfl, rfl⟩
  go_wp2_with fail
  refine HI.out.mono ?_
  rintro e w5 ⟨rfl, rfl⟩
  go_wp2_with fail
  refine (end_nil w5 _ H15.out).mono ?_
  rintro e w6 ⟨rfl, rfl⟩
  go_wp2_with fail
  refine (rend_nil w6).mono ?_
  rintro e w7 ⟨rfl, rfl⟩
  go_wp2_with fail
  refine HI.out.mono ?_
  rintro e w8 ⟨rfl, rfl⟩
  go_wp2
  go_ret
  exact ⟨rfl, rfl⟩
end Go.Proofs.YtjkocjkfedcdoaaDoor

/- Plain law: what DecodeReply takes is said again. -/
import Derived.Test.YtonfeppenhebjaaDoorReqLR
namespace Go.Proofs.YtonfeppenhebjaaDoor
open Go Go.RowKit
set_option linter.unusedVariables false
set_option linter.unusedSimpArgs false

/-- a reply is taken, and said again so, or refused -/
def FormA (b : List UInt8) (q : Ans × Nat) : Prop := (q.1 = ansZ ∧ (q.2 = 2 ∨ q.2 = 3)) ∨ (q.2 = 0 ∧ encR q.1 = (b, 0))
theorem encR_ok (a : Ans) (b : List UInt8) (h : sayA a = true) (hb : encRBody a = b) : encR a = (b, 0) := by
  unfold encR; rw [if_pos h, hb]
theorem ansOr_form (b : List UInt8) (a : Ans) (rest : List UInt8) (f n : Nat) (h : f = 0 → rest = [] → encR a = (b, 0)) : FormA b (ansOr a (endE rest f n)) := by
  rcases endE_cases rest f n with ⟨e, hf, hr, _⟩ | ⟨e, h2⟩
  · rw [e]; exact .inr ⟨rfl, h hf hr⟩
  · unfold ansOr
    rw [if_pos e]
    exact .inl ⟨rfl, h2⟩
theorem decRC_form (u v : UInt8) (rest : List UInt8) (n : Nat) (hp : pairS (u.toNat : Int) (v.toNat : Int) = true) : FormA (u :: v :: rest) (decRC n u.toNat v.toNat rest 0) := by
  have hb1 := b8_u u
  have hb2 := b8_u v
  unfold decRC
  simp only
  by_cases h21 : u.toNat = 2 ∧ v.toNat = 1
  · rw [if_pos h21]
    obtain ⟨ho, hc⟩ := h21
    rw [ho] at hb1 hp
    rw [hc] at hb2 hp
    refine ansOr_form _ _ _ _ _ fun hf hnil => ?_
    obtain ⟨h1, e1⟩ := fixedS_inv _ _ 8 (by decide) hf
    obtain ⟨_, e0⟩ := fixedS_inv _ _ 8 (by decide) h1
    rw [hnil, List.append_nil] at e1
    refine encR_ok _ _ ?_ ?_
    · unfold sayA keptS; simp; exact hp
    · unfold encRBody
      simp only [show ((1 : Int) = 1) = True by simp, show ((2 : Int) = 2) = True by simp, and_self, if_true]
      rw [show b8 2 = u from hb1, show b8 1 = v from hb2, ← e1, ← e0]
  rw [if_neg h21]
  by_cases h20 : u.toNat = 2 ∧ v.toNat = 0
  · rw [if_pos h20]
    obtain ⟨ho, hc⟩ := h20
    rw [ho] at hb1 hp
    rw [hc] at hb2 hp
    refine ansOr_form _ _ _ _ _ fun hf hnil => ?_
    obtain ⟨_, e0⟩ := fixedS_inv _ _ 8 (by decide) hf
    rw [hnil, List.append_nil] at e0
    refine encR_ok _ _ ?_ ?_
    · unfold sayA keptS; simp; exact hp
    · unfold encRBody
      simp only [show ((0 : Int) = 1) = False by simp, show ((0 : Int) = 0) = True by simp, show ((2 : Int) = 2) = True by simp, and_self, and_false, if_true, if_false]
      rw [show b8 2 = u from hb1, show b8 0 = v from hb2, ← e0]
  rw [if_neg h20]
  by_cases h30 : u.toNat = 3 ∧ v.toNat = 0
  · rw [if_pos h30]
    obtain ⟨ho, hc⟩ := h30
    rw [ho] at hb1 hp
    rw [hc] at hb2 hp
    unfold decR3
    by_cases hP : (takePolS (fixedS rest 0 8).2.1 (fixedS rest 0 8).2.2).2.1 = 0
    · rw [if_neg (by omega)]
      simp only
      obtain ⟨ha, hs, hf2, hrest⟩ := takePolS_inv _ _ hP
      obtain ⟨_, e0⟩ := fixedS_inv _ _ 8 (by decide) ha
      refine ansOr_form _ _ _ _ _ fun hf hnil => ?_
      obtain ⟨h2, e3⟩ := fixedS_inv _ _ 8 (by decide) hf
      obtain ⟨h1, e2⟩ := fixedS_inv _ _ 8 (by decide) h2
      obtain ⟨_, e1⟩ := fixedS_inv _ _ 8 (by decide) h1
      rw [hnil, List.append_nil] at e3
      refine encR_ok _ _ ?_ ?_
      · unfold sayA keptS; simp; exact ⟨hp, hs⟩
      · unfold encRBody
        simp only [show ((0 : Int) = 1) = False by simp, show ((0 : Int) = 0) = True by simp, show ((3 : Int) = 2) = False by simp, show ((3 : Int) = 3) = True by simp, and_self, and_false, false_and, if_true, if_false]
        rw [show b8 3 = u from hb1, show b8 0 = v from hb2]
        simp only [List.append_assoc]
        rw [← e3, ← e2, ← e1, ← hrest, ← e0]
    · rw [if_pos hP]
      exact .inl ⟨rfl, by rcases takePolS_err (fixedS rest 0 8).2.1 (fixedS rest 0 8).2.2 with h | h | h; exact absurd h hP; exact .inl h; exact .inr h⟩
  rw [if_neg h30]
  refine ansOr_form _ _ _ _ _ fun _ hnil => ?_
  have i1 : ¬ ((u.toNat : Int) = 2 ∧ (v.toNat : Int) = 1) := by omega
  have i2 : ¬ ((u.toNat : Int) = 2 ∧ (v.toNat : Int) = 0) := by omega
  have i3 : ¬ ((u.toNat : Int) = 3 ∧ (v.toNat : Int) = 0) := by omega
  refine encR_ok _ _ ?_ ?_
  · unfold sayA keptS
    simp only
    rw [if_neg i1, if_neg i2, if_neg i3, if_neg i3, hp]
    simp
  · unfold encRBody
    simp only
    rw [if_neg i1, if_neg i2, if_neg i3, hb1, hb2, hnil]
theorem decR_form (b : List UInt8) : FormA b (decR b) := by
  rcases b with _ | ⟨u, rest⟩
  · exact .inl ⟨rfl, .inl rfl⟩
  unfold decR
  rw [fixedS_cons]
  unfold decRQ
  rw [if_neg (by simp)]
  simp only [u8_64]
  by_cases h5 : 5 < u.toNat
  · rw [if_pos h5]; exact .inl ⟨rfl, .inr rfl⟩
  rw [if_neg h5]
  rcases rest with _ | ⟨v, rest⟩
  · exact .inl ⟨rfl, .inl rfl⟩
  rw [fixedS_cons]
  unfold decR2
  rw [if_neg (by simp)]
  simp only [u8_64]
  by_cases hp : pairS (u.toNat : Int) (v.toNat : Int) = false
  · rw [if_pos hp]; exact .inl ⟨rfl, .inr rfl⟩
  · rw [if_neg hp]
    exact decRC_form u v rest _ (by simpa using hp)
end Go.Proofs.YtonfeppenhebjaaDoor

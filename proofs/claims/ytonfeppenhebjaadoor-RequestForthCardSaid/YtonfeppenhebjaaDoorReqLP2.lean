/- Plain law: beginnings of a request's payload; what Decode takes is said again. -/
import Derived.Test.YtonfeppenhebjaaDoorReqLP
namespace Go.Proofs.YtonfeppenhebjaaDoor
open Go Go.RowKit
set_option linter.unusedVariables false
set_option linter.unusedSimpArgs false

theorem take_field (l t : List UInt8) (n j : Nat) (hl : l.length = n) : (j < n ∧ (l ++ t).take j = l.take j) ∨ (n ≤ j ∧ (l ++ t).take j = l ++ t.take (j - n)) := by
  subst hl
  rcases Nat.lt_or_ge j l.length with h | h
  · exact .inl ⟨h, List.take_append_of_le_length (by omega)⟩
  · exact .inr ⟨h, by rw [List.take_append, List.take_of_length_le h]⟩
theorem endE_short (rest : List UInt8) (n : Nat) : endE rest 1 n = 2 := rfl
theorem key_length (s : List UInt8) : (leS (UInt64.ofNat s.length) 2 ++ s).length = 2 + s.length := by simp [leS_length]
theorem dec_cut (r : Req) (j : Nat) (h : sayR r = true) (hk : r.key.length ≤ 256) (hj : j < (encBody r).length) : decS ((encBody r).take j) = (reqZ, 2) := by
  rcases j with _ | j
  · rfl
  have hk' : r.key.length ≤ 65535 := by omega
  rw [encBody_length] at hj
  unfold decS encBody
  generalize (List.take (j + 1) _).length = n
  rw [List.take_succ_cons, fixedS_cons]
  unfold decQ
  rw [if_neg (by simp)]
  simp only [u8_64]
  obtain ⟨op, key, pol, units⟩ := r
  rcases req_kinds _ h with ⟨ho, hs, hu⟩ | ⟨ho, hs⟩ | ⟨ho | ho, hs, hu⟩ | ⟨ho, hs, hu, hkey⟩
  · simp only at ho hs hu hk' hj
    subst ho; subst hu
    simp only [show (b8 1).toNat = 1 by decide]
    rw [if_neg (by decide), if_neg (by decide), if_neg (by decide), if_pos trivial]
    rcases take_field _ (polB pol) _ j (key_length key) with ⟨hl, e⟩ | ⟨hl, e⟩
    · rw [e, textS_cut key hk' j hl]; rfl
    · rw [e, textS_app key _ hk']
      unfold decOp
      rw [if_neg (by simp), if_pos rfl]
      simp only [takePolS_cut pol (j - (2 + key.length)) hs (by simp at hj; omega)]
      rfl
  · simp only at ho hs hk' hj
    subst ho; subst hs
    simp only [show (b8 2).toNat = 2 by decide]
    rw [if_neg (by decide), if_neg (by decide), if_neg (by decide), if_neg (by decide), if_pos trivial]
    rcases take_field _ (leS units 8) _ j (key_length key) with ⟨hl, e⟩ | ⟨hl, e⟩
    · rw [e, textS_cut key hk' j hl]; rfl
    · rw [e, textS_app key _ hk']
      unfold decOp
      rw [if_neg (by simp), if_neg (by decide), if_pos rfl]
      simp only
      rw [fixedS_short _ 8 (by rw [List.length_take, leS_length]; simp at hj; omega)]
      rfl
  · simp only at ho hs hu hk' hj
    subst ho; subst hs; subst hu
    simp only [show (b8 3).toNat = 3 by decide]
    rw [if_neg (by decide), if_neg (by decide), if_neg (by decide), if_neg (by decide), if_neg (by decide), List.append_nil, textS_cut key hk' j (by simp at hj; omega)]
    rfl
  · simp only at ho hs hu hk' hj
    subst ho; subst hs; subst hu
    simp only [show (b8 4).toNat = 4 by decide]
    rw [if_neg (by decide), if_neg (by decide), if_neg (by decide), if_neg (by decide), if_neg (by decide), List.append_nil, textS_cut key hk' j (by simp at hj; omega)]
    rfl
  · simp only at ho hs hu hkey hj
    subst ho
    simp at hj

theorem fault_two (k : Nat) (h : k ≠ 0) : fault k = 2 ∨ fault k = 3 := by
  rcases k with _ | _ | k
  · exact absurd rfl h
  · exact .inl rfl
  · exact .inr rfl
theorem endE_cases (rest : List UInt8) (f n : Nat) : (endE rest f n = 0 ∧ f = 0 ∧ rest = [] ∧ n ≤ 256) ∨ (endE rest f n ≠ 0 ∧ (endE rest f n = 2 ∨ endE rest f n = 3)) := by
  unfold endE
  by_cases hf : f = 0
  · rw [if_neg (by omega)]
    by_cases hr : rest.length ≠ 0 ∨ 256 < n
    · rw [if_pos hr]; exact .inr ⟨by decide, .inr rfl⟩
    · rw [if_neg hr]
      refine .inl ⟨rfl, hf, ?_, ?_⟩
      · exact List.length_eq_zero_iff.1 (by omega)
      · omega
  · rw [if_pos hf]
    have := fault_two f hf
    exact .inr ⟨by omega, this⟩
theorem takePolS_err (rest : List UInt8) (f : Nat) : (takePolS rest f).2.1 = 0 ∨ (takePolS rest f).2.1 = 2 ∨ (takePolS rest f).2.1 = 3 := by
  have hf : ∀ k, fault k = 0 ∨ fault k = 2 ∨ fault k = 3 := fun k => by rcases k with _ | _ | k <;> simp [fault]
  unfold takePolS takePolQ
  split
  · exact hf _
  · simp only
    split
    · exact hf _
    · split
      · exact hf _
      · exact .inr (.inr rfl)
/-- a request is taken, and said again so, or refused -/
def FormR (b : List UInt8) (q : Req × Nat) : Prop := (q.1 = reqZ ∧ (q.2 = 2 ∨ q.2 = 3)) ∨ (q.2 = 0 ∧ encS q.1 = (b, 0))
theorem encS_ok (r : Req) (b : List UInt8) (h : sayR r = true) (hb : encBody r = b) (hl : b.length ≤ 256) : encS r = (b, 0) := by
  have hk : ¬ 256 < r.key.length := by
    have e := encBody_length r
    rw [hb] at e
    rcases req_kinds r h with ⟨ho, _⟩ | ⟨ho, _⟩ | ⟨ho | ho, _⟩ | ⟨_, _, _, hk⟩
    · rw [ho] at e; simp at e; omega
    · rw [ho] at e; simp at e; omega
    · rw [ho] at e; simp at e; omega
    · rw [ho] at e; simp at e; omega
    · rw [hk]; simp
  unfold encS
  rw [if_neg (by rw [h]; decide), if_neg hk, hb, fit_small _ (by omega)]
theorem reqOr_form (b : List UInt8) (r : Req) (rest : List UInt8) (f n : Nat) (h : f = 0 → rest = [] → n ≤ 256 → encS r = (b, 0)) : FormR b (reqOr r (endE rest f n)) := by
  rcases endE_cases rest f n with ⟨e, hf, hr, hn⟩ | ⟨e, h2⟩
  · rw [e]; exact .inr ⟨rfl, h hf hr hn⟩
  · unfold reqOr
    rw [if_pos e]
    exact .inl ⟨rfl, h2⟩
theorem decOp_form (u : UInt8) (rest : List UInt8) (t : List UInt8 × List UInt8 × Nat) (h1 : ¬ (u.toNat < 1 ∨ 5 < u.toNat))
    (ht : t.2.2 = 0 → (u.toNat = 5 ∧ t.1 = [] ∧ rest = t.2.1) ∨ (u.toNat ≠ 5 ∧ rest = leS (UInt64.ofNat t.1.length) 2 ++ t.1 ++ t.2.1)) :
    FormR (u :: rest) (decOp (u :: rest).length u.toNat t) := by
  by_cases hf : t.2.2 = 0
  case neg => unfold decOp; rw [if_pos hf]; exact .inl ⟨rfl, fault_two _ hf⟩
  have h := ht hf
  have hb8 := b8_u u
  unfold decOp
  rw [if_neg (by omega)]
  by_cases o1 : u.toNat = 1
  · rw [if_pos o1]
    simp only
    rcases h with ⟨h5, _⟩ | ⟨_, hr⟩
    · omega
    by_cases hP : (takePolS t.2.1 t.2.2).2.1 = 0
    · rw [if_neg (by omega)]
      obtain ⟨_, hs, hf2, hrest⟩ := takePolS_inv _ _ hP
      refine reqOr_form _ _ _ _ _ fun _ hnil hn => ?_
      refine encS_ok _ _ ?_ ?_ hn
      · unfold sayR; simp [hs]
      · unfold encBody
        rw [o1] at hb8
        simp only [show ((1 : Int) = 5) = False by decide, if_false, if_true]
        rw [hnil, List.append_nil] at hrest
        rw [show b8 1 = u from hb8, hr, ← hrest]
    · rw [if_pos hP]
      exact .inl ⟨rfl, by rcases takePolS_err t.2.1 t.2.2 with h | h | h; exact absurd h hP; exact .inl h; exact .inr h⟩
  rw [if_neg o1]
  by_cases o2 : u.toNat = 2
  · rw [if_pos o2]
    simp only
    rcases h with ⟨h5, _⟩ | ⟨_, hr⟩
    · omega
    refine reqOr_form _ _ _ _ _ fun hf2 hnil hn => ?_
    obtain ⟨_, hrest⟩ := fixedS_inv t.2.1 t.2.2 8 (by decide) hf2
    refine encS_ok _ _ ?_ ?_ hn
    · unfold sayR; simp
    · unfold encBody
      rw [o2] at hb8
      simp only [show ((2 : Int) = 5) = False by decide, show ((2 : Int) = 1) = False by decide, if_false, if_true]
      rw [show b8 2 = u from hb8, hr]
      rw [hnil, List.append_nil] at hrest
      rw [← hrest]
  rw [if_neg o2]
  refine reqOr_form _ _ _ _ _ fun hf2 hnil hn => ?_
  refine encS_ok _ _ ?_ ?_ hn
  · unfold sayR
    rcases h with ⟨h5, hk, _⟩ | ⟨h5, hr⟩
    · simp [hk, o1, o2]; omega
    · simp [o1, o2]; omega
  · unfold encBody
    simp only [hb8]
    have e1 : ¬ ((u.toNat : Int) = 1) := by omega
    have e2 : ¬ ((u.toNat : Int) = 2) := by omega
    rw [if_neg e1, if_neg e2, List.append_nil]
    rcases h with ⟨h5, hk, hr⟩ | ⟨h5, hr⟩
    · rw [if_pos (by omega), hr, hnil]
    · rw [if_neg (by omega), hr, hnil, List.append_nil]
theorem dec_form (b : List UInt8) : FormR b (decS b) := by
  rcases b with _ | ⟨u, rest⟩
  · exact .inl ⟨rfl, .inl rfl⟩
  unfold decS
  rw [fixedS_cons]
  unfold decQ
  rw [if_neg (by simp)]
  simp only [u8_64]
  by_cases h1 : u.toNat < 1 ∨ 5 < u.toNat
  · rw [if_pos h1]; exact .inl ⟨rfl, .inr rfl⟩
  rw [if_neg h1]
  refine decOp_form u rest _ h1 ?_
  by_cases o5 : u.toNat = 5
  · rw [if_pos o5]; exact fun _ => .inl ⟨o5, rfl, rfl⟩
  · rw [if_neg o5]
    intro hf
    obtain ⟨_, _, hr⟩ := textS_inv rest 0 hf
    exact .inr ⟨o5, hr⟩
end Go.Proofs.YtonfeppenhebjaaDoor

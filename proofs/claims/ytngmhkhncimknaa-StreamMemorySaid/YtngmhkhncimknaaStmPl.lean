/- Plain laws of cutting: bytes that come in pieces are cut as they are cut at once. No program here. -/
import Derived.Test.YtngmhkhncimknaaStmRun
namespace Go.Proofs.Ytngmhkhncimknaa
open Go
set_option linter.unusedVariables false
set_option linter.unusedSimpArgs false

theorem frOK_append {l m : List UInt8} (h : frOK l = false) : frOK (l ++ m) = false := by
  match l, h with
  | [], h => simp [frOK] at h
  | [x], h =>
    by_cases hx : x = 165
    · simp [frOK, hx] at h
    · simp [frOK, hx]
  | [x, a], h =>
    by_cases hx : x = 165
    · simp [frOK, hx] at h
    · simp [frOK, hx]
  | x :: a :: b :: r, h => simpa [frOK] using h
theorem frN_append {l m : List UInt8} (h : 0 < frN l) : frN (l ++ m) = frN l ∧ frOK (l ++ m) = frOK l := by
  match l, h with
  | x :: a :: b :: r, h => exact ⟨rfl, rfl⟩

/-- the cutting of bytes, and of more behind them -/
theorem cutS_append : ∀ (n : Nat) (l m : List UInt8), l.length = n → ((cutS l).2.2 = true → cutS (l ++ m) = ((cutS l).1, [], true)) ∧
    ((cutS l).2.2 = false → cutS (l ++ m) = ((cutS l).1 ++ (cutS ((cutS l).2.1 ++ m)).1, (cutS ((cutS l).2.1 ++ m)).2)) := by
  intro n
  induction n using Nat.strongRecOn with
  | _ n ih =>
    intro l m hl
    by_cases h1 : frOK l = true
    · by_cases h2 : frN l = 0 ∨ l.length < frN l
      · obtain ⟨e1, e2⟩ := cutS_rest h1 h2
        rw [e1, e2]
        exact ⟨fun h => (by cases h), fun _ => (by rw [List.nil_append])⟩
      · have h3 := cutS_more h1 (by omega) (by omega)
        have hf := frN_append (m := m) (show 0 < frN l by omega)
        have h5 : 3 < frN l ∧ frN l ≤ 259 := by rcases frN_zero_or h1 with h | h <;> omega
        have h4 := cutS_more (l := l ++ m) (hf.2.trans h1) (by omega) (by rw [hf.1]; simp; omega)
        have h6 := ih (l.drop (frN l)).length (by simp; omega) (l.drop (frN l)) m rfl
        rw [hf.1, List.take_append_of_le_length (by omega), List.drop_append_of_le_length (by omega)] at h4
        rw [h3.1, h3.2]
        have e : cutS (l ++ m) = ((cutS (l ++ m)).1, (cutS (l ++ m)).2) := rfl
        refine ⟨fun hb => ?_, fun hb => ?_⟩
        · have := h6.1 hb
          rw [e, h4.1, h4.2, this]
        · have := h6.2 hb
          rw [e, h4.1, h4.2, this]
          rfl
    · have h1' : frOK l = false := by simpa using h1
      obtain ⟨e1, e2⟩ := cutS_bad h1'
      obtain ⟨f1, f2⟩ := cutS_bad (frOK_append (m := m) h1')
      rw [e1, e2]
      exact ⟨fun _ => Prod.ext f1 f2, fun h => by cases h⟩

/-- one piece -/
def fed1 (st : List UInt8 × Bool) (lb : List UInt8) : List (List UInt8) × List UInt8 × Bool := if st.2 then ([], st.1, true) else cutS (st.1 ++ lb)
theorem fed_eq {hv : List UInt8} {bad : Bool} {lb : List UInt8} {ps : List (List UInt8)} {hv' : List UInt8} {bad' : Bool} (h : Fed hv bad lb ps hv' bad') : (ps, hv', bad') = fed1 (hv, bad) lb := by
  rcases h with ⟨rfl, h⟩ | ⟨rfl, rfl, rfl, rfl⟩
  · simp [fed1, h]
  · simp [fed1]
/-- pieces one behind the other -/
def runS (st : List UInt8 × Bool) : List (List UInt8) → List (List UInt8) × List UInt8 × Bool
  | [] => ([], st.1, st.2)
  | lb :: r => ((fed1 st lb).1 ++ (runS (fed1 st lb).2 r).1, (runS (fed1 st lb).2 r).2)
theorem runS_snoc (lb : List UInt8) : ∀ (ls : List (List UInt8)) (st : List UInt8 × Bool), runS st (ls ++ [lb]) = ((runS st ls).1 ++ (fed1 (runS st ls).2 lb).1, (fed1 (runS st ls).2 lb).2)
  | [], st => by simp [runS]
  | x :: r, st => by simp [runS, runS_snoc lb r, List.append_assoc]

theorem cutS_nil : cutS [] = ([], [], false) := by
  have := cutS_rest (l := []) (by decide) (.inl (by decide))
  exact Prod.ext this.1 this.2

/-- pieces are cut as all of them at once -/
theorem runS_cut (ls : List (List UInt8)) : runS ([], false) ls = cutS ls.flatten := by
  have key : ∀ n (ls : List (List UInt8)), ls.length = n → runS ([], false) ls = cutS ls.flatten := by
    intro n
    induction n with
    | zero =>
      intro ls h
      obtain rfl := List.eq_nil_of_length_eq_zero h
      rw [List.flatten_nil, cutS_nil]; rfl
    | succ n ih =>
      intro ls h
      obtain ⟨r, x, rfl⟩ : ∃ r x, ls = r ++ [x] := ⟨ls.dropLast, ls.getLast (by intro e; simp [e] at h), (List.dropLast_concat_getLast _).symm⟩
      rw [runS_snoc, ih r (by simpa using h), List.flatten_append, List.flatten_cons, List.flatten_nil, List.append_nil]
      have ha := cutS_append _ r.flatten x rfl
      cases hb : (cutS r.flatten).2.2 with
      | true =>
        rw [ha.1 hb]
        have hs := (cutS_sum _ r.flatten rfl).2.2.1 hb
        have e : fed1 (cutS r.flatten).2 x = ([], (cutS r.flatten).2.1, true) := by simp [fed1, hb]
        rw [e, hs]
        simp
      | false =>
        rw [ha.2 hb]
        have e : fed1 (cutS r.flatten).2 x = cutS ((cutS r.flatten).2.1 ++ x) := by simp [fed1, hb]
        rw [e]
  exact key _ ls rfl

/-- how much there is at most -/
theorem runS_size (ls : List (List UInt8)) : (runS ([], false) ls).1.length ≤ ls.flatten.length ∧ (runS ([], false) ls).2.1.length ≤ 258 := by
  rw [runS_cut]
  have h := cutS_sum _ ls.flatten rfl
  refine ⟨?_, h.2.2.2.1⟩
  have h1 : ∀ ps : List (List UInt8), ps.length ≤ tot3 ps := by
    intro ps
    induction ps with
    | nil => simp [tot3]
    | cons p r ih => simp only [tot3, List.map_cons, List.sum_cons, List.length_cons] at ih ⊢; omega
  have := h1 (cutS ls.flatten).1
  omega
theorem flatten_totL (ls : List (List UInt8)) : ls.flatten.length = totL ls := by simp [totL, List.length_flatten]
end Go.Proofs.Ytngmhkhncimknaa

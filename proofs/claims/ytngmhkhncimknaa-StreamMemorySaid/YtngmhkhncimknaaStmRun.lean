/- From the walk of a law's body to its run; what Feed does; sums over rows of bytes. -/
import Derived.Test.YtngmhkhncimknaaStmAw2
namespace Go.Proofs.Ytngmhkhncimknaa
open Go Go.Conc Go.RowKit
set_option linter.unusedVariables false
set_option linter.unusedSimpArgs false

/-- THE RUN OF A LAW, out of the walk of its body -/
theorem runs_of_wpM {P : Program} {Post : Value → World → Prop} {f : FuncId} {fn : Func} {c : Code} (hf : P.funcs[f]? = some fn) (hb : fn.body = some c) (hres : fn.results.all isTmp = true) (hi : P.inits.idxOf? f = none)
    {args : Array Value} {w : World} (h : wpM P (XF P (XEnds P Post)) f c (bodyPostM P fn fun γ v w' => γ = none ∧ ∀ d, Post v (w'.at d)) none { tmps := args ++ Array.replicate (fn.ntmps - args.size) undef, defers := [] } w) :
    EndsRun P Post (solo (G (Frame.enter P f args .normal) []) w) #[] := by
  have KK := kitF (P := P) (X := XEnds P Post) XEnds.back XEnds.at_
  have hleave : ∀ (a' : Act) (w' : World) (todo : List Item), (a'.defers = [] ∧ ∃ v, ResultsC P fn a'.tmps v ∧ ∀ d, Post v (w'.at d)) → XEnds P Post (gor { (base f).at a' todo with mode := .returning } []) w' := by
    rintro a' w' todo ⟨hd, v, hr, hp⟩
    obtain ⟨v', hv'⟩ := results_pure hres a'.tmps
    have e : v' = v := by
      have := (hr w').1
      rw [hv'] at this
      simpa [Sem.run] using this
    subst e
    exact XEnds.returns (b := base f) rfl hf hi hd hv' hp
  have key : XEnds P Post (gor (Frame.enter P f args .normal) []) w := by
    rw [enter_at args hf hb]
    refine h (base f) [] [] rfl ⟨by simp [base], fun _ => rfl⟩ fun γ' e a' w' q => ?_
    cases e with
    | normal =>
      obtain ⟨hd, v, hr, rfl, hp⟩ := q
      exact KK.go (γ := none) rfl (fun w => stepG_end) (hleave a' w' [] ⟨hd, v, hr, hp⟩)
    | ret =>
      obtain ⟨hd, v, hr, rfl, hp⟩ := q
      exact fun todo => hleave a' w' todo ⟨hd, v, hr, hp⟩
    | exit id => exact q.elim
    | goto l => exact q.elim
    | panic ch => exact q.elim
    | outgrown => exact q.elim
  rw [solo_eq_crowd]
  exact key w.drawn _ none #[] (fun _ => 0) rfl (leavers_one P _) ⟨0, past_nil⟩

/-- what Feed does -/
def Fed (hv : List UInt8) (bad : Bool) (lb : List UInt8) (ps : List (List UInt8)) (hv' : List UInt8) (bad' : Bool) : Prop :=
  (bad = false ∧ cutS (hv ++ lb) = (ps, hv', bad')) ∨ (bad = true ∧ ps = [] ∧ hv' = hv ∧ bad' = true)

theorem RowsB.row2 {w : World} {A : Option Addr} {ls : List (List UInt8)} (h : RowsB w A ls) (k : Nat) (hk : k < ls.length) :
    ∃ b o, A = some ⟨b, o, none⟩ ∧ ∃ A' c', (ls[k].length ≤ c' ∧ c' ≤ 9223372036854775807) ∧ w.cell? ⟨b, o + k, none⟩ = some (.slice A' ls[k].length c') ∧ Cells w A' (Bs ls[k]) := by
  obtain ⟨vs, hl, hc, hr⟩ := h
  obtain ⟨b, o, ha, hc⟩ := hc (by omega)
  obtain ⟨A', c', hv, h1, h2, h3⟩ := hr k (by omega) hk
  exact ⟨b, o, ha, A', c', ⟨h1, h2⟩, by rw [hc k (by omega), hv], h3⟩

theorem feed_any {Post : Value → World → Prop} {w0 w : World} {sp : Nat} {hv : List UInt8} {bad : Bool} {v : Value} {A0 : Option Addr} {ps0 : List (List UInt8)} (hF : LP w0 sp hv bad v A0 ps0 w) (Ab : Option Addr) (cb : Nat) (lb : List UInt8) (hAb : Cells w Ab (Bs lb)) (hcb : lb.length ≤ cb ∧ cb ≤ 9223372036854775807) (hlen : hv.length + lb.length ≤ 1000000000) :
    callM Try.prog (XF Try.prog (XEnds Try.prog Post)) 11 #[.pointer (some ⟨sp, 0, none⟩), .slice Ab lb.length cb] (fun γ r w' => γ = none ∧ ∃ PA pc ps hv' bad' rA rc, r = .tuple #[.slice PA ps.length pc, .bool bad'] ∧ Fed hv bad lb ps hv' bad' ∧ ps.length ≤ pc ∧ pc ≤ 9223372036854775807 ∧ LP w0 sp hv' bad' (.slice rA hv'.length rc) PA ps w') none w := by
  cases bad with
  | false =>
    refine callM_mono (feed_good Ab cb lb w hF.law.spl hAb hcb hlen) ?_
    rintro γ r w' ⟨rfl, hR⟩
    obtain ⟨PA, pc, rv, rfl, h1, h2, hrows, hlaw⟩ := hF.law.fed hR
    obtain ⟨rA, rc, rfl⟩ := hlaw.slice
    exact ⟨rfl, PA, pc, _, _, _, rA, rc, rfl, .inl ⟨rfl, rfl⟩, h1, h2, hlaw, hrows⟩
  | true =>
    refine callM_mono (feed_bad _ w hF.law.spl.blk) ?_
    rintro γ r w' ⟨rfl, rfl, hB⟩
    obtain ⟨rA, rc, e⟩ := hF.law.slice
    subst e
    exact ⟨rfl, none, 0, [], hv, true, rA, rc, rfl, .inr ⟨rfl, rfl, rfl, rfl⟩, Nat.le_refl _, by decide, hF.law.next hB, ⟨[], rfl, fun h => absurd h (by simp), fun i h => absurd h (by simp)⟩⟩

/-! ### plain -/
def tot3 (ps : List (List UInt8)) : Nat := (ps.map fun p => p.length + 3).sum
theorem tot3_take (ls : List (List UInt8)) (k : Nat) (hk : k < ls.length) : tot3 (ls.take (k + 1)) = tot3 (ls.take k) + (ls[k].length + 3) := by
  unfold tot3
  rw [← List.take_append_getElem hk, List.map_append, List.sum_append]
  simp
theorem tot3_mono (ls : List (List UInt8)) (k : Nat) : tot3 (ls.take k) ≤ tot3 ls := by
  have h : tot3 ls = tot3 (ls.take k) + tot3 (ls.drop k) := by
    unfold tot3
    rw [← List.sum_append, ← List.map_append, List.take_append_drop]
  omega
def totL (ps : List (List UInt8)) : Nat := (ps.map fun p => p.length).sum
theorem totL_take (ls : List (List UInt8)) (k : Nat) (hk : k < ls.length) : totL (ls.take (k + 1)) = totL (ls.take k) + ls[k].length := by
  unfold totL
  rw [← List.take_append_getElem hk, List.map_append, List.sum_append]
  simp
theorem totL_le (ls : List (List UInt8)) : totL ls ≤ tot1 ls := by
  unfold totL tot1
  induction ls with
  | nil => simp
  | cons a r ih => simp only [List.map_cons, List.sum_cons]; omega
theorem totL_mono (ls : List (List UInt8)) (k : Nat) : totL (ls.take k) ≤ totL ls := by
  have h : totL ls = totL (ls.take k) + totL (ls.drop k) := by
    unfold totL
    rw [← List.sum_append, ← List.map_append, List.take_append_drop]
  omega
theorem cutS_sum : ∀ (n : Nat) (l : List UInt8), l.length = n → tot3 (cutS l).1 + (cutS l).2.1.length ≤ l.length ∧ ((cutS l).2.2 = false → tot3 (cutS l).1 + (cutS l).2.1.length = l.length) ∧ ((cutS l).2.2 = true → (cutS l).2.1 = []) ∧ (cutS l).2.1.length ≤ 258 ∧ ∀ p ∈ (cutS l).1, 1 ≤ p.length ∧ p.length ≤ 256 := by
  intro n
  induction n using Nat.strongRecOn with
  | _ n ih =>
    intro l hl
    by_cases h1 : frOK l = true
    · by_cases h2 : frN l = 0 ∨ l.length < frN l
      · obtain ⟨e1, e2⟩ := cutS_rest h1 h2
        rw [e1, e2]
        have hb : l.length ≤ 258 := by
          rcases frN_zero_or h1 with h | h
          · match l, h1, h with
            | [], _, _ => simp
            | [_], _, _ => simp
            | [_, _], _, _ => simp
            | x :: a :: b :: r, h1, h =>
              by_cases hx : x = 165
              · subst hx; simp [frN] at h
              · simp [frOK, hx] at h1
          · omega
        exact ⟨by simp [tot3], by simp [tot3], by simp, hb, by simp⟩
      · have h3 := cutS_more h1 (by omega) (by omega)
        have h5 : 3 < frN l ∧ frN l ≤ 259 := by rcases frN_zero_or h1 with h | h <;> omega
        have h4 := ih (l.drop (frN l)).length (by simp; omega) (l.drop (frN l)) rfl
        rw [h3.1, h3.2]
        simp only [List.length_drop] at h4
        have hp : ((l.take (frN l)).drop 3).length = frN l - 3 := by simp; omega
        refine ⟨?_, fun hb => ?_, h4.2.2.1, h4.2.2.2.1, fun p hp' => ?_⟩
        · simp only [tot3, List.map_cons, List.sum_cons] at h4 ⊢
          rw [hp]; omega
        · have := h4.2.1 hb
          simp only [tot3, List.map_cons, List.sum_cons] at this ⊢
          rw [hp]; omega
        · rcases List.mem_cons.1 hp' with rfl | hp'
          · rw [hp]; omega
          · exact h4.2.2.2.2 p hp'
    · obtain ⟨e1, e2⟩ := cutS_bad (l := l) (by simpa using h1)
      rw [e1, e2]
      simp [tot3]
end Go.Proofs.Ytngmhkhncimknaa

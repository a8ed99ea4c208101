/- strings.Trim of zeros; slices.Contains of whole numbers. -/
import Derived.Test.YtipjdkdonmoojaaDoorBlkW
import Derived.Test.YtipjdkdonmoojaaDoorDPuts
import Derived.WalkSpells
namespace Go.Proofs.YtipjdkdonmoojaaDoor
open Go Go.RowKit
set_option linter.unusedVariables false
set_option linter.unusedSimpArgs false
attribute [local go_sem] beq_n8 bne_n8 str_at

theorem str_list (s : ByteArray) : s = ⟨s.data.toList.toArray⟩ := by
  cases s
  simp
theorem ext_take (m : List UInt8) (k : Nat) : (⟨m.toArray⟩ : ByteArray).extract 0 k = ⟨(m.take k).toArray⟩ := by
  have h := Go.Lib.extract_data ⟨m.toArray⟩ 0 k
  rw [str_list ((⟨m.toArray⟩ : ByteArray).extract 0 k), h]
  simp
theorem ext_drop (m : List UInt8) (k : Nat) : (⟨m.toArray⟩ : ByteArray).extract k m.length = ⟨(m.drop k).toArray⟩ := by
  have h := Go.Lib.extract_data ⟨m.toArray⟩ k m.length
  rw [str_list ((⟨m.toArray⟩ : ByteArray).extract k m.length), h]
  simp only
  rw [List.take_of_length_le (by rw [List.length_drop]; omega)]

set_option maxRecDepth 100000 in
set_option maxHeartbeats 800000 in
theorem trimR_calls (l : List UInt8) (w : World) (hl : l.length ≤ 9223372036854775807) :
    Calls Tryd.prog 52 #[.string ⟨l.toArray⟩, .int .u8 (n8 0)] w fun e w' => (∃ q, e = .returned (.string ⟨(q : List UInt8).toArray⟩) ∧ (∃ z, l = q ++ List.replicate z 0)) ∧ w' = w := by
  go_enter Tryd.func52, Tryd.ntmps52
  go_wp2
  go_loop [0] (fun v => ∃ m : List UInt8, v = .string ⟨m.toArray⟩ ∧ m.length ≤ 9223372036854775807 ∧ Hid (∃ z, l = m ++ List.replicate z 0)) (fun v => match v with | .string s => s.size | _ => 0)
  case atStart => exact ⟨l, rfl, hl, 0, by simp⟩
  case round =>
    obtain ⟨m, rfl, hm, HZ⟩ := hrel
    by_cases h0 : m.length = 0
    · have := List.eq_nil_of_length_eq_zero h0
      subst this
      go_wp2
      go_ret
      exact ⟨⟨[], rfl, HZ.out⟩, rfl⟩
    · obtain ⟨n, hn⟩ : ∃ n, n = m.length - 1 := ⟨_, rfl⟩
      have hw : IntKind.i64.wrap ((m.length : Int) - 1) = (n : Int) := by rw [IntKind.wrap_i64]; omega
      have hnm : n < m.length := by omega
      have hni : (0 : Int) ≤ (n : Int) := Int.natCast_nonneg _
      have hnl : (n : Int) < (m.length : Int) := by omega
      have hpos : (0 : Int) < (m.length : Int) := by omega
      have HN := Go.Lib.hid hn
      clear hn h0
      by_cases hx : m[n] = 0
      · have d1 : (m[n] == 0) = true := by simpa using hx
        go_wp2
        go_round
        case rel =>
          refine ⟨m.take n, ?_, by rw [List.length_take]; omega, ?_⟩
          · rw [ext_take]
          · obtain ⟨z, hz⟩ := HZ.out
            refine ⟨z + 1, ?_⟩
            have h1 : m = m.take n ++ [0] := by
              have h2 := List.take_append_drop n m
              rw [List.drop_eq_getElem_cons hnm, hx, List.drop_eq_nil_of_le (by have := HN.out; omega)] at h2
              exact h2.symm
            rw [hz]
            conv => lhs; rw [h1]
            simp [List.replicate_succ]
        case measure => simp only [ext_take]; show (m.take n).length < m.length; rw [List.length_take]; omega
      · have d1 : (m[n] == 0) = false := by simpa using hx
        clear hx
        go_wp2
        go_ret
        exact ⟨⟨m, rfl, HZ.out⟩, rfl⟩

set_option maxRecDepth 100000 in
set_option maxHeartbeats 800000 in
theorem trimL_calls (l : List UInt8) (w : World) (hl : l.length ≤ 9223372036854775807) :
    Calls Tryd.prog 51 #[.string ⟨l.toArray⟩, .int .u8 (n8 0)] w fun e w' => (∃ q, e = .returned (.string ⟨(q : List UInt8).toArray⟩) ∧ (∃ z, l = List.replicate z 0 ++ q) ∧ q.head? ≠ some 0) ∧ w' = w := by
  go_enter Tryd.func51, Tryd.ntmps51
  go_wp2
  go_loop [0] (fun v => ∃ m : List UInt8, v = .string ⟨m.toArray⟩ ∧ m.length ≤ 9223372036854775807 ∧ Hid (∃ z, l = List.replicate z 0 ++ m)) (fun v => match v with | .string s => s.size | _ => 0)
  case atStart => exact ⟨l, rfl, hl, 0, by simp⟩
  case round =>
    obtain ⟨m, rfl, hm, HZ⟩ := hrel
    by_cases h0 : m.length = 0
    · have := List.eq_nil_of_length_eq_zero h0
      subst this
      go_wp2
      go_ret
      exact ⟨⟨[], rfl, HZ.out, by simp⟩, rfl⟩
    · have hnm : 0 < m.length := by omega
      have hpos : (0 : Int) < (m.length : Int) := by omega
      by_cases hx : m[0] = 0
      · have d1 : (m[0] == 0) = true := by simpa using hx
        go_wp2
        go_round
        case rel =>
          refine ⟨m.drop 1, ?_, by rw [List.length_drop]; omega, ?_⟩
          · first | rw [ext_drop] | rw [show (⟨m.toArray⟩ : ByteArray).size = m.length from rfl, ext_drop]
          · obtain ⟨z, hz⟩ := HZ.out
            refine ⟨z + 1, ?_⟩
            have h1 : m = 0 :: m.drop 1 := by
              have h2 := List.drop_eq_getElem_cons hnm
              rw [hx] at h2
              exact h2
            rw [hz]
            conv => lhs; rw [h1]
            rw [List.replicate_succ']
            simp
        case measure => first | (simp only [ext_drop]; show (m.drop 1).length < m.length; rw [List.length_drop]; omega) | (rw [show (⟨m.toArray⟩ : ByteArray).size = m.length from rfl, ext_drop]; show (m.drop 1).length < m.length; rw [List.length_drop]; omega)
      · have d1 : (m[0] == 0) = false := by simpa using hx
        have HX := Go.Lib.hid hx
        clear hx
        go_wp2
        go_ret
        refine ⟨⟨m, rfl, HZ.out, ?_⟩, rfl⟩
        rw [List.head?_eq_getElem?, List.getElem?_eq_getElem hnm]
        intro h
        exact HX.out (Option.some.inj h)

/-- what is left of a text when the zeros at both ends are struck: nothing, if it is of zeros alone -/
def TrimG (l : List UInt8) (e : Ending) : Prop := (l.all (· == 0) = true ∧ e = .returned (.string ⟨#[]⟩)) ∨ (l.all (· == 0) = false ∧ ∃ x t, e = .returned (.string ⟨((x :: t : List UInt8)).toArray⟩))
theorem trimG_of {l q r : List UInt8} {z y : Nat} (h1 : l = q ++ List.replicate z 0) (h2 : q = List.replicate y 0 ++ r) (h3 : r.head? ≠ some 0) : TrimG l (.returned (.string ⟨r.toArray⟩)) := by
  cases r with
  | nil => refine .inl ⟨?_, rfl⟩; rw [h1, h2]; simp
  | cons x t =>
    refine .inr ⟨?_, x, t, rfl⟩
    have hx : x ≠ 0 := fun h => h3 (by rw [h]; rfl)
    rw [h1, h2, List.all_eq_false]
    exact ⟨x, by simp, by simpa using hx⟩

set_option maxRecDepth 100000 in
set_option maxHeartbeats 800000 in
theorem trim_calls (l : List UInt8) (w : World) (hl : l.length ≤ 9223372036854775807) :
    Calls Tryd.prog 38 #[.string ⟨l.toArray⟩, .string ⟨#[0]⟩] w fun e w' => TrimG l e ∧ Below w.heap.size w w' := by
  by_cases h0 : l.length = 0
  · have := List.eq_nil_of_length_eq_zero h0
    subst this
    go_enter Tryd.func38, Tryd.ntmps38
    go_wp2
    go_ret
    exact ⟨.inl ⟨rfl, rfl⟩, Below.refl _ _⟩
  · have hne : l.isEmpty = false := by cases l with | nil => exact absurd rfl h0 | cons a t => rfl
    have hne2 : (l == []) = false := by cases l with | nil => exact absurd rfl h0 | cons a t => rfl
    go_enter Tryd.func38, Tryd.ntmps38
    go_wp2
    go_region_with (first
      | (go_at_call 52; (with_reducible refine (trimR_calls l _ hl).mono ?_); rintro e w1 ⟨⟨q, rfl, hq⟩, rfl⟩; have HQ := Go.Lib.hid hq; have hql : q.length ≤ 9223372036854775807 := (by obtain ⟨z, hz⟩ := HQ.out; have h1 := congrArg List.length hz; rw [List.length_append] at h1; omega); clear hq)
      | (go_at_call 51; (with_reducible refine (trimL_calls q _ hql).mono ?_); rintro e w2 ⟨⟨r, rfl, hr, hr0⟩, rfl⟩; have HR := Go.Lib.hid hr; have HR0 := Go.Lib.hid hr0; clear hr hr0)
      | fail)
    all_goals
      go_wp2
      go_ret
      obtain ⟨z, hz⟩ := HQ.out
      obtain ⟨y, hy⟩ := HR.out
      exact ⟨trimG_of hz hy HR0.out, by first | exact (Below.refl _ _).drew | exact Below.refl _ _⟩

def IdxG (l : List Int) (x : Int) (e : Ending) : Prop := ∃ z, e = .returned (.int .i64 z) ∧ decide (0 ≤ z) = l.contains x
theorem Ints_length (l : List Int) : (l.map (Value.int .i64)).length = l.length := by simp
set_option maxRecDepth 100000 in
set_option maxHeartbeats 800000 in
theorem index_calls (A : Option Addr) (c : Nat) (l : List Int) (x : Int) (w : World) (hl : l.length ≤ 9223372036854775807) (hA : Cells w A (l.map (Value.int .i64))) :
    Calls Tryd.prog 58 #[.slice A l.length c, .int .i64 x] w fun e w' => IdxG l x e ∧ w' = w := by
  have HA := Go.Lib.hid hA
  clear hA
  go_enter Tryd.func58, Tryd.ntmps58
  go_wp2
  go_loop [8] (fun i => ∃ k : Nat, k ≤ l.length ∧ i = .int .i64 (k : Int) ∧ Hid (∀ j, (h : j < l.length) → j < k → l[j] ≠ x)) (fun i => l.length - (intOf i).toNat)
  case atStart => exact ⟨0, Nat.zero_le _, rfl, fun j _ h => absurd h (by omega)⟩
  case round =>
    obtain ⟨k, hk, rfl, HN⟩ := hrel
    by_cases hlt : k < l.length
    · obtain ⟨b, o, hAe, hc⟩ := HA.out (by rw [Ints_length]; omega)
      have hck : w.cell? ⟨b, o + k, none⟩ = some (.int .i64 l[k]) := by
        rw [hc k (by rw [Ints_length]; exact hlt)]
        simp
      have hk0 : (0 : Int) ≤ (k : Int) := Int.natCast_nonneg _
      have hk1 : (k : Int) < (l.length : Int) := by omega
      subst hAe
      clear hc
      by_cases hx : l[k] = x
      · have HX := Go.Lib.hid (show l.contains x = true by rw [List.contains_iff_mem]; exact hx ▸ List.getElem_mem hlt)
        have d1 : (x == l[k]) = true := by rw [hx]; simp
        generalize l[k] = y at *
        clear hx
        go_wp2
        go_ret
        exact ⟨⟨(k : Int), rfl, by rw [HX.out]; exact decide_eq_true (by omega)⟩, rfl⟩
      · have HNX : Hid (∀ j, (h : j < l.length) → j < k + 1 → l[j] ≠ x) := fun j h1 h2 => by
          rcases Nat.lt_or_ge j k with h | h
          · exact HN.out j h1 h
          · obtain rfl : j = k := by omega
            exact hx
        have d1 : (x == l[k]) = false := by rw [beq_eq_false_iff_ne]; exact fun h => hx h.symm
        clear HN hx
        generalize l[k] = y at *
        go_wp2
        go_round
        case rel => exact ⟨k + 1, by omega, by go_num, HNX⟩
        case measure => simp [intOf]; omega
    · have HX := Go.Lib.hid (show l.contains x = false by
        rw [Bool.eq_false_iff]
        intro h
        rw [List.contains_iff_mem] at h
        obtain ⟨j, hj, he⟩ := List.getElem_of_mem h
        exact HN.out j hj (by omega) he)
      go_wp2
      go_ret
      exact ⟨⟨-1, rfl, by rw [HX.out]; rfl⟩, rfl⟩
theorem contains_calls (A : Option Addr) (c : Nat) (l : List Int) (x : Int) (w : World) (hl : l.length ≤ 9223372036854775807) (hA : Cells w A (l.map (Value.int .i64))) :
    Calls Tryd.prog 39 #[.slice A l.length c, .int .i64 x] w fun e w' => e = .returned (.bool (l.contains x)) ∧ w' = w := by
  have HC := Go.Lib.hid (index_calls A c l x w hl hA)
  clear hA
  go_enter Tryd.func39, Tryd.ntmps39
  go_wp2_with fail
  refine HC.out.mono ?_
  rintro e w1 ⟨⟨z, rfl, hd⟩, rfl⟩
  have HD := Go.Lib.hid hd
  clear hd
  go_wp2
  go_ret
  exact ⟨by rw [← HD.out]; rfl, rfl⟩
end Go.Proofs.YtipjdkdonmoojaaDoor

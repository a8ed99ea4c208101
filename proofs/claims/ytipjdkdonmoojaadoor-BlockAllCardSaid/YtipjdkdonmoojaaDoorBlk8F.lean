/- Package turnstileref08: Decode. -/
import Derived.Test.YtipjdkdonmoojaaDoorBlk8D
namespace Go.Proofs.YtipjdkdonmoojaaDoor
open Go Go.RowKit
set_option linter.unusedVariables false
set_option linter.unusedSimpArgs false
attribute [local go_sem] IntKind.wrap_u64 c64_8 c8_64 c32_64 c64_32 n64_self n8_self n32_self beq_n64 beq_n8 bne_n8 bne_n64

def GaveD8 (w w' : World) (e : Ending) (d : UInt64 × List (List UInt8) × Nat) : Prop :=
  ∃ v vs, e = .returned (.tuple #[.int .u64 (n64 d.1), v, .int .i64 (d.2.2 : Int)]) ∧ Own w' w.heap.size 28 v vs ∧ AllT w' vs d.2.1 ∧ Below w.heap.size w w'
theorem gaveD8_bad {w w' : World} (k : Nat) (h : Below w.heap.size w w') : GaveD8 w w' (.returned (.tuple #[.int .u64 0, .slice none 0 0, .int .i64 (k : Int)])) (0, [], k) :=
  ⟨_, [], rfl, World.ownsRow_nil _ _ _ 1, allT_nil _, h⟩
theorem told_iff (l : List UInt8) (hl : l.length ≤ 4) (s : UInt32) : (leV l).toUInt32 = s ↔ leV l = s.toUInt64 := by
  have h := leV_bound l (by omega)
  have h2 : (leV l).toNat < 2 ^ 32 := Nat.lt_of_lt_of_le h (Nat.pow_le_pow_right (by decide) (by omega))
  have hs := s.toNat_lt
  constructor
  · intro h
    apply UInt64.toNat_inj.1
    rw [← h]
    simp
    omega
  · intro h
    rw [h]
    simp
theorem take4_eq {b : List UInt8} (h : 4 ≤ b.length) : b.take 4 = [b[0], b[1], b[2], b[3]] := by
  apply List.ext_getElem
  · simp; omega
  · intro i h1 h2
    rw [List.getElem_take]
    have : i < 4 := by simpa using h2
    match i with
    | 0 => rfl
    | 1 => rfl
    | 2 => rfl
    | 3 => rfl
    | n + 4 => omega
theorem u8_lit (x : UInt8) (k : UInt8) : (n8 x == n8 k) = (x == k) := beq_n8 x k

set_option maxRecDepth 100000 in
set_option maxHeartbeats 1600000 in
theorem decode8_len (A : Option Addr) (c : Nat) (b : List UInt8) (w : World) (hl : b.length ≠ 512) :
    Calls Tryd.prog 23 #[.slice A b.length c] w fun e w' => GaveD8 w w' e (decB b) := by
  by_cases h1 : b.length < 512
  · have hd : decB b = (0, [], 2) := by unfold decB; rw [if_pos h1]
    rw [hd]
    have d1 : decide ((b.length : Int) < 512) = true := decide_eq_true (by omega)
    have d2 : decide (b.length < 512) = true := decide_eq_true h1
    clear hd
    generalize b.length = n at *
    go_enter Tryd.func23, Tryd.ntmps23
    go_wp2
    go_ret3
    exact gaveD8_bad 2 (Below.refl _ _)
  · have hd : decB b = (0, [], 3) := by unfold decB; rw [if_neg h1, if_pos (.inl (by omega))]
    rw [hd]
    have d1 : decide ((b.length : Int) < 512) = false := decide_eq_false (by omega)
    have d2 : decide (b.length < 512) = false := decide_eq_false h1
    have d3 : decide ((512 : Int) < (b.length : Int)) = true := decide_eq_true (by omega)
    have d4 : decide (512 < b.length) = true := decide_eq_true (by omega)
    clear hd
    generalize b.length = n at *
    go_enter Tryd.func23, Tryd.ntmps23
    go_wp2
    go_ret3
    exact gaveD8_bad 3 (Below.refl _ _)

set_option maxRecDepth 100000 in
set_option maxHeartbeats 3200000 in
theorem decode8_magic (A : Option Addr) (c : Nat) (b : List UInt8) (w : World) (hl : b.length = 512) (hm : b.take 4 ≠ magicB) (hA : Cells w A (Bs b)) :
    Calls Tryd.prog 23 #[.slice A 512 c] w fun e w' => GaveD8 w w' e (decB b) := by
  have hd : decB b = (0, [], 3) := by unfold decB; rw [if_neg (by omega), if_pos (.inr hm)]
  rw [hd]
  rw [take4_eq (by omega)] at hm
  obtain ⟨bb, o, rfl, c0⟩ := hA.byte 0 (by omega)
  obtain ⟨bb1, o1, h1, c1⟩ := hA.byte 1 (by omega)
  obtain ⟨bb2, o2, h2, c2⟩ := hA.byte 2 (by omega)
  obtain ⟨bb3, o3, h3, c3⟩ := hA.byte 3 (by omega)
  cases h1; cases h2; cases h3
  rw [Nat.add_zero] at c0
  generalize b[0] = x0 at *
  generalize b[1] = x1 at *
  generalize b[2] = x2 at *
  generalize b[3] = x3 at *
  have q0 : (n8 x0 == 84) = (x0 == 84) := u8_lit x0 84
  have q1 : (n8 x1 == 66) = (x1 == 66) := u8_lit x1 66
  have q2 : (n8 x2 == 48) = (x2 == 48) := u8_lit x2 48
  have q3 : (n8 x3 == 49) = (x3 == 49) := u8_lit x3 49
  clear hd hA hl
  cases g0 : (x0 == 84)
  case false =>
    have g : (n8 x0 != 84) = true := by unfold bne; rw [q0, g0]; rfl
    clear q0 q1 q2 q3 hm
    go_enter Tryd.func23, Tryd.ntmps23
    go_wp2
    go_ret3
    exact gaveD8_bad 3 (Below.refl _ _)
  have f0 : (n8 x0 != 84) = false := by unfold bne; rw [q0, g0]; rfl
  cases g1 : (x1 == 66)
  case false =>
    have g : (n8 x1 != 66) = true := by unfold bne; rw [q1, g1]; rfl
    clear q0 q1 q2 q3 hm
    go_enter Tryd.func23, Tryd.ntmps23
    go_wp2
    go_ret3
    exact gaveD8_bad 3 (Below.refl _ _)
  have f1 : (n8 x1 != 66) = false := by unfold bne; rw [q1, g1]; rfl
  cases g2 : (x2 == 48)
  case false =>
    have g : (n8 x2 != 48) = true := by unfold bne; rw [q2, g2]; rfl
    clear q0 q1 q2 q3 hm
    go_enter Tryd.func23, Tryd.ntmps23
    go_wp2
    go_ret3
    exact gaveD8_bad 3 (Below.refl _ _)
  have f2 : (n8 x2 != 48) = false := by unfold bne; rw [q2, g2]; rfl
  cases g3 : (x3 == 49)
  case false =>
    have g : (n8 x3 != 49) = true := by unfold bne; rw [q3, g3]; rfl
    clear q0 q1 q2 q3 hm
    go_enter Tryd.func23, Tryd.ntmps23
    go_wp2
    go_ret3
    exact gaveD8_bad 3 (Below.refl _ _)
  exfalso
  refine hm ?_
  rw [beq_iff_eq.1 g0, beq_iff_eq.1 g1, beq_iff_eq.1 g2, beq_iff_eq.1 g3]
  rfl

set_option maxRecDepth 100000 in
set_option maxHeartbeats 3200000 in
theorem decode8_main (A : Option Addr) (c : Nat) (b : List UInt8) (w : World) (hl : b.length = 512) (hc : 512 ≤ c) (hc2 : c ≤ 9223372036854775807) (hm : b.take 4 = magicB) (hA : Cells w A (Bs b)) :
    Calls Tryd.prog 23 #[.slice A 512 c] w fun e w' => GaveD8 w w' e (decB b) := by
  have hdd : decB b = (if leV ((b.drop 14).take 4) ≠ (sumB (b.take 14) (b.drop 18)).toUInt64 then (0, [], 5) else if countB b = 0 ∨ numOK (leV ((b.drop 4).take 8)) (countB b) = false then (0, [], 3) else match insB (countB b) (b.drop 18) with | none => (0, [], 3) | some l => (leV ((b.drop 4).take 8), l, 0)) := by
    have ht := told_iff ((b.drop 14).take 4) (by rw [List.length_take]; omega) (sumB (b.take 14) (b.drop 18))
    have hins : insB (countB b) (b.drop 18) = match takeRecs (countB b) (b.drop 18) with | none => none | some (l, q) => if q.all (· == 0) = true then some l else none := rfl
    unfold decB
    rw [if_neg (by omega), if_neg (by rw [hm, hl]; simp), hins]
    by_cases h1 : toldB b = sumB (b.take 14) (b.drop 18)
    · have h2 : ¬ (leV ((b.drop 14).take 4) ≠ (sumB (b.take 14) (b.drop 18)).toUInt64) := fun h => h (ht.1 h1)
      rw [if_neg (fun h => h h1), if_neg h2]
      unfold firstB
      by_cases h3 : countB b = 0 ∨ numOK (leV ((b.drop 4).take 8)) (countB b) = false
      · rw [if_pos h3, if_pos h3]
      · rw [if_neg h3, if_neg h3]
        cases takeRecs (countB b) (b.drop 18) with
        | none => rfl
        | some x =>
          obtain ⟨l, q⟩ := x
          simp only
          by_cases h4 : q.all (· == 0) = true
          · rw [if_pos h4, if_pos h4]
          · rw [if_neg h4, if_neg h4]
    · rw [if_pos h1, if_pos (fun h => h1 (ht.2 h))]
  rw [hdd]
  have HB0 : Hid (b.take 4 = [84, 66, 48, 49]) := hm
  have h4 := take4_eq (b := b) (by omega)
  rw [hm] at h4
  have e0 : b[0] = 84 := by have := congrArg (·[0]?) h4; simpa [magicB] using this.symm
  have e1 : b[1] = 66 := by have := congrArg (·[1]?) h4; simpa [magicB] using this.symm
  have e2 : b[2] = 48 := by have := congrArg (·[2]?) h4; simpa [magicB] using this.symm
  have e3 : b[3] = 49 := by have := congrArg (·[3]?) h4; simpa [magicB] using this.symm
  obtain ⟨bb, o, hAe, c0⟩ := hA.byte 0 (by omega)
  obtain ⟨bb1, o1, h1, c1⟩ := hA.byte 1 (by omega)
  obtain ⟨bb2, o2, h2, c2⟩ := hA.byte 2 (by omega)
  obtain ⟨bb3, o3, h3, c3⟩ := hA.byte 3 (by omega)
  rw [hAe] at h1 h2 h3
  cases h1; cases h2; cases h3
  rw [Nat.add_zero] at c0
  rw [e0] at c0
  rw [e1] at c1
  rw [e2] at c2
  rw [e3] at c3
  have z0 : n8 84 = 84 := rfl
  have z1 : n8 66 = 66 := rfl
  have z2 : n8 48 = 48 := rfl
  have z3 : n8 49 = 49 := rfl
  rw [z0] at c0
  rw [z1] at c1
  rw [z2] at c2
  rw [z3] at c3
  have HN : Hid (∀ (W : World) (a n : Nat), Below w.heap.size w W → 1 ≤ n → n ≤ 8 → a + n ≤ 512 → Calls Tryd.prog 44 #[.slice A 512 c, .int .i64 (a : Int), .int .i64 (n : Int)] W fun e w' => e = .returned (.int .u64 (n64 (leV ((b.drop a).take n)))) ∧ DrN W w') := fun W a n hW h1 h8 han => by
    have h := number8_calls A c b a n n a rfl rfl W h1 h8 (by omega) (by omega) (cells_below hW hA)
    rw [hl] at h
    exact h
  have HS : Hid (∀ (W : World), Below w.heap.size w W → Calls Tryd.prog 42 #[.slice A 512 c] W fun e w' => e = .returned (.int .u32 (n32 (sumB (b.take 14) (b.drop 18)))) ∧ Below W.heap.size W w') := fun W hW => summed8_calls A c b W hl hc hc2 (cells_below hW hA)
  have hcl : countB b ≤ 65535 := by have := count_lt b hl; unfold countB; omega
  have HI : Hid (∀ (W : World), Below w.heap.size w W → Calls Tryd.prog 45 #[.slice A 512 c, .int .i64 (countB b : Int)] W fun e w' => GaveI W w' e (insB (countB b) (b.drop 18))) := fun W hW => inside8_calls A c b (countB b) W hl hc hc2 hcl (cells_below hW hA)
  have hci : IntKind.i64.wrap (n64 (leV ((b.drop 12).take 2))) = (countB b : Int) := by
    have h1 : n64 (leV ((b.drop 12).take 2)) = (countB b : Int) := rfl
    rw [h1, IntKind.wrap_i64]
    omega
  have HN14 := HN.out
  have H14 : Hid (∀ W, Below w.heap.size w W → Calls Tryd.prog 44 #[.slice A 512 c, .int .i64 14, .int .i64 4] W fun e w' => e = .returned (.int .u64 (n64 (leV ((b.drop 14).take 4)))) ∧ DrN W w') := fun W hW => HN.out W 14 4 hW (by omega) (by omega) (by omega)
  have H4 : Hid (∀ W, Below w.heap.size w W → Calls Tryd.prog 44 #[.slice A 512 c, .int .i64 4, .int .i64 8] W fun e w' => e = .returned (.int .u64 (n64 (leV ((b.drop 4).take 8)))) ∧ DrN W w') := fun W hW => HN.out W 4 8 hW (by omega) (by omega) (by omega)
  have H12 : Hid (∀ W, Below w.heap.size w W → Calls Tryd.prog 44 #[.slice A 512 c, .int .i64 12, .int .i64 2] W fun e w' => e = .returned (.int .u64 (n64 (leV ((b.drop 12).take 2)))) ∧ DrN W w') := fun W hW => HN.out W 12 2 hW (by omega) (by omega) (by omega)
  clear HN HN14 hdd hm HB0 h4 e0 e1 e2 e3 hA
  subst hAe
  generalize leV ((b.drop 14).take 4) = told at *
  generalize sumB (b.take 14) (b.drop 18) = su at *
  generalize leV ((b.drop 4).take 8) = first at *
  generalize leV ((b.drop 12).take 2) = cv at *
  generalize insB (countB b) (b.drop 18) = ins at *
  generalize countB b = n at *
  obtain ⟨ans, hans⟩ : ∃ ans, ans = (if told ≠ su.toUInt64 then ((0, [], 5) : UInt64 × List (List UInt8) × Nat) else if n = 0 ∨ numOK first n = false then (0, [], 3) else match ins with | none => (0, [], 3) | some l => (first, l, 0)) := ⟨_, rfl⟩
  rw [← hans]
  have HANS := Go.Lib.hid hans
  clear hans
  go_enter Tryd.func23, Tryd.ntmps23
  go_wp2_with fail
  refine (H14.out _ (Below.refl _ _)).mono ?_
  rintro e w1 ⟨rfl, hd1⟩
  have HB1 := Go.Lib.hid (drN_below hd1 w.heap.size)
  clear hd1 H14 c0 c1 c2 c3
  go_wp2_with fail
  refine (HS.out _ HB1.out).mono ?_
  rintro e w2 ⟨rfl, hb2⟩
  have HB2 := Go.Lib.hid (HB1.out.trans (hb2.mono HB1.out.size))
  clear hb2 HS HB1
  by_cases ht : told = su.toUInt64
  case neg =>
    have HE : Hid (ans = (0, [], 5)) := HANS.out.trans (if_pos ht)
    have g1 : (told == su.toUInt64) = false := beq_eq_false_iff_ne.2 ht
    have g : (told != su.toUInt64) = true := bne_iff_ne.2 ht
    go_wp2
    go_ret3
    rw [HE.out]
    exact gaveD8_bad 5 HB2.out
  have HE := Go.Lib.hid (HANS.out.trans (if_neg (fun h => h ht)))
  have g1 : (told == su.toUInt64) = true := beq_iff_eq.2 ht
  have g : (told != su.toUInt64) = false := by unfold bne; rw [g1]; rfl
  clear ht
  go_wp2_with fail
  refine (H4.out _ HB2.out).mono ?_
  rintro e w3 ⟨rfl, hd3⟩
  have HB3 := Go.Lib.hid (HB2.out.trans (drN_below hd3 w.heap.size))
  clear hd3 HB2 H4 g1 g
  go_wp2_with fail
  refine (H12.out _ HB3.out).mono ?_
  rintro e w4 ⟨rfl, hd4⟩
  have HB4 := Go.Lib.hid (HB3.out.trans (drN_below hd4 w.heap.size))
  clear hd4 HB3 H12
  by_cases hn0 : n = 0
  · have HE2 := Go.Lib.hid (HE.out.trans (if_pos (.inl hn0)))
    have g2 : ((n : Int) == 0) = true := by rw [hn0]; rfl
    clear hn0
    go_wp2
    go_ret3
    rw [HE2.out]
    exact gaveD8_bad 3 HB4.out
  have g2 : ((n : Int) == 0) = false := by rw [beq_eq_false_iff_ne]; omega
  have HM := Go.Lib.hid (numbered8_calls first n w4 (by omega) (by omega))
  cases hnum : numOK first n
  · have HE2 := Go.Lib.hid (HE.out.trans (if_pos (.inr hnum)))
    rw [hnum] at HM
    clear hnum
    go_wp2_with fail
    refine HM.out.mono ?_
    rintro e w5 ⟨rfl, rfl⟩
    go_wp2
    go_ret3
    rw [HE2.out]
    exact gaveD8_bad 3 HB4.out
  have HE2 := Go.Lib.hid (HE.out.trans (if_neg (by simp [hn0, hnum])))
  rw [hnum] at HM
  clear hnum
  go_wp2_with fail
  refine HM.out.mono ?_
  rintro e w5 ⟨rfl, rfl⟩
  go_wp2_with fail
  refine (HI.out _ HB4.out).mono ?_
  rintro e w6 hg
  obtain ⟨hg, hb6⟩ := hg
  have HB6 := Go.Lib.hid (HB4.out.trans (hb6.mono HB4.out.size))
  cases ins with
  | none =>
    simp only at hg
    subst hg
    clear hb6 HB4 HI HM
    go_wp2
    go_ret3
    rw [HE2.out]
    exact gaveD8_bad 3 HB6.out
  | some l =>
    obtain ⟨v, vs, rfl, ho, ha⟩ := hg
    have HO := Go.Lib.hid (own_mono ho HB4.out.size)
    have HAT := Go.Lib.hid ha
    clear hb6 HB4 HI HM ho ha
    go_wp2
    go_ret3
    rw [HE2.out]
    exact ⟨v, vs, rfl, HO.out, HAT.out, HB6.out⟩
theorem decode8_calls (A : Option Addr) (c : Nat) (b : List UInt8) (w : World) (hc : b.length ≤ c) (hc2 : c ≤ 9223372036854775807) (hA : Cells w A (Bs b)) :
    Calls Tryd.prog 23 #[.slice A b.length c] w fun e w' => GaveD8 w w' e (decB b) := by
  by_cases hl : b.length = 512
  · by_cases hm : b.take 4 = magicB
    · have h := decode8_main A c b w hl (by omega) hc2 hm hA
      rw [← hl] at h
      exact h
    · have h := decode8_magic A c b w hl hm hA
      rw [← hl] at h
      exact h
  · exact decode8_len A c b w hl
end Go.Proofs.YtipjdkdonmoojaaDoor

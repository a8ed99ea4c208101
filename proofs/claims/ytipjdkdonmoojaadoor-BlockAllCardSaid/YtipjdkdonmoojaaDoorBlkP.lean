/- Blocks, in plain Lean: a byte turned; packing and scanning. -/
import Derived.Test.YtipjdkdonmoojaaDoorBlkS
namespace Go.Proofs.YtipjdkdonmoojaaDoor
open Go Go.RowKit
set_option linter.unusedVariables false
set_option linter.unusedSimpArgs false

theorem sumB_flat (h r : List UInt8) : sumB h r = addR 0 (h ++ [0, 0, 0, 0] ++ r) := by
  unfold sumB
  rw [addS_eq, addS_eq, addS_eq, addR_addR, addR_addR, List.append_assoc]
theorem dec_bad {c : List UInt8} (hl : c.length = 512) (h : c.take 4 ≠ magicB ∨ toldB c ≠ sumB (c.take 14) (c.drop 18)) : decB c = (0, [], 3) ∨ decB c = (0, [], 5) := by
  unfold decB
  rw [if_neg (by omega)]
  by_cases hm : c.take 4 = magicB
  · rw [if_neg (by rw [hl, hm]; simp), if_pos (h.resolve_left (fun x => x hm))]
    exact .inr rfl
  · rw [if_pos (.inr hm)]
    exact .inl rfl
theorem set_split (l : List UInt8) (i : Nat) (y : UInt8) (hi : i < l.length) : l.set i y = l.take i ++ [y] ++ l.drop (i + 1) ∧ l = l.take i ++ [l[i]] ++ l.drop (i + 1) := by
  constructor
  · rw [List.set_eq_take_append_cons_drop, if_pos hi]; simp
  · simp
theorem sum_set (P L Q : List UInt8) (i : Nat) (y : UInt8) (hi : i < L.length) (hy : y ≠ L[i]) : addR 0 (P ++ L.set i y ++ Q) ≠ addR 0 (P ++ L ++ Q) := by
  obtain ⟨e1, e2⟩ := set_split L i y hi
  have h := turned (P ++ L.take i) [y] [L[i]] (L.drop (i + 1) ++ Q) rfl (by simp) (by simpa using hy)
  rw [e1]
  have e3 : P ++ L ++ Q = P ++ L.take i ++ [L[i]] ++ (L.drop (i + 1) ++ Q) := by
    have e4 : P ++ L ++ Q = P ++ (L.take i ++ [L[i]] ++ L.drop (i + 1)) ++ Q := by rw [← e2]
    rw [e4]
    simp only [List.append_assoc]
  rw [e3]
  simpa using h
/-- a block with one byte turned is taken by nobody -/
theorem dec_turned (first : UInt64) (rs : List (List UInt8)) (hl : longS rs = false) (i : Nat) (y : UInt8) (hi : i < (blockB first rs).length) (hy : y ≠ (blockB first rs)[i]) :
    decB ((blockB first rs).set i y) = (0, [], 3) ∨ decB ((blockB first rs).set i y) = (0, [], 5) := by
  obtain ⟨h200, h494⟩ := longS_false hl
  have hlen := blockB_length first rs h494
  have hR := restB_length rs h494
  have hH := headB_length first rs.length
  obtain ⟨S, hS⟩ : ∃ S, S = leS (sumB (headB first rs.length) (restB rs)).toUInt64 4 := ⟨_, rfl⟩
  have hSl : S.length = 4 := by rw [hS, leS_length]
  obtain ⟨p1, p2, p3⟩ := parts (headB first rs.length) S (restB rs) hH hSl
  obtain ⟨q1, _, _⟩ := head_parts first rs.length (S ++ restB rs)
  rw [← List.append_assoc] at q1
  have hb : blockB first rs = headB first rs.length ++ S ++ restB rs := by unfold blockB; rw [hS]
  have htold : toldB (blockB first rs) = sumB (headB first rs.length) (restB rs) := by unfold toldB; rw [hb, p2, hS, leV4]
  rw [← hb] at p1 p2 p3 q1
  apply dec_bad (by rw [List.length_set]; exact hlen)
  rw [hlen] at hi
  by_cases h4 : i < 4
  · refine .inl ?_
    rw [List.take_set, q1]
    intro he
    have e1 : (magicB.set i y)[i]'(by rw [List.length_set]; exact h4) = y := by simp
    have e2 : magicB[i]'h4 = (blockB first rs)[i] := by
      have : (blockB first rs).take 4 = magicB := q1
      simp only [← this, List.getElem_take]
    apply hy
    rw [← e1, ← e2]
    exact getElem_congr_coll he
  refine .inr ?_
  by_cases h14 : i < 14
  · have t1 : toldB ((blockB first rs).set i y) = toldB (blockB first rs) := by
      unfold toldB
      rw [List.drop_set, if_pos h14]
    rw [t1, htold, List.take_set, p1, List.drop_set, if_pos (by omega), p3, sumB_flat, sumB_flat]
    have := sum_set [] (headB first rs.length) ([0, 0, 0, 0] ++ restB rs) i y (by omega) (by
      intro he
      apply hy
      rw [he]
      have : (blockB first rs).take 14 = headB first rs.length := p1
      simp only [← this, List.getElem_take])
    intro he
    apply this
    simpa using he.symm
  · by_cases h18 : i < 18
    · have hne : ((blockB first rs).set i y).drop 14 |>.take 4 |> (· ≠ ((blockB first rs).drop 14).take 4) := by
        show (((blockB first rs).set i y).drop 14).take 4 ≠ _
        rw [List.drop_set, if_neg h14, List.take_set, p2]
        intro he
        apply hy
        have e1 : (S.set (i - 14) y)[i - 14]'(by rw [List.length_set]; omega) = y := by simp
        have e2 : S[i - 14]'(by omega) = (blockB first rs)[i] := by
          have hz := p2
          simp only [← hz, List.getElem_take, List.getElem_drop]
          congr 1
          omega
        rw [← e1, ← e2]
        simp only [he]
      rw [List.take_set, p1, List.drop_set, if_pos h18, p3, show (headB first rs.length).set i y = headB first rs.length from List.set_eq_of_length_le (by omega), ← htold]
      intro he
      apply hne
      have a1 := leS_toldB (b := (blockB first rs).set i y) (by rw [List.length_set]; exact hlen)
      have a2 := leS_toldB hlen
      rw [← a1, ← a2, he]
    · have t1 : toldB ((blockB first rs).set i y) = toldB (blockB first rs) := by
        unfold toldB
        rw [List.drop_set, if_neg (by omega), List.take_set, List.set_eq_of_length_le (by rw [List.length_take, List.length_drop]; omega)]
      rw [t1, htold, List.take_set, p1, List.drop_set, if_neg (by omega), p3, show (headB first rs.length).set i y = headB first rs.length from List.set_eq_of_length_le (by omega), sumB_flat, sumB_flat]
      have := sum_set (headB first rs.length ++ [0, 0, 0, 0]) (restB rs) [] (i - 18) y (by omega) (by
        intro he
        apply hy
        rw [he]
        have hz := p3
        simp only [← hz, List.getElem_drop]
        congr 1
        omega)
      intro he
      apply this
      simpa using he.symm

/-! packing -/
/-- how many records fit behind 'room' bytes -/
def fitN : List (List UInt8) → Nat → Nat
  | [], _ => 0
  | r :: rs, room => if room + 2 + r.length ≤ 494 then fitN rs (room + 2 + r.length) + 1 else 0
def chunks : Nat → List (List UInt8) → List (List (List UInt8))
  | 0, _ => []
  | f + 1, rs => if rs.length = 0 then [] else rs.take (fitN rs 0) :: chunks f (rs.drop (fitN rs 0))
/-- blocks one behind the other -/
def packC : UInt64 → List (List (List UInt8)) → List UInt8
  | _, [] => []
  | first, c :: cs => blockB first c ++ packC (first + UInt64.ofNat c.length) cs
def packB (first : UInt64) (rs : List (List UInt8)) : List UInt8 × Nat :=
  if rs.length = 0 then ([], 0) else if numOK first rs.length = false then ([], 1) else if rs.any (fun r => decide (200 < r.length)) = true then ([], 4) else (packC first (chunks rs.length rs), 0)
def ChainOK : UInt64 → List (List (List UInt8)) → Prop
  | _, [] => True
  | first, c :: cs => c.length ≠ 0 ∧ numOK first c.length = true ∧ longS c = false ∧ ChainOK (first + UInt64.ofNat c.length) cs
theorem fitN_le : ∀ (rs : List (List UInt8)) (room : Nat), fitN rs room ≤ rs.length
  | [], _ => Nat.le_refl _
  | r :: rs, room => by
    rw [fitN]
    split
    · have := fitN_le rs (room + 2 + r.length); simp; omega
    · omega
theorem fitN_body : ∀ (rs : List (List UInt8)) (room : Nat), room ≤ 494 → room + (bodyB (rs.take (fitN rs room))).length ≤ 494
  | [], room, h => by simpa [bodyB, fitN] using h
  | r :: rs, room, h => by
    rw [fitN]
    split
    · rename_i hc
      have := fitN_body rs (room + 2 + r.length) hc
      rw [List.take_succ_cons, bodyB_cons, List.length_append, recB_length]
      omega
    · simpa [bodyB] using h
theorem fitN_max : ∀ (rs : List (List UInt8)) (room : Nat) (h : fitN rs room < rs.length), 494 < room + (bodyB (rs.take (fitN rs room))).length + 2 + rs[fitN rs room].length
  | [], room, h => by simp at h
  | r :: rs, room, h => by
    by_cases hc : room + 2 + r.length ≤ 494
    · have e : fitN (r :: rs) room = fitN rs (room + 2 + r.length) + 1 := by rw [fitN, if_pos hc]
      have h' : fitN rs (room + 2 + r.length) < rs.length := by rw [e] at h; simp at h; exact h
      have := fitN_max rs (room + 2 + r.length) h'
      simp only [e, List.take_succ_cons, bodyB_cons, List.length_append, recB_length, List.getElem_cons_succ]
      omega
    · have e : fitN (r :: rs) room = 0 := by rw [fitN, if_neg hc]
      simp only [e, List.getElem_cons_zero, List.take_zero, bodyB_nil, List.length_nil]
      omega
theorem fitN_pos (rs : List (List UInt8)) (h0 : rs.length ≠ 0) (h : ∀ r ∈ rs, r.length ≤ 200) : 1 ≤ fitN rs 0 := by
  cases rs with
  | nil => exact absurd rfl h0
  | cons r rs =>
    have := h r (by simp)
    rw [fitN, if_pos (by omega)]
    omega
theorem chunks_flat : ∀ (f : Nat) (rs : List (List UInt8)), rs.length ≤ f → (∀ r ∈ rs, r.length ≤ 200) → (chunks f rs).flatten = rs
  | 0, rs, h, _ => by
    have : rs = [] := List.eq_nil_of_length_eq_zero (by omega)
    subst this; rfl
  | f + 1, rs, h, h2 => by
    rw [chunks]
    by_cases h0 : rs.length = 0
    · rw [if_pos h0, List.eq_nil_of_length_eq_zero h0]; rfl
    · rw [if_neg h0, List.flatten_cons]
      have hp := fitN_pos rs h0 h2
      rw [chunks_flat f _ (by rw [List.length_drop]; omega) (fun r hr => h2 r (List.mem_of_mem_drop hr)), List.take_append_drop]
theorem num_step {first : UInt64} {n k : Nat} (h : numOK first n = true) (hk : k ≤ n) (h1 : 1 ≤ k) : numOK first k = true ∧ (first + UInt64.ofNat k).toNat = first.toNat + k := by
  unfold numOK at *
  have := of_decide_eq_true h
  refine ⟨decide_eq_true (by omega), ?_⟩
  rw [UInt64.toNat_add, UInt64.toNat_ofNat', Nat.mod_eq_of_lt (a := k) (by omega), Nat.mod_eq_of_lt (by omega)]
theorem num_rest {first : UInt64} {n k : Nat} (h : numOK first n = true) (hk : k < n) (h1 : 1 ≤ k) : numOK (first + UInt64.ofNat k) (n - k) = true := by
  obtain ⟨_, e⟩ := num_step h (Nat.le_of_lt hk) h1
  unfold numOK at *
  have := of_decide_eq_true h
  exact decide_eq_true (by omega)
theorem chunks_ok : ∀ (f : Nat) (rs : List (List UInt8)) (first : UInt64), rs.length ≤ f → (∀ r ∈ rs, r.length ≤ 200) → (rs.length ≠ 0 → numOK first rs.length = true) → ChainOK first (chunks f rs)
  | 0, _, _, _, _, _ => trivial
  | f + 1, rs, first, h, h2, hn => by
    rw [chunks]
    by_cases h0 : rs.length = 0
    · rw [if_pos h0]; trivial
    · rw [if_neg h0]
      have hp := fitN_pos rs h0 h2
      have hle := fitN_le rs 0
      have hl : (rs.take (fitN rs 0)).length = fitN rs 0 := by rw [List.length_take]; omega
      refine ⟨by omega, by rw [hl]; exact (num_step (hn h0) hle hp).1, longS_of (fun r hr => h2 r (List.mem_of_mem_take hr)) (by have := fitN_body rs 0 (by omega); omega), ?_⟩
      refine chunks_ok f _ _ (by rw [List.length_drop]; omega) (fun r hr => h2 r (List.mem_of_mem_drop hr)) fun hd => ?_
      rw [List.length_drop] at hd ⊢
      rw [hl]
      exact num_rest (hn h0) (by omega) hp
theorem packC_length : ∀ (cs : List (List (List UInt8))) (first : UInt64), ChainOK first cs → (packC first cs).length = 512 * cs.length
  | [], _, _ => rfl
  | c :: cs, first, h => by
    obtain ⟨_, _, h3, h4⟩ := h
    rw [packC, List.length_append, blockB_length _ _ (longS_false h3).2, packC_length cs _ h4, List.length_cons]
    omega
/-- the sector number i -/
theorem packC_at : ∀ (cs : List (List (List UInt8))) (first : UInt64) (i : Nat) (hi : i < cs.length), ChainOK first cs → ∃ f, decB (((packC first cs).drop (512 * i)).take 512) = (f, cs[i], 0)
  | [], _, i, hi, _ => by simp at hi
  | c :: cs, first, 0, hi, h => by
    obtain ⟨h1, h2, h3, h4⟩ := h
    have hl := blockB_length first c (longS_false h3).2
    refine ⟨first, ?_⟩
    rw [packC, Nat.mul_zero, List.drop_zero, ← hl, List.take_left]
    exact dec_block first c h1 h2 h3
  | c :: cs, first, i + 1, hi, h => by
    obtain ⟨h1, h2, h3, h4⟩ := h
    have hl := blockB_length first c (longS_false h3).2
    obtain ⟨f, hf⟩ := packC_at cs (first + UInt64.ofNat c.length) i (by simpa using hi) h4
    refine ⟨f, ?_⟩
    rw [packC, show 512 * (i + 1) = (blockB first c).length + 512 * i by rw [hl]; omega, ← List.drop_drop, List.drop_left, List.getElem_cons_succ]
    exact hf

/-! scanning -/
def scanF : Nat → Nat → List UInt8 → List Int → UInt64 → List (List UInt8) × Nat
  | 0, n, _, _, _ => ([], n)
  | k + 1, n, data, bad, first =>
    if bad.contains (n : Int) = true then ([], n) else
    if (decB (data.take 512)).2.2 ≠ 0 ∨ (decB (data.take 512)).1 ≠ first then ([], n) else
    ((decB (data.take 512)).2.1 ++ (scanF k (n + 1) (data.drop 512) bad (first + UInt64.ofNat (decB (data.take 512)).2.1.length)).1,
      (scanF k (n + 1) (data.drop 512) bad (first + UInt64.ofNat (decB (data.take 512)).2.1.length)).2)
def scanB (data : List UInt8) (bad : List Int) (first : UInt64) : List (List UInt8) × Nat := scanF (data.length / 512) 0 data bad first
theorem u64_add (f : UInt64) (a b : Nat) : f + UInt64.ofNat a + UInt64.ofNat b = f + UInt64.ofNat (a + b) := by
  apply UInt64.toNat_inj.1
  rw [UInt64.toNat_add, UInt64.toNat_add, UInt64.toNat_add, UInt64.toNat_ofNat', UInt64.toNat_ofNat', UInt64.toNat_ofNat']
  omega
/-- good blocks at the front -/
theorem scanF_pre : ∀ (cs : List (List (List UInt8))) (first : UInt64) (k n : Nat) (t : List UInt8) (bad : List Int), ChainOK first cs → (∀ i, n ≤ i → i < n + cs.length → bad.contains (i : Int) = false) →
    scanF (k + cs.length) n (packC first cs ++ t) bad first = (cs.flatten ++ (scanF k (n + cs.length) t bad (first + UInt64.ofNat cs.flatten.length)).1, (scanF k (n + cs.length) t bad (first + UInt64.ofNat cs.flatten.length)).2)
  | [], first, k, n, t, bad, _, _ => by
    have : first + UInt64.ofNat 0 = first := by apply UInt64.toNat_inj.1; rw [UInt64.toNat_add]; have := first.toNat_lt; simp
    simp only [packC, List.nil_append, List.flatten_nil, List.length_nil, Nat.add_zero, this]
  | c :: cs, first, k, n, t, bad, h, hb => by
    obtain ⟨h1, h2, h3, h4⟩ := h
    have hl := blockB_length first c (longS_false h3).2
    have hd := dec_block first c h1 h2 h3
    have ih := scanF_pre cs (first + UInt64.ofNat c.length) k (n + 1) t bad h4 (fun i hi1 hi2 => hb i (by omega) (by simp; omega))
    have e1 : (packC first (c :: cs) ++ t).take 512 = blockB first c := by rw [packC, List.append_assoc, ← hl, List.take_left]
    have e2 : (packC first (c :: cs) ++ t).drop 512 = packC (first + UInt64.ofNat c.length) cs ++ t := by rw [packC, List.append_assoc, ← hl, List.drop_left]
    rw [show k + (c :: cs).length = (k + cs.length) + 1 by simp; omega, scanF, if_neg (by rw [hb n (Nat.le_refl _) (by simp)]; simp), e1, e2, hd, if_neg (by simp)]
    simp only
    rw [ih, u64_add]
    simp only [List.flatten_cons, List.length_cons, List.length_append, List.append_assoc, show n + 1 + cs.length = n + (cs.length + 1) by omega]
theorem scanF_bad (k n : Nat) (data : List UInt8) (bad : List Int) (first : UInt64) (h : bad.contains (n : Int) = true) : scanF k n data bad first = ([], n) := by
  cases k with
  | zero => rfl
  | succ k => rw [scanF, if_pos h]
theorem scanF_stop (k n : Nat) (data : List UInt8) (bad : List Int) (first : UInt64) (h : (decB (data.take 512)).2.2 ≠ 0 ∨ (decB (data.take 512)).1 ≠ first) : scanF k n data bad first = ([], n) := by
  cases k with
  | zero => rfl
  | succ k =>
    rw [scanF]
    by_cases hb : bad.contains (n : Int) = true
    · rw [if_pos hb]
    · rw [if_neg hb, if_pos h]
theorem packC_take : ∀ (cs : List (List (List UInt8))) (first : UInt64) (k : Nat), ChainOK first cs → (packC first cs).take (512 * k) = packC first (cs.take k) ∧ ChainOK first (cs.take k)
  | [], _, k, _ => by simp [packC, ChainOK]
  | c :: cs, first, 0, _ => by simp [packC, ChainOK]
  | c :: cs, first, k + 1, h => by
    obtain ⟨h1, h2, h3, h4⟩ := h
    have hl := blockB_length first c (longS_false h3).2
    obtain ⟨i1, i2⟩ := packC_take cs (first + UInt64.ofNat c.length) k h4
    rw [List.take_succ_cons, packC, packC, show 512 * (k + 1) = (blockB first c).length + 512 * k by rw [hl]; omega, List.take_length_add_append, i1]
    exact ⟨rfl, h1, h2, h3, i2⟩
theorem packC_split : ∀ (cs : List (List (List UInt8))) (first : UInt64) (k : Nat), packC first cs = packC first (cs.take k) ++ packC (first + UInt64.ofNat (cs.take k).flatten.length) (cs.drop k)
  | [], _, k => by simp [packC]
  | c :: cs, first, 0 => by
    have : first + UInt64.ofNat 0 = first := by apply UInt64.toNat_inj.1; rw [UInt64.toNat_add]; have := first.toNat_lt; simp
    simp [packC, this]
  | c :: cs, first, k + 1 => by
    rw [List.take_succ_cons, List.drop_succ_cons, packC, packC, packC_split cs (first + UInt64.ofNat c.length) k, u64_add]
    simp
end Go.Proofs.YtipjdkdonmoojaaDoor

/- cut beside goroutine 0: it sends the payloads of the whole frames, one by one, and answers what is left. -/
import Derived.Test.YtngmhkhncimknaaStmCl
import Derived.Lib.Hide
namespace Go.Proofs.Ytngmhkhncimknaa
open Go Go.Conc Go.RowKit
set_option linter.unusedVariables false
set_option linter.unusedSimpArgs false

/-- what the code of cut computes: the payloads, what is left, whether a fault was met -/
def cutS (l : List UInt8) : List (List UInt8) × List UInt8 × Bool :=
  if frOK l = false then ([], [], true) else
  if frN l = 0 ∨ l.length < frN l then ([], l, false) else
  if _h : 0 < l.length ∧ 0 < frN l then (((l.take (frN l)).drop 3) :: (cutS (l.drop (frN l))).1, (cutS (l.drop (frN l))).2) else ([], [], false)
termination_by l.length
decreasing_by all_goals (simp; omega)

/-- what is sent: slices of the child's own, each in a block that is newer than what came before -/
def PP (fin : Nat → World → Prop) : Nat → List (List UInt8) → Proto
  | B, [] => .stop (fin B)
  | B, p :: ps => .msg (fun v w => Own w B 5 v (Bs p)) (fun _ w => PP fin w.heap.size ps)

theorem At.of {D : Duet} {S S' : World → Prop} {A : Option Addr} {l : List UInt8} (h : At D S A l) (hs : ∀ w, S' w → S w) : At D S' A l := fun h0 => by
  obtain ⟨g, o, cs, e, hb, hc⟩ := h h0
  exact ⟨g, o, cs, e, fun w hw => hb w (hs w hw), hc⟩

def len0 (a : Act) : Nat := match (a.tmps[0]? : Option Value) with | some (.slice _ n _) => n | _ => 0

theorem Hold.size {D : Duet} {S : World → Prop} (hS : Hold D S) (B : Nat) : Hold D (fun w => S w ∧ B ≤ w.heap.size) :=
  ⟨fun h r => ⟨hS.rely h.1 r, Nat.le_trans h.2 r.size⟩, fun h r => ⟨hS.grow h.1 r, Nat.le_trans h.2 r.1.size⟩⟩

theorem Own.keepA {D : Duet} (hD : Du D) {w w₁ : World} {B : Nat} (hB : D.base ≤ B) {v : Value} {vs : List Value} (h : Own w B 5 v vs) (r : RelA D w w₁) : Own w₁ B 5 v vs := by
  refine ⟨h.1, ?_⟩
  rcases h.2 with h2 | ⟨g, cap, cur, hv, hg, hh, rest⟩
  · exact .inl h2
  · have := D.ch_lt
    exact .inr ⟨g, cap, cur, hv, hg, by rw [r.keep g (heap_lt hh) (by omega) fun ⟨_, hc⟩ => D.ne (isCells_inj hc (hD.B ▸ ⟨cur, (0, 0), hh⟩))]; exact hh, rest⟩
theorem Own.keepB {D : Duet} {w w₁ : World} {B : Nat} (hB : D.base ≤ B) {v : Value} {vs : List Value} (h : Own w B 5 v vs) (r : RelB D w w₁) : Own w₁ B 5 v vs := by
  refine ⟨h.1, ?_⟩
  rcases h.2 with h2 | ⟨g, cap, cur, hv, hg, hh, rest⟩
  · exact .inl h2
  · have := D.ch_lt
    have := D.sp_lt
    exact .inr ⟨g, cap, cur, hv, hg, by rw [r.keep g (heap_lt hh) (by omega) (by omega)]; exact hh, rest⟩
theorem Hold.own {D : Duet} (hD : Du D) {S : World → Prop} (hS : Hold D S) {B : Nat} (hB : D.base ≤ B) (v : Value) (vs : List Value) : Hold D (fun w => S w ∧ Own w B 5 v vs) :=
  ⟨fun h r => ⟨hS.rely h.1 r, h.2.keepA hD hB r⟩, fun h r => ⟨hS.grow h.1 r, h.2.keepB hB r.1⟩⟩
theorem own_low {w : World} {B B' : Nat} {e : TypeId} {v : Value} {vs : List Value} (h : Own w B e v vs) (hb : B' ≤ B) : Own w B' e v vs := by
  refine ⟨h.1, ?_⟩
  rcases h.2 with h2 | ⟨g, cap, cur, hv, hg, rest⟩
  · exact .inl h2
  · exact .inr ⟨g, cap, cur, hv, Nat.le_trans hb hg, rest⟩

theorem ev_cut_lh {P : Program} (t e : TypeId) (ht : P.underlying t = some (.slice e)) (hsz : (P.info? e).map (·.size) = some 1) (A : Option Addr) (n c : Nat) (lo hi : Nat) (h1 : lo ≤ hi) (h2 : hi ≤ c) :
    ∀ W : World, (Instr.sliceAt t (.slice A n c) (some (.int .i64 (lo : Int))) (some (.int .i64 (hi : Int))) none).events P W #[] = #[] := by
  intro W
  obtain ⟨i, hi', hs⟩ := Option.map_eq_some_iff.1 hsz
  have e1 : ¬ ((c : Int) < hi) := by omega
  have e2 : ¬ ((hi : Int) < lo) := by omega
  simp [Instr.sliceAt, Instr.slice, run_underlying ht, Instr.sliceBounds, Instr.sliceBound, sizeOf, typeInfo, hi', hs, asInt, asIntOf, h1, h2, e1, e2]
theorem ev_cut_l {P : Program} (t e : TypeId) (ht : P.underlying t = some (.slice e)) (hsz : (P.info? e).map (·.size) = some 1) (A : Option Addr) (n c : Nat) (lo : Nat) (h1 : lo ≤ n) :
    ∀ W : World, (Instr.sliceAt t (.slice A n c) (some (.int .i64 (lo : Int))) none none).events P W #[] = #[] := by
  intro W
  obtain ⟨i, hi', hs⟩ := Option.map_eq_some_iff.1 hsz
  have e1 : ¬ ((n : Int) < lo) := by omega
  simp [Instr.sliceAt, Instr.slice, run_underlying ht, Instr.sliceBounds, Instr.sliceBound, sizeOf, typeInfo, hi', hs, asInt, asIntOf, h1, e1]

theorem cutS_bad {l : List UInt8} (h : frOK l = false) : (cutS l).1 = [] ∧ (cutS l).2 = ([], true) := by
  rw [cutS, if_pos h]; exact ⟨rfl, rfl⟩
theorem cutS_rest {l : List UInt8} (h : frOK l = true) (h2 : frN l = 0 ∨ l.length < frN l) : (cutS l).1 = [] ∧ (cutS l).2 = (l, false) := by
  rw [cutS, if_neg (by simp [h]), if_pos h2]; exact ⟨rfl, rfl⟩
theorem cutS_more {l : List UInt8} (h : frOK l = true) (h1 : 0 < frN l) (h2 : frN l ≤ l.length) : (cutS l).1 = ((l.take (frN l)).drop 3) :: (cutS (l.drop (frN l))).1 ∧ (cutS l).2 = (cutS (l.drop (frN l))).2 := by
  rw [cutS, if_neg (by simp [h]), if_neg (by omega), dif_pos ⟨by omega, h1⟩]; exact ⟨rfl, rfl⟩

theorem At.cut {D : Duet} {S : World → Prop} {A : Option Addr} {l : List UInt8} {c lo hi : Nat} (h : At D S A l) (hc : hi ≤ c) (hh : hi ≤ l.length) : At D S (cutA A c lo) ((l.take hi).drop lo) := fun h0 => by
  simp only [List.length_drop, List.length_take] at h0
  obtain ⟨g, o, cs, rfl, hb, hcs⟩ := h (by omega)
  refine ⟨g, o + lo, cs, ?_, hb, fun i hi => ?_⟩
  · unfold cutA
    rw [if_neg (by omega)]
    simp [Addr.add_mid]
  · simp only [List.length_drop, List.length_take] at hi
    rw [Nat.add_assoc, hcs (lo + i) (by omega)]
    simp

theorem At.drop {D : Duet} {S : World → Prop} {A : Option Addr} {l : List UInt8} {c n : Nat} (h : At D S A l) (hc : l.length ≤ c) : At D S (cutA A c n) (l.drop n) := by
  have := h.cut (c := c) (lo := n) (hi := l.length) hc (Nat.le_refl _)
  rwa [List.take_length] at this

theorem frN_zero_or {l : List UInt8} (h : frOK l = true) : frN l = 0 ∨ 3 < frN l ∧ frN l ≤ 259 ∧ 3 ≤ l.length := by
  match l with
  | [] => exact .inl rfl
  | [x] => exact .inl rfl
  | [x, a] => exact .inl rfl
  | x :: a :: b :: r =>
    by_cases hx : x = 165
    · subst hx
      simp [frOK] at h
      refine .inr ⟨?_, ?_, by simp⟩ <;> simp [frN] <;> omega
    · simp [frN, hx]

set_option maxRecDepth 100000 in
set_option maxHeartbeats 1600000 in
theorem cut_calls {D : Duet} (hD : Du D) {S : World → Prop} (hS : Hold D S) (A : Option Addr) (c : Nat) (l : List UInt8) (hl : l.length ≤ 1000000000) (hlc : l.length ≤ c) (hn : A = none → c = 0 ∧ l = []) (hA : At D S A l) (B : Nat) (hBb : D.base ≤ B) (fin : Nat → World → Prop) (w : World) (hB : B ≤ w.heap.size) (hF : S w) :
    callM Try.prog (XB Try.prog D) 23 #[.slice A l.length c, .chan (some D.ch)] (fun ms' v w' => ∃ B', D.base ≤ B' ∧ ms' = .stop (fin B') ∧ (∃ rv, v = .tuple #[rv, .bool (cutS l).2.2] ∧ Own w' B' 5 rv (Bs (cutS l).2.1)) ∧ S w') (PP fin B (cutS l).1) w := by
  replace hF : S w ∧ B ≤ w.heap.size := ⟨hF, hB⟩
  refine callM_of_wpM kitB Try.func23 rfl ?_
  simp only [Try.ntmps23, List.size_toArray, List.length_cons, List.length_nil, Nat.reduceAdd, Nat.reduceSub, Array.replicate_succ, Array.replicate_zero, List.push_toArray, List.append_toArray, List.nil_append, List.cons_append]
  refine wpM_seq kitB ?_
  refine wpM_region kitB ?_
  simp only [List.size_toArray, List.length_cons, List.length_nil, Nat.reduceAdd, Nat.zero_add, List.range, List.range.loop]
  refine opsM_cons_k kitB rfl (by rfl) ?_
  intro _ hR C hC
  replace hF := (hS.size B).rely hF hR
  clear hR
  go_simp
  refine hC _ _ ⟨?_, ?_⟩
  · (co_still (termsB D))
  clear hC C
  try walk_nrm
  refine opsM_cons_k kitB rfl (by rfl) ?_
  intro _ hR C hC
  replace hF := (hS.size B).rely hF hR
  clear hR
  go_simp
  refine hC _ _ ⟨?_, ?_⟩
  · (co_still (termsB D))
  clear hC C
  try walk_nrm
  refine opsM_nil kitB ?_
  try simp only [thenM, Exit.inBlock, if_true, if_false, reduceIte, Nat.reduceEqDiff]
  refine wpM_block kitB ?_
  refine wpM_loop kitB (fun (γ : Proto) (a : Act) (w : World) => ∃ (A : Option Addr) (c B n' : Nat) (l' : List UInt8) (x2 x3 x4 x5 x6 x7 x8 x9 x10 x11 x12 x13 x14 x15 x16 x17 x18 x19 x20 x21 x22 x23 x24 x25 x26 x27 x28 x29 x30 x31 x32 : Value), a = { tmps := #[.slice A n' c, .chan (some D.ch), x2, x3, x4, x5, x6, x7, x8, x9, x10, x11, x12, x13, x14, x15, x16, x17, x18, x19, x20, x21, x22, x23, x24, x25, x26, x27, x28, x29, x30, x31, x32], defers := [] } ∧ n' = l'.length ∧ Hid (γ = PP fin B (cutS l').1) ∧ Hid ((cutS l').2 = (cutS l).2) ∧ l'.length ≤ 1000000000 ∧ l'.length ≤ c ∧ (A = none → c = 0 ∧ l' = []) ∧ Hid (At D S A l') ∧ D.base ≤ B ∧ S w ∧ B ≤ w.heap.size) (fun _ a _ => len0 a) ?start ?round
  case start => exact ⟨A, c, B, l.length, l, _, _, _, _, _, _, _, _, _, _, _, _, _, _, _, _, _, _, _, _, _, _, _, _, _, _, _, _, _, _, _, rfl, rfl, rfl, rfl, hl, hlc, hn, hA, hBb, hF⟩
  case round =>
      clear hF hA hn hlc hl hB hBb
      intro γ a w hI
      obtain ⟨A, c, B, n', l', x2, x3, x4, x5, x6, x7, x8, x9, x10, x11, x12, x13, x14, x15, x16, x17, x18, x19, x20, x21, x22, x23, x24, x25, x26, x27, x28, x29, x30, x31, x32, rfl, rfl, HG, HC, hl, hlc, hn, HA, hBb, hF⟩ := hI
      refine wpM_block kitB ?_
      refine wpM_seq kitB ?_
      refine wpM_region kitB ?_
      simp only [List.size_toArray, List.length_cons, List.length_nil, Nat.reduceAdd, Nat.zero_add, List.range, List.range.loop]
      refine opsM_cons_k kitB rfl (by rfl) ?_
      intro _ hR C hC
      replace hF := (hS.size B).rely hF hR
      clear hR
      go_simp
      refine hC _ _ ⟨?_, ?_⟩
      · (co_still (termsB D))
      clear hC C
      try walk_nrm
      refine opsM_fcall kitB (vals := #[.slice A l'.length c]) rfl (by rfl) rfl Try.func26 (by rfl) rfl (by first | rfl | simp [Act.eval]) ?_
      refine callM_mono (first_calls hD (hS.size B) A c l' hl (HA.out.of fun _ h => h.1) _ _ hF) ?_
      rintro γ v w ⟨rfl, rfl, hF⟩
      try walk_nrm
      refine opsM_cons_k kitB rfl (by rfl) ?_
      intro _ hR C hC
      replace hF := (hS.size B).rely hF hR
      clear hR
      go_simp
      refine hC _ _ ⟨?_, ?_⟩
      · (co_still (termsB D))
      clear hC C
      try walk_nrm
      refine opsM_cons_k kitB rfl (by rfl) ?_
      intro _ hR C hC
      replace hF := (hS.size B).rely hF hR
      clear hR
      go_simp
      refine hC _ _ ⟨?_, ?_⟩
      · (co_still (termsB D))
      clear hC C
      try walk_nrm
      refine opsM_cons_k kitB rfl (by rfl) ?_
      intro _ hR C hC
      replace hF := (hS.size B).rely hF hR
      clear hR
      go_simp
      refine hC _ _ ⟨?_, ?_⟩
      · (co_still (termsB D))
      clear hC C
      try walk_nrm
      refine opsM_cons_k kitB rfl (by rfl) ?_
      intro _ hR C hC
      replace hF := (hS.size B).rely hF hR
      clear hR
      go_simp
      refine hC _ _ ⟨?_, ?_⟩
      · (co_still (termsB D))
      clear hC C
      try walk_nrm
      refine opsM_cons_k kitB rfl (by rfl) ?_
      intro _ hR C hC
      replace hF := (hS.size B).rely hF hR
      clear hR
      go_simp
      refine hC _ _ ⟨?_, ?_⟩
      · (co_still (termsB D))
      clear hC C
      try walk_nrm
      refine opsM_nil kitB ?_
      try simp only [thenM, Exit.inBlock, if_true, if_false, reduceIte, Nat.reduceEqDiff]
      have HK := Go.Lib.hid (fun h => cutS_bad (l := l') h)
      have HZ := Go.Lib.hid (fun h h2 => cutS_rest (l := l') h h2)
      have HN := Go.Lib.hid (show frOK l' = true → 0 < frN l' → frN l' ≤ l'.length → 3 < frN l' ∧ _ from fun h h1 h2 => ⟨by rcases frN_zero_or h with h | h <;> omega, cutS_more h h1 h2⟩)
      generalize frOK l' = ok at *
      generalize frN l' = n at *
      cases ok with
      | false =>
        refine wpM_seq kitB ?_
        refine wpM_seq kitB ?_
        refine wpM_region kitB ?_
        simp only [List.size_toArray, List.length_cons, List.length_nil, Nat.reduceAdd, Nat.zero_add, List.range, List.range.loop]
        refine opsM_cons_k kitB rfl (by rfl) ?_
        intro _ hR C hC
        replace hF := (hS.size B).rely hF hR
        clear hR
        go_simp
        refine hC _ _ ⟨?_, ?_⟩
        · (co_still (termsB D))
        clear hC C
        try walk_nrm
        refine opsM_cons_k kitB rfl (by rfl) ?_
        intro _ hR C hC
        replace hF := (hS.size B).rely hF hR
        clear hR
        go_simp
        refine hC _ _ ⟨?_, ?_⟩
        · (co_still (termsB D))
        clear hC C
        try walk_nrm
        refine opsM_nil kitB ?_
        try simp only [thenM, Exit.inBlock, if_true, if_false, reduceIte, Nat.reduceEqDiff]
        refine wpM_cond kitB rfl ?_
        first | simp only [if_true, if_false, reduceIte, Bool.false_eq_true] | fail "COND"
        refine wpM_seq kitB ?_
        refine wpM_region kitB ?_
        simp only [List.size_toArray, List.length_cons, List.length_nil, Nat.reduceAdd, Nat.zero_add, List.range, List.range.loop]
        refine opsM_cons_k kitB rfl (by rfl) ?_
        intro _ hR C hC
        replace hF := (hS.size B).rely hF hR
        clear hR
        go_simp
        refine hC _ _ ⟨?_, ?_⟩
        · (co_still (termsB D))
        clear hC C
        try walk_nrm
        refine opsM_cons_k kitB rfl (by rfl) ?_
        intro _ hR C hC
        replace hF := (hS.size B).rely hF hR
        clear hR
        go_simp
        refine hC _ _ ⟨?_, ?_⟩
        · (co_still (termsB D))
        clear hC C
        try walk_nrm
        refine opsM_nil kitB ?_
        try simp only [thenM, Exit.inBlock, if_true, if_false, reduceIte, Nat.reduceEqDiff]
        refine wpM_ret kitB ?_
        try simp only [thenM, Exit.inBlock, if_true, if_false, reduceIte, Nat.reduceEqDiff]
        obtain ⟨h1, h2⟩ := HK.out rfl
        rw [← HC.out, h2]
        refine ⟨rfl, _, resultsC_tmp2 (by rfl) _, B, hBb, by rw [HG.out, h1]; rfl, ⟨.slice none 0 0, by simp, ⟨by simp [Bs], .inl ⟨rfl, by simp [Bs]⟩⟩⟩, hF.1⟩
      | true =>
        refine wpM_seq kitB ?_
        refine wpM_seq kitB ?_
        refine wpM_region kitB ?_
        simp only [List.size_toArray, List.length_cons, List.length_nil, Nat.reduceAdd, Nat.zero_add, List.range, List.range.loop]
        refine opsM_cons_k kitB rfl (by rfl) ?_
        intro _ hR C hC
        replace hF := (hS.size B).rely hF hR
        clear hR
        go_simp
        refine hC _ _ ⟨?_, ?_⟩
        · (co_still (termsB D))
        clear hC C
        try walk_nrm
        refine opsM_cons_k kitB rfl (by rfl) ?_
        intro _ hR C hC
        replace hF := (hS.size B).rely hF hR
        clear hR
        go_simp
        refine hC _ _ ⟨?_, ?_⟩
        · (co_still (termsB D))
        clear hC C
        try walk_nrm
        refine opsM_nil kitB ?_
        try simp only [thenM, Exit.inBlock, if_true, if_false, reduceIte, Nat.reduceEqDiff]
        refine wpM_cond kitB rfl ?_
        first | simp only [if_true, if_false, reduceIte, Bool.false_eq_true] | fail "COND"
        refine wpM_skip kitB ?_
        try simp only [thenM, Exit.inBlock, if_true, if_false, reduceIte, Nat.reduceEqDiff]
        by_cases hn0 : n = 0
        · subst hn0
          refine wpM_seq kitB ?_
          refine wpM_seq kitB ?_
          refine wpM_region kitB ?_
          simp only [List.size_toArray, List.length_cons, List.length_nil, Nat.reduceAdd, Nat.zero_add, List.range, List.range.loop]
          refine opsM_cons_k kitB rfl (by rfl) ?_
          intro _ hR C hC
          replace hF := (hS.size B).rely hF hR
          clear hR
          go_simp
          refine hC _ _ ⟨?_, ?_⟩
          · (co_still (termsB D))
          clear hC C
          try walk_nrm
          refine opsM_cons_k kitB rfl (by rfl) ?_
          intro _ hR C hC
          replace hF := (hS.size B).rely hF hR
          clear hR
          go_simp
          refine hC _ _ ⟨?_, ?_⟩
          · (co_still (termsB D))
          clear hC C
          try walk_nrm
          refine opsM_cons_k kitB rfl (by rfl) ?_
          intro _ hR C hC
          replace hF := (hS.size B).rely hF hR
          clear hR
          go_simp
          refine hC _ _ ⟨?_, ?_⟩
          · (co_still (termsB D))
          clear hC C
          try walk_nrm
          refine opsM_pass kitB rfl (by rfl) ?_
          try walk_nrm
          refine opsM_pass kitB rfl (by rfl) ?_
          try walk_nrm
          refine opsM_pass kitB rfl (by rfl) ?_
          try walk_nrm
          refine opsM_pass kitB rfl (by rfl) ?_
          try walk_nrm
          refine opsM_cons_k kitB rfl (by rfl) ?_
          intro _ hR C hC
          replace hF := (hS.size B).rely hF hR
          clear hR
          go_simp
          refine hC _ _ ⟨?_, ?_⟩
          · (co_still (termsB D))
          clear hC C
          try walk_nrm
          refine opsM_nil kitB ?_
          try simp only [thenM, Exit.inBlock, if_true, if_false, reduceIte, Nat.reduceEqDiff]
          refine wpM_cond kitB rfl ?_
          first | simp only [if_true, if_false, reduceIte, Bool.false_eq_true] | fail "COND"
          refine wpM_seq kitB ?_
          refine wpM_region kitB ?_
          simp only [List.size_toArray, List.length_cons, List.length_nil, Nat.reduceAdd, Nat.zero_add, List.range, List.range.loop]
          refine opsM_cons_k kitB rfl (by rfl) ?_
          intro _ hR C hC
          replace hF := (hS.size B).rely hF hR
          clear hR
          go_simp
          refine hC _ _ ⟨?_, ?_⟩
          · (co_still (termsB D))
          clear hC C
          try walk_nrm
          refine opsM_fcall kitB (vals := #[.slice A l'.length c]) rfl (by rfl) rfl Try.func27 (by rfl) rfl (by first | rfl | simp [Act.eval]) ?_
          refine callM_mono (clone_calls hD (hS.size B) A c l' hl (HA.out.of fun _ h => h.1) hn B (fun _ h => h.2) hBb _ _ hF) ?_
          rintro γ rv w ⟨rfl, HV, hF⟩
          try walk_nrm
          replace hF := And.intro hF HV
          refine opsM_cons_k kitB rfl (by rfl) ?_
          intro _ hR C hC
          replace hF := ((hS.size B).own hD hBb rv (Bs l')).rely hF hR
          clear hR
          go_simp
          refine hC _ _ ⟨?_, ?_⟩
          · (co_still (termsB D))
          clear hC C
          try walk_nrm
          refine opsM_cons_k kitB rfl (by rfl) ?_
          intro _ hR C hC
          replace hF := ((hS.size B).own hD hBb rv (Bs l')).rely hF hR
          clear hR
          go_simp
          refine hC _ _ ⟨?_, ?_⟩
          · (co_still (termsB D))
          clear hC C
          try walk_nrm
          refine opsM_nil kitB ?_
          try simp only [thenM, Exit.inBlock, if_true, if_false, reduceIte, Nat.reduceEqDiff]
          refine wpM_ret kitB ?_
          try simp only [thenM, Exit.inBlock, if_true, if_false, reduceIte, Nat.reduceEqDiff]
          obtain ⟨h1, h2⟩ := HZ.out rfl (.inl rfl)
          rw [← HC.out, h2]
          exact ⟨rfl, _, resultsC_tmp2 (by rfl) _, B, hBb, by rw [HG.out, h1]; rfl, ⟨rv, by simp, hF.2⟩, hF.1.1⟩
        by_cases hnl : l'.length < n
        · have e0 : ((n : Int) == 0) = false := by rw [beq_eq_false_iff_ne]; omega
          have eg : decide ((l'.length : Int) < (n : Int)) = true := decide_eq_true (by omega)
          refine wpM_seq kitB ?_
          refine wpM_seq kitB ?_
          refine wpM_region kitB ?_
          simp only [List.size_toArray, List.length_cons, List.length_nil, Nat.reduceAdd, Nat.zero_add, List.range, List.range.loop]
          refine opsM_cons_k kitB rfl (by rfl) ?_
          intro _ hR C hC
          replace hF := (hS.size B).rely hF hR
          clear hR
          go_simp
          refine hC _ _ ⟨?_, ?_⟩
          · (co_still (termsB D))
          clear hC C
          try walk_nrm
          refine opsM_cons_k kitB rfl (by rfl) ?_
          intro _ hR C hC
          replace hF := (hS.size B).rely hF hR
          clear hR
          go_simp
          refine hC _ _ ⟨?_, ?_⟩
          · (co_still (termsB D))
          clear hC C
          try walk_nrm
          refine opsM_cons_k kitB rfl (by rfl) ?_
          intro _ hR C hC
          replace hF := (hS.size B).rely hF hR
          clear hR
          go_simp
          refine hC _ _ ⟨?_, ?_⟩
          · (co_still (termsB D))
          clear hC C
          try walk_nrm
          refine opsM_cons_k kitB rfl (by rfl) ?_
          intro _ hR C hC
          replace hF := (hS.size B).rely hF hR
          clear hR
          go_simp
          refine hC _ _ ⟨?_, ?_⟩
          · (co_still (termsB D))
          clear hC C
          try walk_nrm
          refine opsM_cons_k kitB rfl (by rfl) ?_
          intro _ hR C hC
          replace hF := (hS.size B).rely hF hR
          clear hR
          go_simp
          refine hC _ _ ⟨?_, ?_⟩
          · (co_still (termsB D))
          clear hC C
          try walk_nrm
          refine opsM_cons_k kitB rfl (by rfl) ?_
          intro _ hR C hC
          replace hF := (hS.size B).rely hF hR
          clear hR
          go_simp
          refine hC _ _ ⟨?_, ?_⟩
          · (co_still (termsB D))
          clear hC C
          try walk_nrm
          refine opsM_cons_k kitB rfl (by rfl) ?_
          intro _ hR C hC
          replace hF := (hS.size B).rely hF hR
          clear hR
          go_simp
          refine hC _ _ ⟨?_, ?_⟩
          · (co_still (termsB D))
          clear hC C
          try walk_nrm
          refine opsM_cons_k kitB rfl (by rfl) ?_
          intro _ hR C hC
          replace hF := (hS.size B).rely hF hR
          clear hR
          go_simp
          refine hC _ _ ⟨?_, ?_⟩
          · (co_still (termsB D))
          clear hC C
          try walk_nrm
          refine opsM_nil kitB ?_
          try simp only [thenM, Exit.inBlock, if_true, if_false, reduceIte, Nat.reduceEqDiff]
          refine wpM_cond kitB rfl ?_
          first | simp only [if_true, if_false, reduceIte, Bool.false_eq_true] | fail "COND"
          refine wpM_seq kitB ?_
          refine wpM_region kitB ?_
          simp only [List.size_toArray, List.length_cons, List.length_nil, Nat.reduceAdd, Nat.zero_add, List.range, List.range.loop]
          refine opsM_cons_k kitB rfl (by rfl) ?_
          intro _ hR C hC
          replace hF := (hS.size B).rely hF hR
          clear hR
          go_simp
          refine hC _ _ ⟨?_, ?_⟩
          · (co_still (termsB D))
          clear hC C
          try walk_nrm
          refine opsM_fcall kitB (vals := #[.slice A l'.length c]) rfl (by rfl) rfl Try.func27 (by rfl) rfl (by first | rfl | simp [Act.eval]) ?_
          refine callM_mono (clone_calls hD (hS.size B) A c l' hl (HA.out.of fun _ h => h.1) hn B (fun _ h => h.2) hBb _ _ hF) ?_
          rintro γ rv w ⟨rfl, HV, hF⟩
          try walk_nrm
          replace hF := And.intro hF HV
          refine opsM_cons_k kitB rfl (by rfl) ?_
          intro _ hR C hC
          replace hF := ((hS.size B).own hD hBb rv (Bs l')).rely hF hR
          clear hR
          go_simp
          refine hC _ _ ⟨?_, ?_⟩
          · (co_still (termsB D))
          clear hC C
          try walk_nrm
          refine opsM_cons_k kitB rfl (by rfl) ?_
          intro _ hR C hC
          replace hF := ((hS.size B).own hD hBb rv (Bs l')).rely hF hR
          clear hR
          go_simp
          refine hC _ _ ⟨?_, ?_⟩
          · (co_still (termsB D))
          clear hC C
          try walk_nrm
          refine opsM_nil kitB ?_
          try simp only [thenM, Exit.inBlock, if_true, if_false, reduceIte, Nat.reduceEqDiff]
          refine wpM_ret kitB ?_
          try simp only [thenM, Exit.inBlock, if_true, if_false, reduceIte, Nat.reduceEqDiff]
          obtain ⟨h1, h2⟩ := HZ.out rfl (.inr hnl)
          rw [← HC.out, h2]
          exact ⟨rfl, _, resultsC_tmp2 (by rfl) _, B, hBb, by rw [HG.out, h1]; rfl, ⟨rv, by simp, hF.2⟩, hF.1.1⟩
        obtain ⟨h3, h1, h2⟩ := HN.out rfl (by omega) (by omega)
        clear HK HZ HN
        have e0 : ((n : Int) == 0) = false := by rw [beq_eq_false_iff_ne]; omega
        have eg : decide ((l'.length : Int) < (n : Int)) = false := decide_eq_false (by omega)
        have H1 := Go.Lib.hid h1
        have H2 := Go.Lib.hid h2
        clear h1 h2
        refine wpM_seq kitB ?_
        refine wpM_seq kitB ?_
        refine wpM_region kitB ?_
        simp only [List.size_toArray, List.length_cons, List.length_nil, Nat.reduceAdd, Nat.zero_add, List.range, List.range.loop]
        refine opsM_cons_k kitB rfl (by rfl) ?_
        intro _ hR C hC
        replace hF := (hS.size B).rely hF hR
        clear hR
        go_simp
        refine hC _ _ ⟨?_, ?_⟩
        · (co_still (termsB D))
        clear hC C
        try walk_nrm
        refine opsM_cons_k kitB rfl (by rfl) ?_
        intro _ hR C hC
        replace hF := (hS.size B).rely hF hR
        clear hR
        go_simp
        refine hC _ _ ⟨?_, ?_⟩
        · (co_still (termsB D))
        clear hC C
        try walk_nrm
        refine opsM_cons_k kitB rfl (by rfl) ?_
        intro _ hR C hC
        replace hF := (hS.size B).rely hF hR
        clear hR
        go_simp
        refine hC _ _ ⟨?_, ?_⟩
        · (co_still (termsB D))
        clear hC C
        try walk_nrm
        refine opsM_cons_k kitB rfl (by rfl) ?_
        intro _ hR C hC
        replace hF := (hS.size B).rely hF hR
        clear hR
        go_simp
        refine hC _ _ ⟨?_, ?_⟩
        · (co_still (termsB D))
        clear hC C
        try walk_nrm
        refine opsM_cons_k kitB rfl (by rfl) ?_
        intro _ hR C hC
        replace hF := (hS.size B).rely hF hR
        clear hR
        go_simp
        refine hC _ _ ⟨?_, ?_⟩
        · (co_still (termsB D))
        clear hC C
        try walk_nrm
        refine opsM_cons_k kitB rfl (by rfl) ?_
        intro _ hR C hC
        replace hF := (hS.size B).rely hF hR
        clear hR
        go_simp
        refine hC _ _ ⟨?_, ?_⟩
        · (co_still (termsB D))
        clear hC C
        try walk_nrm
        refine opsM_cons_k kitB rfl (by rfl) ?_
        intro _ hR C hC
        replace hF := (hS.size B).rely hF hR
        clear hR
        go_simp
        refine hC _ _ ⟨?_, ?_⟩
        · (co_still (termsB D))
        clear hC C
        try walk_nrm
        refine opsM_cons_k kitB rfl (by rfl) ?_
        intro _ hR C hC
        replace hF := (hS.size B).rely hF hR
        clear hR
        go_simp
        refine hC _ _ ⟨?_, ?_⟩
        · (co_still (termsB D))
        clear hC C
        try walk_nrm
        refine opsM_nil kitB ?_
        try simp only [thenM, Exit.inBlock, if_true, if_false, reduceIte, Nat.reduceEqDiff]
        refine wpM_cond kitB rfl ?_
        first | simp only [if_true, if_false, reduceIte, Bool.false_eq_true] | fail "COND"
        refine wpM_skip kitB ?_
        try simp only [thenM, Exit.inBlock, if_true, if_false, reduceIte, Nat.reduceEqDiff]
        obtain ⟨g, o, cs, rfl, hb, hcs⟩ := HA.out (by omega)
        have hnc : n ≤ c := by omega
        have h3i : (3 : Int) ≤ (n : Int) := by omega
        have hc3 : c ≠ 3 := by omega
        have hcn : (n : Int) ≤ (l'.length : Int) := by omega
        have HP := Go.Lib.hid (show At D S (some ⟨g, o + 3, none⟩) ((l'.take n).drop 3) by have := HA.out.cut (lo := 3) (hi := n) (c := c) hnc (by omega); simpa [cutA, hc3, Addr.add_mid] using this)
        have hpl : ((l'.take n).drop 3).length = n - 3 := by simp; omega
        generalize (l'.take n).drop 3 = p at H1 HP hpl
        have hse := ev_cut_lh (P := Try.prog) 30 5 (by kernel_rfl) (by kernel_rfl) (some ⟨g, o, none⟩) l'.length c 3 n (by omega) (by omega)
        rw [show ((3 : Nat) : Int) = 3 from rfl] at hse
        refine wpM_seq kitB ?_
        refine wpM_region kitB ?_
        simp only [List.size_toArray, List.length_cons, List.length_nil, Nat.reduceAdd, Nat.zero_add, List.range, List.range.loop]
        refine opsM_cons_k kitB rfl (by rfl) ?_
        intro _ hR C hC
        replace hF := (hS.size B).rely hF hR
        clear hR
        go_simp
        refine hC _ _ ⟨?_, ?_⟩
        · (co_still (termsB D))
        clear hC C
        try walk_nrm
        refine opsM_cons_k kitB rfl (by rfl) ?_
        intro _ hR C hC
        replace hF := (hS.size B).rely hF hR
        clear hR
        go_simp
        refine hC _ _ ⟨?_, ?_⟩
        · (co_still (termsB D))
        clear hC C
        try walk_nrm
        refine opsM_cons_k kitB rfl (by rfl) ?_
        intro _ hR C hC
        replace hF := (hS.size B).rely hF hR
        clear hR
        go_simp
        refine hC _ _ ⟨?_, ?_⟩
        · (co_still (termsB D))
        clear hC C
        try walk_nrm
        refine opsM_cons_k kitB rfl (by rfl) ?_
        intro _ hR C hC
        replace hF := (hS.size B).rely hF hR
        clear hR
        go_simp
        refine hC _ _ ⟨?_, ?_⟩
        · (rw [listed_nil (by simp [go_sem, hse]; done)]; exact gB_still _)
        clear hC C
        try walk_nrm
        rw [← hpl]
        clear hse h3i
        refine opsM_fcall kitB (vals := #[.slice (some ⟨g, o + 3, none⟩) p.length (c - 3)]) rfl (by rfl) rfl Try.func27 (by rfl) rfl (by first | rfl | simp [Act.eval]) ?_
        refine callM_mono (clone_calls hD (hS.size B) (some ⟨g, o + 3, none⟩) (c - 3) p (by omega) (HP.out.of fun _ h => h.1) (fun h => by cases h) B (fun _ h => h.2) hBb _ _ hF) ?_
        rintro γ pv w ⟨rfl, HV, hF⟩
        try walk_nrm
        replace hF := And.intro hF HV
        clear HV
        obtain rfl : γ = .msg (fun v w => Own w B 5 v (Bs p)) (fun _ w => PP fin w.heap.size (cutS (l'.drop n)).1) := by rw [HG.out, H1.out]; rfl
        refine opsM_send rfl (by rfl) rfl (by rfl) rfl (fun w₁ h₁ => (((hS.size B).own hD hBb pv (Bs p)).rely hF h₁).2) fun W hR => ?_
        have hF2 := ((hS.size B).own hD hBb pv (Bs p)).rely hF hR
        have hBW : D.base ≤ W.heap.size := Nat.le_trans hBb hF2.1.2
        replace hF : S W ∧ W.heap.size ≤ W.heap.size := ⟨hF2.1.1, Nat.le_refl _⟩
        clear hR hF2
        try walk_nrm
        refine opsM_nil kitB ?_
        try simp only [thenM, Exit.inBlock, if_true, if_false, reduceIte, Nat.reduceEqDiff]
        have hse := ev_cut_l (P := Try.prog) 30 5 (by kernel_rfl) (by kernel_rfl) (some ⟨g, o, none⟩) l'.length c n (by omega)
        refine wpM_region kitB ?_
        simp only [List.size_toArray, List.length_cons, List.length_nil, Nat.reduceAdd, Nat.zero_add, List.range, List.range.loop]
        refine opsM_cons_k kitB rfl (by rfl) ?_
        intro _ hR C hC
        replace hF := (hS.size W.heap.size).rely hF hR
        clear hR
        go_simp
        refine hC _ _ ⟨?_, ?_⟩
        · (co_still (termsB D))
        clear hC C
        try walk_nrm
        refine opsM_cons_k kitB rfl (by rfl) ?_
        intro _ hR C hC
        replace hF := (hS.size W.heap.size).rely hF hR
        clear hR
        go_simp
        refine hC _ _ ⟨?_, ?_⟩
        · (co_still (termsB D))
        clear hC C
        try walk_nrm
        refine opsM_cons_k kitB rfl (by rfl) ?_
        intro _ hR C hC
        replace hF := (hS.size W.heap.size).rely hF hR
        clear hR
        go_simp
        refine hC _ _ ⟨?_, ?_⟩
        · (rw [listed_nil (by simp [go_sem, hse]; done)]; exact gB_still _)
        clear hC C
        try walk_nrm
        refine opsM_cons_k kitB rfl (by rfl) ?_
        intro _ hR C hC
        replace hF := (hS.size W.heap.size).rely hF hR
        clear hR
        go_simp
        refine hC _ _ ⟨?_, ?_⟩
        · (co_still (termsB D))
        clear hC C
        try walk_nrm
        refine opsM_nil kitB ?_
        try simp only [thenM, Exit.inBlock, if_true, if_false, reduceIte, Nat.reduceEqDiff]
        refine ⟨⟨if c = n then some ⟨g, o, none⟩ else some ⟨g, o + n, none⟩, c - n, W.heap.size, l'.length - n, l'.drop n, _, _, _, _, _, _, _, _, _, _, _, _, _, _, _, _, _, _, _, _, _, _, _, _, _, _, _, _, _, _, _, rfl, by simp, rfl, ?_, by simp; omega, by simp; omega, ?_, ?_, hBW, hF⟩, ?_⟩
        · rw [RowKit.Hid, ← H2.out]; exact HC.out
        · intro h; split at h <;> cases h
        · have h := HA.out.drop (c := c) (n := n) hlc
          unfold cutA at h
          rw [Option.map_some, Addr.add_mid] at h
          exact h
        · show l'.length - n < l'.length
          omega
end Go.Proofs.Ytngmhkhncimknaa

/- What the child reads while goroutine 0 runs beside it: the bytes that it cuts stand; 'first' in company. -/
import Derived.Test.YtngmhkhncimknaaStmWalk
import Derived.Test.YtngmhkhncimknaaHeap2
import Derived.Test.YtngmhkhncimknaaChecked
import Derived.Conc.SmallLaws
import Derived.KernelRfl
namespace Go.Proofs.Ytngmhkhncimknaa
open Go Go.Conc Go.RowKit
set_option linter.unusedVariables false
set_option linter.unusedSimpArgs false
attribute [local go_sem] n8_self beq_n8 bne_n8

/-- the types of the two goroutines' blocks -/
structure Du (D : Duet) : Prop where
  A : D.tA = 30
  B : D.tB = 5

/-- a block of bytes that the child reads: nobody writes it -/
structure HB (D : Duet) (g : Nat) (cs : Array Value) (w : World) : Prop where
  blk : w.heap[g]? = some (.cells cs 5 (0, 0))
  ch : g ≠ D.ch
  sp : g ≠ D.sp

section
variable {D : Duet} {g : Nat} {cs : Array Value} {w w₁ : World}
theorem HB.rely (hD : Du D) (h : HB D g cs w) (r : RelA D w w₁) : HB D g cs w₁ := by
  refine ⟨?_, h.ch, h.sp⟩
  rw [r.keep g (heap_lt h.blk) h.ch fun ⟨_, hc⟩ => D.ne (isCells_inj hc (hD.B ▸ ⟨cs, (0, 0), h.blk⟩))]
  exact h.blk
theorem HB.relB (h : HB D g cs w) (r : RelB D w w₁) : HB D g cs w₁ := by
  refine ⟨?_, h.ch, h.sp⟩
  rw [r.keep g (heap_lt h.blk) h.ch h.sp]
  exact h.blk
theorem HB.ev (hD : Du D) (h : HB D g cs w) (i : Nat) : calm ⟨.cell ⟨g, i, none⟩, false, false⟩ ∧ ∀ b, (MemAct.ofEvent ⟨.cell ⟨g, i, none⟩, false, false⟩).touch? = some b → b.loc.isMemory = true → Zones.within (zoneB D w) (zoneS D) b := by
  refine ⟨⟨by simp, by simp⟩, fun b hb _ => ?_⟩
  simp only [MemAct.ofEvent, MemAct.touch?, Option.some.injEq] at hb
  subst hb
  by_cases hlt : g < D.base
  · exact .inr ⟨⟨_, rfl, hlt, h.sp⟩, rfl⟩
  · exact .inl (.inl ⟨_, rfl, .inl ⟨Nat.not_lt.1 hlt, hD.B ▸ ⟨cs, (0, 0), h.blk⟩⟩⟩)
theorem HB.cell (h : HB D g cs w) {i : Nat} {v : Value} (hv : cs[i]? = some v) : w.cell? ⟨g, i, none⟩ = some v := by
  rw [cell_of_row w g i _ _ _ h.blk]
  exact hv
theorem gB_still (w : World) : gB D w w #[] := ⟨RelB.at_ w w.drawn, id, evIn_none⟩
theorem termsB (D : Duet) : Terms (RelA D) (gB D) := ⟨fun _ _ _ h k => h.trans k, gB_still⟩
theorem drawB (D : Duet) : LetsDraw (gB D) := fun w => ⟨RelB.at_ w _, id, evIn_none⟩
theorem ownDrawB (w : World) : RelA D w { w with drawn := w.drawn + 1 } := RelA.at_ w _
theorem evIn_one {Z sh : Loc → Prop} {e : Event} (h : calm e ∧ ∀ b, (MemAct.ofEvent e).touch? = some b → b.loc.isMemory = true → Zones.within Z sh b) : evIn Z sh #[e] := fun x hx => by
  obtain rfl : x = e := by simpa using hx
  exact h
end

/-- what the child does to memory ahead of its end: new blocks of bytes -/
def GrowB (D : Duet) (w w' : World) : Prop := RelB D w w' ∧ ∀ i, i < w.heap.size → w'.heap[i]? = w.heap[i]?
/-- what is held of the world while the child walks -/
structure Hold (D : Duet) (S : World → Prop) : Prop where
  rely : ∀ {w w₁}, S w → RelA D w w₁ → S w₁
  grow : ∀ {w w₁}, S w → GrowB D w w₁ → S w₁
/-- a slice of bytes that nobody writes -/
def At (D : Duet) (S : World → Prop) (A : Option Addr) (l : List UInt8) : Prop :=
  0 < l.length → ∃ g o cs, A = some ⟨g, o, none⟩ ∧ (∀ w, S w → HB D g cs w) ∧ ∀ i (h : i < l.length), cs[o + i]? = some (.int .u8 (n8 l[i]))

def lenN (a b : UInt8) : Nat := a.toNat + 256 * b.toNat
/-- how long the frame at the front is, 0 if that can't be told -/
def frN : List UInt8 → Nat
  | x :: a :: b :: _ => if x = 165 then 3 + lenN a b else 0
  | _ => 0
/-- whether one can stand there -/
def frOK : List UInt8 → Bool
  | [] => true
  | x :: r => if x = 165 then (match r with
    | a :: b :: _ => decide (1 ≤ lenN a b) && decide (lenN a b ≤ 256)
    | _ => true) else false

theorem wrap64_n8 (a : UInt8) : IntKind.i64.wrap (n8 a) = n8 a := by
  have := n8_lt a
  have := n8_nonneg a
  rw [IntKind.wrap_i64]; omega
theorem or_i64 (a b : UInt8) : bits .or .i64 (IntKind.i64.wrap (n8 a)) (IntKind.i64.wrap (IntKind.i64.wrap (n8 b) * 256)) = (lenN a b : Int) := by
  have h1 := a.toNat_lt
  have h2 := b.toNat_lt
  have e1 : IntKind.i64.wrap (n8 b * 256) = ((b.toNat * 256 : Nat) : Int) := by unfold n8; rw [IntKind.wrap_i64]; omega
  rw [wrap64_n8, wrap64_n8, e1]
  unfold n8
  rw [(bits_nat .i64 63 (by decide) (fun n h0 h1 => by rw [IntKind.wrap_i64]; omega) a.toNat (b.toNat * 256) (by omega) (by omega)).2, Nat.or_comm, Nat.mul_comm b.toNat 256]
  have := Nat.two_pow_add_eq_or_of_lt (i := 8) (b := a.toNat) (by omega) b.toNat
  rw [show (256 : Nat) = 2 ^ 8 from rfl, ← this]
  unfold lenN
  norm_cast
  omega
theorem lenN_lt (a b : UInt8) : lenN a b < 65536 := by
  have h1 := a.toNat_lt
  have h2 := b.toNat_lt
  unfold lenN
  omega

set_option maxRecDepth 100000 in
set_option maxHeartbeats 1600000 in
theorem first_a {D : Duet} (hD : Du D) {S : World → Prop} (hS : Hold D S) (g o : Nat) (cs : Array Value) (l : List UInt8) (c : Nat) (hl : l.length ≤ 1000000000) (h0 : 0 < l.length) (hcs : ∀ i (h : i < l.length), cs[o + i]? = some (.int .u8 (n8 l[i]))) (hx : l[0] ≠ 165) (ms : Proto) (hb : ∀ w, S w → HB D g cs w) (w : World) (hF : S w) :
    callM Try.prog (XB Try.prog D) 26 #[.slice (some ⟨g, o, none⟩) l.length c] (fun ms' v w' => ms' = ms ∧ v = .tuple #[.int .i64 0, .bool false] ∧ S w') ms w := by
  have e0 : ((l.length : Int) == 0) = false := by rw [beq_eq_false_iff_ne]; omega
  have e1 : (n8 l[0] != 165) = true := by rw [show (165 : Int) = n8 165 from rfl, bne_n8]; simpa using hx
  clear hx
  refine callM_of_wpM kitB Try.func26 rfl ?_
  simp only [Try.ntmps26, List.size_toArray, List.length_cons, List.length_nil, Nat.reduceAdd, Nat.reduceSub, Array.replicate_succ, Array.replicate_zero, List.push_toArray, List.append_toArray, List.nil_append, List.cons_append]
  refine wpM_seq kitB ?_
  refine wpM_region kitB ?_
  simp only [List.size_toArray, List.length_cons, List.length_nil, Nat.reduceAdd, Nat.zero_add, List.range, List.range.loop]
  refine opsM_cons_k kitB rfl (by rfl) ?_
  intro _ hR C hC
  replace hF := hS.rely hF hR
  clear hR
  go_simp
  refine hC _ _ ⟨?_, ?_⟩
  · (co_still (termsB D))
  clear hC C
  try walk_nrm
  refine opsM_cons_k kitB rfl (by rfl) ?_
  intro _ hR C hC
  replace hF := hS.rely hF hR
  clear hR
  go_simp
  refine hC _ _ ⟨?_, ?_⟩
  · (co_still (termsB D))
  clear hC C
  try walk_nrm
  refine opsM_nil kitB ?_
  try simp only [thenM, Exit.inBlock, if_true, if_false, reduceIte, Nat.reduceEqDiff]
  refine wpM_seq kitB ?_
  refine wpM_block kitB ?_
  refine wpM_seq kitB ?_
  refine wpM_region kitB ?_
  simp only [List.size_toArray, List.length_cons, List.length_nil, Nat.reduceAdd, Nat.zero_add, List.range, List.range.loop]
  refine opsM_cons_k kitB rfl (by rfl) ?_
  intro _ hR C hC
  replace hF := hS.rely hF hR
  clear hR
  go_simp
  refine hC _ _ ⟨?_, ?_⟩
  · (co_still (termsB D))
  clear hC C
  try walk_nrm
  refine opsM_cons_k kitB rfl (by rfl) ?_
  intro _ hR C hC
  replace hF := hS.rely hF hR
  clear hR
  go_simp
  refine hC _ _ ⟨?_, ?_⟩
  · (co_still (termsB D))
  clear hC C
  try walk_nrm
  refine opsM_cons_k kitB rfl (by rfl) ?_
  intro _ hR C hC
  replace hF := hS.rely hF hR
  clear hR
  go_simp
  refine hC _ _ ⟨?_, ?_⟩
  · (co_still (termsB D))
  clear hC C
  try walk_nrm
  refine opsM_cons_k kitB rfl (by rfl) ?_
  intro _ hR C hC
  replace hF := hS.rely hF hR
  clear hR
  go_simp
  refine hC _ _ ⟨?_, ?_⟩
  · (co_still (termsB D))
  clear hC C
  try walk_nrm
  refine opsM_nil kitB ?_
  try simp only [thenM, Exit.inBlock, if_true, if_false, reduceIte, Nat.reduceEqDiff]
  refine wpM_cond kitB rfl ?_
  first | simp only [if_true, if_false, reduceIte, Bool.false_eq_true] | fail "COND"
  refine wpM_seq kitB ?_
  refine wpM_region kitB ?_
  simp only [List.size_toArray, List.length_cons, List.length_nil, Nat.reduceAdd, Nat.zero_add, List.range, List.range.loop]
  refine opsM_cons_k kitB rfl (by rfl) ?_
  intro _ hR C hC
  replace hF := hS.rely hF hR
  clear hR
  go_simp
  refine hC _ _ ⟨?_, ?_⟩
  · (co_still (termsB D))
  clear hC C
  try walk_nrm
  refine opsM_cons_k kitB rfl (by rfl) ?_
  intro _ hR C hC
  replace hF := hS.rely hF hR
  clear hR
  go_simp
  refine hC _ _ ⟨?_, ?_⟩
  · (co_still (termsB D))
  clear hC C
  try walk_nrm
  refine opsM_cons_k kitB rfl (by rfl) ?_
  intro _ hR C hC
  replace hF := hS.rely hF hR
  clear hR
  have hc := (hb _ hF).cell (hcs 0 h0)
  rw [Nat.add_zero] at hc
  go_simp
  refine hC _ _ ⟨?_, ?_⟩
  · (refine ⟨RelB.at_ _ _, id, ?_⟩; co_evs (exact (hb _ hF).ev hD _))
  clear hC C
  try walk_nrm
  clear hc
  refine opsM_cons_k kitB rfl (by rfl) ?_
  intro _ hR C hC
  replace hF := hS.rely hF hR
  clear hR
  go_simp
  refine hC _ _ ⟨?_, ?_⟩
  · (co_still (termsB D))
  clear hC C
  try walk_nrm
  refine opsM_cons_k kitB rfl (by rfl) ?_
  intro _ hR C hC
  replace hF := hS.rely hF hR
  clear hR
  go_simp
  refine hC _ _ ⟨?_, ?_⟩
  · (co_still (termsB D))
  clear hC C
  try walk_nrm
  refine opsM_nil kitB ?_
  try simp only [thenM, Exit.inBlock, if_true, if_false, reduceIte, Nat.reduceEqDiff]
  refine wpM_cond kitB rfl ?_
  first | simp only [if_true, if_false, reduceIte, Bool.false_eq_true] | fail "COND"
  refine wpM_seq kitB ?_
  refine wpM_region kitB ?_
  simp only [List.size_toArray, List.length_cons, List.length_nil, Nat.reduceAdd, Nat.zero_add, List.range, List.range.loop]
  refine opsM_cons_k kitB rfl (by rfl) ?_
  intro _ hR C hC
  replace hF := hS.rely hF hR
  clear hR
  go_simp
  refine hC _ _ ⟨?_, ?_⟩
  · (co_still (termsB D))
  clear hC C
  try walk_nrm
  refine opsM_cons_k kitB rfl (by rfl) ?_
  intro _ hR C hC
  replace hF := hS.rely hF hR
  clear hR
  go_simp
  refine hC _ _ ⟨?_, ?_⟩
  · (co_still (termsB D))
  clear hC C
  try walk_nrm
  refine opsM_nil kitB ?_
  try simp only [thenM, Exit.inBlock, if_true, if_false, reduceIte, Nat.reduceEqDiff]
  refine wpM_ret kitB ?_
  try simp only [thenM, Exit.inBlock, if_true, if_false, reduceIte, Nat.reduceEqDiff]
  exact ⟨rfl, _, resultsC_tmp2 (by rfl) _, rfl, by simp, hF⟩
set_option maxRecDepth 100000 in
set_option maxHeartbeats 1600000 in
theorem first_b {D : Duet} (hD : Du D) {S : World → Prop} (hS : Hold D S) (g o : Nat) (cs : Array Value) (l : List UInt8) (c : Nat) (hl : l.length ≤ 1000000000) (h0 : 0 < l.length) (hcs : ∀ i (h : i < l.length), cs[o + i]? = some (.int .u8 (n8 l[i]))) (hx : l[0] = 165) (h3 : l.length < 3) (ms : Proto) (hb : ∀ w, S w → HB D g cs w) (w : World) (hF : S w) :
    callM Try.prog (XB Try.prog D) 26 #[.slice (some ⟨g, o, none⟩) l.length c] (fun ms' v w' => ms' = ms ∧ v = .tuple #[.int .i64 0, .bool true] ∧ S w') ms w := by
  have e0 : ((l.length : Int) == 0) = false := by rw [beq_eq_false_iff_ne]; omega
  have e1 : (n8 l[0] != 165) = false := by rw [show (165 : Int) = n8 165 from rfl, bne_n8]; simpa using hx
  clear hx
  have e3 : decide ((l.length : Int) < 3) = true := decide_eq_true (by omega)
  have e4 : l.length < 3 := h3
  refine callM_of_wpM kitB Try.func26 rfl ?_
  simp only [Try.ntmps26, List.size_toArray, List.length_cons, List.length_nil, Nat.reduceAdd, Nat.reduceSub, Array.replicate_succ, Array.replicate_zero, List.push_toArray, List.append_toArray, List.nil_append, List.cons_append]
  refine wpM_seq kitB ?_
  refine wpM_region kitB ?_
  simp only [List.size_toArray, List.length_cons, List.length_nil, Nat.reduceAdd, Nat.zero_add, List.range, List.range.loop]
  refine opsM_cons_k kitB rfl (by rfl) ?_
  intro _ hR C hC
  replace hF := hS.rely hF hR
  clear hR
  go_simp
  refine hC _ _ ⟨?_, ?_⟩
  · (co_still (termsB D))
  clear hC C
  try walk_nrm
  refine opsM_cons_k kitB rfl (by rfl) ?_
  intro _ hR C hC
  replace hF := hS.rely hF hR
  clear hR
  go_simp
  refine hC _ _ ⟨?_, ?_⟩
  · (co_still (termsB D))
  clear hC C
  try walk_nrm
  refine opsM_nil kitB ?_
  try simp only [thenM, Exit.inBlock, if_true, if_false, reduceIte, Nat.reduceEqDiff]
  refine wpM_seq kitB ?_
  refine wpM_block kitB ?_
  refine wpM_seq kitB ?_
  refine wpM_region kitB ?_
  simp only [List.size_toArray, List.length_cons, List.length_nil, Nat.reduceAdd, Nat.zero_add, List.range, List.range.loop]
  refine opsM_cons_k kitB rfl (by rfl) ?_
  intro _ hR C hC
  replace hF := hS.rely hF hR
  clear hR
  go_simp
  refine hC _ _ ⟨?_, ?_⟩
  · (co_still (termsB D))
  clear hC C
  try walk_nrm
  refine opsM_cons_k kitB rfl (by rfl) ?_
  intro _ hR C hC
  replace hF := hS.rely hF hR
  clear hR
  go_simp
  refine hC _ _ ⟨?_, ?_⟩
  · (co_still (termsB D))
  clear hC C
  try walk_nrm
  refine opsM_cons_k kitB rfl (by rfl) ?_
  intro _ hR C hC
  replace hF := hS.rely hF hR
  clear hR
  go_simp
  refine hC _ _ ⟨?_, ?_⟩
  · (co_still (termsB D))
  clear hC C
  try walk_nrm
  refine opsM_cons_k kitB rfl (by rfl) ?_
  intro _ hR C hC
  replace hF := hS.rely hF hR
  clear hR
  go_simp
  refine hC _ _ ⟨?_, ?_⟩
  · (co_still (termsB D))
  clear hC C
  try walk_nrm
  refine opsM_nil kitB ?_
  try simp only [thenM, Exit.inBlock, if_true, if_false, reduceIte, Nat.reduceEqDiff]
  refine wpM_cond kitB rfl ?_
  first | simp only [if_true, if_false, reduceIte, Bool.false_eq_true] | fail "COND"
  refine wpM_seq kitB ?_
  refine wpM_region kitB ?_
  simp only [List.size_toArray, List.length_cons, List.length_nil, Nat.reduceAdd, Nat.zero_add, List.range, List.range.loop]
  refine opsM_cons_k kitB rfl (by rfl) ?_
  intro _ hR C hC
  replace hF := hS.rely hF hR
  clear hR
  go_simp
  refine hC _ _ ⟨?_, ?_⟩
  · (co_still (termsB D))
  clear hC C
  try walk_nrm
  refine opsM_cons_k kitB rfl (by rfl) ?_
  intro _ hR C hC
  replace hF := hS.rely hF hR
  clear hR
  go_simp
  refine hC _ _ ⟨?_, ?_⟩
  · (co_still (termsB D))
  clear hC C
  try walk_nrm
  refine opsM_cons_k kitB rfl (by rfl) ?_
  intro _ hR C hC
  replace hF := hS.rely hF hR
  clear hR
  have hc := (hb _ hF).cell (hcs 0 h0)
  rw [Nat.add_zero] at hc
  go_simp
  refine hC _ _ ⟨?_, ?_⟩
  · (refine ⟨RelB.at_ _ _, id, ?_⟩; co_evs (exact (hb _ hF).ev hD _))
  clear hC C
  try walk_nrm
  clear hc
  refine opsM_cons_k kitB rfl (by rfl) ?_
  intro _ hR C hC
  replace hF := hS.rely hF hR
  clear hR
  go_simp
  refine hC _ _ ⟨?_, ?_⟩
  · (co_still (termsB D))
  clear hC C
  try walk_nrm
  refine opsM_cons_k kitB rfl (by rfl) ?_
  intro _ hR C hC
  replace hF := hS.rely hF hR
  clear hR
  go_simp
  refine hC _ _ ⟨?_, ?_⟩
  · (co_still (termsB D))
  clear hC C
  try walk_nrm
  refine opsM_nil kitB ?_
  try simp only [thenM, Exit.inBlock, if_true, if_false, reduceIte, Nat.reduceEqDiff]
  refine wpM_cond kitB rfl ?_
  first | simp only [if_true, if_false, reduceIte, Bool.false_eq_true] | fail "COND"
  refine wpM_seq kitB ?_
  refine wpM_region kitB ?_
  simp only [List.size_toArray, List.length_cons, List.length_nil, Nat.reduceAdd, Nat.zero_add, List.range, List.range.loop]
  refine opsM_cons_k kitB rfl (by rfl) ?_
  intro _ hR C hC
  replace hF := hS.rely hF hR
  clear hR
  go_simp
  refine hC _ _ ⟨?_, ?_⟩
  · (co_still (termsB D))
  clear hC C
  try walk_nrm
  refine opsM_cons_k kitB rfl (by rfl) ?_
  intro _ hR C hC
  replace hF := hS.rely hF hR
  clear hR
  go_simp
  refine hC _ _ ⟨?_, ?_⟩
  · (co_still (termsB D))
  clear hC C
  try walk_nrm
  refine opsM_cons_k kitB rfl (by rfl) ?_
  intro _ hR C hC
  replace hF := hS.rely hF hR
  clear hR
  go_simp
  refine hC _ _ ⟨?_, ?_⟩
  · (co_still (termsB D))
  clear hC C
  try walk_nrm
  refine opsM_cons_k kitB rfl (by rfl) ?_
  intro _ hR C hC
  replace hF := hS.rely hF hR
  clear hR
  go_simp
  refine hC _ _ ⟨?_, ?_⟩
  · (co_still (termsB D))
  clear hC C
  try walk_nrm
  refine opsM_nil kitB ?_
  try simp only [thenM, Exit.inBlock, if_true, if_false, reduceIte, Nat.reduceEqDiff]
  refine wpM_cond kitB rfl ?_
  first | simp only [if_true, if_false, reduceIte, Bool.false_eq_true] | fail "COND"
  refine wpM_seq kitB ?_
  refine wpM_region kitB ?_
  simp only [List.size_toArray, List.length_cons, List.length_nil, Nat.reduceAdd, Nat.zero_add, List.range, List.range.loop]
  refine opsM_cons_k kitB rfl (by rfl) ?_
  intro _ hR C hC
  replace hF := hS.rely hF hR
  clear hR
  go_simp
  refine hC _ _ ⟨?_, ?_⟩
  · (co_still (termsB D))
  clear hC C
  try walk_nrm
  refine opsM_cons_k kitB rfl (by rfl) ?_
  intro _ hR C hC
  replace hF := hS.rely hF hR
  clear hR
  go_simp
  refine hC _ _ ⟨?_, ?_⟩
  · (co_still (termsB D))
  clear hC C
  try walk_nrm
  refine opsM_nil kitB ?_
  try simp only [thenM, Exit.inBlock, if_true, if_false, reduceIte, Nat.reduceEqDiff]
  refine wpM_ret kitB ?_
  try simp only [thenM, Exit.inBlock, if_true, if_false, reduceIte, Nat.reduceEqDiff]
  exact ⟨rfl, _, resultsC_tmp2 (by rfl) _, rfl, by simp, hF⟩
set_option maxRecDepth 100000 in
set_option maxHeartbeats 1600000 in
theorem first_c {D : Duet} (hD : Du D) {S : World → Prop} (hS : Hold D S) (g o : Nat) (cs : Array Value) (l : List UInt8) (c : Nat) (hl : l.length ≤ 1000000000) (h0 : 0 < l.length) (hcs : ∀ i (h : i < l.length), cs[o + i]? = some (.int .u8 (n8 l[i]))) (hx : l[0] = 165) (h3 : 3 ≤ l.length) (ms : Proto) (hb : ∀ w, S w → HB D g cs w) (w : World) (hF : S w) :
    callM Try.prog (XB Try.prog D) 26 #[.slice (some ⟨g, o, none⟩) l.length c] (fun ms' v w' => ms' = ms ∧ v = .tuple #[.int .i64 (3 + lenN l[1] l[2] : Nat), .bool (decide (1 ≤ lenN l[1] l[2]) && decide (lenN l[1] l[2] ≤ 256))] ∧ S w') ms w := by
  have e0 : ((l.length : Int) == 0) = false := by rw [beq_eq_false_iff_ne]; omega
  have e1 : (n8 l[0] != 165) = false := by rw [show (165 : Int) = n8 165 from rfl, bne_n8]; simpa using hx
  clear hx
  have e3 : decide ((l.length : Int) < 3) = false := decide_eq_false (by omega)
  have e4 : ¬ l.length < 3 := by omega
  have h1 : 1 < l.length := by omega
  have h2 : 2 < l.length := by omega
  have i1 : (1 : Int) < (l.length : Int) := by omega
  have i2 : (2 : Int) < (l.length : Int) := by omega
  refine callM_of_wpM kitB Try.func26 rfl ?_
  simp only [Try.ntmps26, List.size_toArray, List.length_cons, List.length_nil, Nat.reduceAdd, Nat.reduceSub, Array.replicate_succ, Array.replicate_zero, List.push_toArray, List.append_toArray, List.nil_append, List.cons_append]
  refine wpM_seq kitB ?_
  refine wpM_region kitB ?_
  simp only [List.size_toArray, List.length_cons, List.length_nil, Nat.reduceAdd, Nat.zero_add, List.range, List.range.loop]
  refine opsM_cons_k kitB rfl (by rfl) ?_
  intro _ hR C hC
  replace hF := hS.rely hF hR
  clear hR
  go_simp
  refine hC _ _ ⟨?_, ?_⟩
  · (co_still (termsB D))
  clear hC C
  try walk_nrm
  refine opsM_cons_k kitB rfl (by rfl) ?_
  intro _ hR C hC
  replace hF := hS.rely hF hR
  clear hR
  go_simp
  refine hC _ _ ⟨?_, ?_⟩
  · (co_still (termsB D))
  clear hC C
  try walk_nrm
  refine opsM_nil kitB ?_
  try simp only [thenM, Exit.inBlock, if_true, if_false, reduceIte, Nat.reduceEqDiff]
  refine wpM_seq kitB ?_
  refine wpM_block kitB ?_
  refine wpM_seq kitB ?_
  refine wpM_region kitB ?_
  simp only [List.size_toArray, List.length_cons, List.length_nil, Nat.reduceAdd, Nat.zero_add, List.range, List.range.loop]
  refine opsM_cons_k kitB rfl (by rfl) ?_
  intro _ hR C hC
  replace hF := hS.rely hF hR
  clear hR
  go_simp
  refine hC _ _ ⟨?_, ?_⟩
  · (co_still (termsB D))
  clear hC C
  try walk_nrm
  refine opsM_cons_k kitB rfl (by rfl) ?_
  intro _ hR C hC
  replace hF := hS.rely hF hR
  clear hR
  go_simp
  refine hC _ _ ⟨?_, ?_⟩
  · (co_still (termsB D))
  clear hC C
  try walk_nrm
  refine opsM_cons_k kitB rfl (by rfl) ?_
  intro _ hR C hC
  replace hF := hS.rely hF hR
  clear hR
  go_simp
  refine hC _ _ ⟨?_, ?_⟩
  · (co_still (termsB D))
  clear hC C
  try walk_nrm
  refine opsM_cons_k kitB rfl (by rfl) ?_
  intro _ hR C hC
  replace hF := hS.rely hF hR
  clear hR
  go_simp
  refine hC _ _ ⟨?_, ?_⟩
  · (co_still (termsB D))
  clear hC C
  try walk_nrm
  refine opsM_nil kitB ?_
  try simp only [thenM, Exit.inBlock, if_true, if_false, reduceIte, Nat.reduceEqDiff]
  refine wpM_cond kitB rfl ?_
  first | simp only [if_true, if_false, reduceIte, Bool.false_eq_true] | fail "COND"
  refine wpM_seq kitB ?_
  refine wpM_region kitB ?_
  simp only [List.size_toArray, List.length_cons, List.length_nil, Nat.reduceAdd, Nat.zero_add, List.range, List.range.loop]
  refine opsM_cons_k kitB rfl (by rfl) ?_
  intro _ hR C hC
  replace hF := hS.rely hF hR
  clear hR
  go_simp
  refine hC _ _ ⟨?_, ?_⟩
  · (co_still (termsB D))
  clear hC C
  try walk_nrm
  refine opsM_cons_k kitB rfl (by rfl) ?_
  intro _ hR C hC
  replace hF := hS.rely hF hR
  clear hR
  go_simp
  refine hC _ _ ⟨?_, ?_⟩
  · (co_still (termsB D))
  clear hC C
  try walk_nrm
  refine opsM_cons_k kitB rfl (by rfl) ?_
  intro _ hR C hC
  replace hF := hS.rely hF hR
  clear hR
  have hc := (hb _ hF).cell (hcs 0 h0)
  rw [Nat.add_zero] at hc
  go_simp
  refine hC _ _ ⟨?_, ?_⟩
  · (refine ⟨RelB.at_ _ _, id, ?_⟩; co_evs (exact (hb _ hF).ev hD _))
  clear hC C
  try walk_nrm
  clear hc
  refine opsM_cons_k kitB rfl (by rfl) ?_
  intro _ hR C hC
  replace hF := hS.rely hF hR
  clear hR
  go_simp
  refine hC _ _ ⟨?_, ?_⟩
  · (co_still (termsB D))
  clear hC C
  try walk_nrm
  refine opsM_cons_k kitB rfl (by rfl) ?_
  intro _ hR C hC
  replace hF := hS.rely hF hR
  clear hR
  go_simp
  refine hC _ _ ⟨?_, ?_⟩
  · (co_still (termsB D))
  clear hC C
  try walk_nrm
  refine opsM_nil kitB ?_
  try simp only [thenM, Exit.inBlock, if_true, if_false, reduceIte, Nat.reduceEqDiff]
  refine wpM_cond kitB rfl ?_
  first | simp only [if_true, if_false, reduceIte, Bool.false_eq_true] | fail "COND"
  refine wpM_seq kitB ?_
  refine wpM_region kitB ?_
  simp only [List.size_toArray, List.length_cons, List.length_nil, Nat.reduceAdd, Nat.zero_add, List.range, List.range.loop]
  refine opsM_cons_k kitB rfl (by rfl) ?_
  intro _ hR C hC
  replace hF := hS.rely hF hR
  clear hR
  go_simp
  refine hC _ _ ⟨?_, ?_⟩
  · (co_still (termsB D))
  clear hC C
  try walk_nrm
  refine opsM_cons_k kitB rfl (by rfl) ?_
  intro _ hR C hC
  replace hF := hS.rely hF hR
  clear hR
  go_simp
  refine hC _ _ ⟨?_, ?_⟩
  · (co_still (termsB D))
  clear hC C
  try walk_nrm
  refine opsM_cons_k kitB rfl (by rfl) ?_
  intro _ hR C hC
  replace hF := hS.rely hF hR
  clear hR
  go_simp
  refine hC _ _ ⟨?_, ?_⟩
  · (co_still (termsB D))
  clear hC C
  try walk_nrm
  refine opsM_cons_k kitB rfl (by rfl) ?_
  intro _ hR C hC
  replace hF := hS.rely hF hR
  clear hR
  go_simp
  refine hC _ _ ⟨?_, ?_⟩
  · (co_still (termsB D))
  clear hC C
  try walk_nrm
  refine opsM_nil kitB ?_
  try simp only [thenM, Exit.inBlock, if_true, if_false, reduceIte, Nat.reduceEqDiff]
  refine wpM_cond kitB rfl ?_
  first | simp only [if_true, if_false, reduceIte, Bool.false_eq_true] | fail "COND"
  refine wpM_skip kitB ?_
  try simp only [thenM, Exit.inBlock, if_true, if_false, reduceIte, Nat.reduceEqDiff]
  refine wpM_seq kitB ?_
  refine wpM_of_wpC kitB (n := 11 + 1 + 1) (Q' := _) ?_ (fun _ _ _ h => h)
  refine wpC_region_held (termsB D) (drawB D) (S := S) (by first | kernel_rfl | rfl) ?_
  intro _ hR
  replace hF := hS.rely (hS.rely hF hR) (ownDrawB _)
  clear hR
  simp only [List.size_toArray, List.length_cons, List.length_nil, Nat.reduceAdd, Nat.zero_add]
  co_applyP anyCH_take (termsB D) (fun _ _ h r => hS.rely h r) (fun _ _ _ h r => wpM_rely kitB h r) (i := 0) rfl (by first | kernel_rfl | decide +kernel) (by first | kernel_rfl | decide +kernel) (by first | kernel_rfl | decide +kernel) (.inl ⟨by rfl, fun _ hw => ⟨run_eq_of ?run1, ?guar1⟩⟩) hF ?rest1
  case run1 =>
    intro C hC
    skip
    go_simp
    exact hC
  case guar1 =>
    skip
    (co_still (termsB D))
  try walk_nrm
  co_applyP anyCH_take (termsB D) (fun _ _ h r => hS.rely h r) (fun _ _ _ h r => wpM_rely kitB h r) (i := 1) rfl (by first | kernel_rfl | decide +kernel) (by first | kernel_rfl | decide +kernel) (by first | kernel_rfl | decide +kernel) (.inl ⟨by rfl, fun _ hw => ⟨run_eq_of ?run2, ?guar2⟩⟩) hF ?rest2
  case run2 =>
    intro C hC
    skip
    go_simp
    exact hC
  case guar2 =>
    skip
    (co_still (termsB D))
  try walk_nrm
  co_applyP anyCH_take (termsB D) (fun _ _ h r => hS.rely h r) (fun _ _ _ h r => wpM_rely kitB h r) (i := 2) rfl (by first | kernel_rfl | decide +kernel) (by first | kernel_rfl | decide +kernel) (by first | kernel_rfl | decide +kernel) (.inl ⟨by rfl, fun _ hw => ⟨run_eq_of ?run3, ?guar3⟩⟩) hF ?rest3
  case run3 =>
    intro C hC
    have hc := (hb _ hw).cell (hcs 1 h1)
    go_simp
    exact hC
  case guar3 =>
    have hc := (hb _ hw).cell (hcs 1 h1)
    (refine ⟨RelB.at_ _ _, id, ?_⟩; co_evs (exact (hb _ hw).ev hD _))
  try walk_nrm
  co_applyP anyCH_take (termsB D) (fun _ _ h r => hS.rely h r) (fun _ _ _ h r => wpM_rely kitB h r) (i := 3) rfl (by first | kernel_rfl | decide +kernel) (by first | kernel_rfl | decide +kernel) (by first | kernel_rfl | decide +kernel) (.inl ⟨by rfl, fun _ hw => ⟨run_eq_of ?run4, ?guar4⟩⟩) hF ?rest4
  case run4 =>
    intro C hC
    skip
    go_simp
    exact hC
  case guar4 =>
    skip
    (co_still (termsB D))
  try walk_nrm
  co_applyP anyCH_take (termsB D) (fun _ _ h r => hS.rely h r) (fun _ _ _ h r => wpM_rely kitB h r) (i := 4) rfl (by first | kernel_rfl | decide +kernel) (by first | kernel_rfl | decide +kernel) (by first | kernel_rfl | decide +kernel) (.inl ⟨by rfl, fun _ hw => ⟨run_eq_of ?run5, ?guar5⟩⟩) hF ?rest5
  case run5 =>
    intro C hC
    skip
    go_simp
    exact hC
  case guar5 =>
    skip
    (co_still (termsB D))
  try walk_nrm
  co_applyP anyCH_take (termsB D) (fun _ _ h r => hS.rely h r) (fun _ _ _ h r => wpM_rely kitB h r) (i := 5) rfl (by first | kernel_rfl | decide +kernel) (by first | kernel_rfl | decide +kernel) (by first | kernel_rfl | decide +kernel) (.inl ⟨by rfl, fun _ hw => ⟨run_eq_of ?run6, ?guar6⟩⟩) hF ?rest6
  case run6 =>
    intro C hC
    skip
    go_simp
    exact hC
  case guar6 =>
    skip
    (co_still (termsB D))
  try walk_nrm
  co_applyP anyCH_take (termsB D) (fun _ _ h r => hS.rely h r) (fun _ _ _ h r => wpM_rely kitB h r) (i := 6) rfl (by first | kernel_rfl | decide +kernel) (by first | kernel_rfl | decide +kernel) (by first | kernel_rfl | decide +kernel) (.inl ⟨by rfl, fun _ hw => ⟨run_eq_of ?run7, ?guar7⟩⟩) hF ?rest7
  case run7 =>
    intro C hC
    have hc := (hb _ hw).cell (hcs 2 h2)
    go_simp
    exact hC
  case guar7 =>
    have hc := (hb _ hw).cell (hcs 2 h2)
    (refine ⟨RelB.at_ _ _, id, ?_⟩; co_evs (exact (hb _ hw).ev hD _))
  try walk_nrm
  co_applyP anyCH_take (termsB D) (fun _ _ h r => hS.rely h r) (fun _ _ _ h r => wpM_rely kitB h r) (i := 7) rfl (by first | kernel_rfl | decide +kernel) (by first | kernel_rfl | decide +kernel) (by first | kernel_rfl | decide +kernel) (.inl ⟨by rfl, fun _ hw => ⟨run_eq_of ?run8, ?guar8⟩⟩) hF ?rest8
  case run8 =>
    intro C hC
    skip
    go_simp
    exact hC
  case guar8 =>
    skip
    (co_still (termsB D))
  try walk_nrm
  co_applyP anyCH_take (termsB D) (fun _ _ h r => hS.rely h r) (fun _ _ _ h r => wpM_rely kitB h r) (i := 8) rfl (by first | kernel_rfl | decide +kernel) (by first | kernel_rfl | decide +kernel) (by first | kernel_rfl | decide +kernel) (.inl ⟨by rfl, fun _ hw => ⟨run_eq_of ?run9, ?guar9⟩⟩) hF ?rest9
  case run9 =>
    intro C hC
    skip
    go_simp
    exact hC
  case guar9 =>
    skip
    (co_still (termsB D))
  try walk_nrm
  co_applyP anyCH_take (termsB D) (fun _ _ h r => hS.rely h r) (fun _ _ _ h r => wpM_rely kitB h r) (i := 9) rfl (by first | kernel_rfl | decide +kernel) (by first | kernel_rfl | decide +kernel) (by first | kernel_rfl | decide +kernel) (.inl ⟨by rfl, fun _ hw => ⟨run_eq_of ?run10, ?guar10⟩⟩) hF ?rest10
  case run10 =>
    intro C hC
    skip
    go_simp
    exact hC
  case guar10 =>
    skip
    (co_still (termsB D))
  try walk_nrm
  co_applyP anyCH_take (termsB D) (fun _ _ h r => hS.rely h r) (fun _ _ _ h r => wpM_rely kitB h r) (i := 10) rfl (by first | kernel_rfl | decide +kernel) (by first | kernel_rfl | decide +kernel) (by first | kernel_rfl | decide +kernel) (.inl ⟨by rfl, fun _ hw => ⟨run_eq_of ?run11, ?guar11⟩⟩) hF ?rest11
  case run11 =>
    intro C hC
    skip
    go_simp
    exact hC
  case guar11 =>
    skip
    (co_still (termsB D))
  try walk_nrm
  refine anyCH_done (by first | kernel_rfl | decide +kernel) ?_ _
  try simp only [thenM, Exit.inBlock, if_true, if_false, reduceIte, Nat.reduceEqDiff]
  rw [or_i64]
  have hn := lenN_lt l[1] l[2]
  generalize lenN l[1] l[2] = n at *
  have q3 : IntKind.i64.wrap ((3 : Int) + (n : Int)) = ((3 + n : Nat) : Int) := by rw [IntKind.wrap_i64]; omega
  by_cases hn1 : 1 ≤ n
  · have d1 : decide ((1 : Int) ≤ (n : Int)) = true := decide_eq_true (by omega)
    have d2 : decide (1 ≤ n) = true := decide_eq_true hn1
    rw [d2, Bool.true_and]
    refine wpM_seq kitB ?_
    refine wpM_region kitB ?_
    simp only [List.size_toArray, List.length_cons, List.length_nil, Nat.reduceAdd, Nat.zero_add, List.range, List.range.loop]
    refine opsM_cons_k kitB rfl (by rfl) ?_
    intro _ hR C hC
    replace hF := hS.rely hF hR
    clear hR
    go_simp
    refine hC _ _ ⟨?_, ?_⟩
    · (co_still (termsB D))
    clear hC C
    try walk_nrm
    refine opsM_cons_k kitB rfl (by rfl) ?_
    intro _ hR C hC
    replace hF := hS.rely hF hR
    clear hR
    go_simp
    refine hC _ _ ⟨?_, ?_⟩
    · (co_still (termsB D))
    clear hC C
    try walk_nrm
    refine opsM_cons_k kitB rfl (by rfl) ?_
    intro _ hR C hC
    replace hF := hS.rely hF hR
    clear hR
    go_simp
    refine hC _ _ ⟨?_, ?_⟩
    · (co_still (termsB D))
    clear hC C
    try walk_nrm
    refine opsM_cons_k kitB rfl (by rfl) ?_
    intro _ hR C hC
    replace hF := hS.rely hF hR
    clear hR
    go_simp
    refine hC _ _ ⟨?_, ?_⟩
    · (co_still (termsB D))
    clear hC C
    try walk_nrm
    refine opsM_cons_k kitB rfl (by rfl) ?_
    intro _ hR C hC
    replace hF := hS.rely hF hR
    clear hR
    go_simp
    refine hC _ _ ⟨?_, ?_⟩
    · (co_still (termsB D))
    clear hC C
    try walk_nrm
    refine opsM_cons_k kitB rfl (by rfl) ?_
    intro _ hR C hC
    replace hF := hS.rely hF hR
    clear hR
    go_simp
    refine hC _ _ ⟨?_, ?_⟩
    · (co_still (termsB D))
    clear hC C
    try walk_nrm
    refine opsM_cons_k kitB rfl (by rfl) ?_
    intro _ hR C hC
    replace hF := hS.rely hF hR
    clear hR
    go_simp
    refine hC _ _ ⟨?_, ?_⟩
    · (co_still (termsB D))
    clear hC C
    try walk_nrm
    refine opsM_cons_k kitB rfl (by rfl) ?_
    intro _ hR C hC
    replace hF := hS.rely hF hR
    clear hR
    go_simp
    refine hC _ _ ⟨?_, ?_⟩
    · (co_still (termsB D))
    clear hC C
    try walk_nrm
    refine opsM_cons_k kitB rfl (by rfl) ?_
    intro _ hR C hC
    replace hF := hS.rely hF hR
    clear hR
    go_simp
    refine hC _ _ ⟨?_, ?_⟩
    · (co_still (termsB D))
    clear hC C
    try walk_nrm
    refine opsM_cons_k kitB rfl (by rfl) ?_
    intro _ hR C hC
    replace hF := hS.rely hF hR
    clear hR
    go_simp
    refine hC _ _ ⟨?_, ?_⟩
    · (co_still (termsB D))
    clear hC C
    try walk_nrm
    refine opsM_nil kitB ?_
    try simp only [thenM, Exit.inBlock, if_true, if_false, reduceIte, Nat.reduceEqDiff]
    refine wpM_ret kitB ?_
    try simp only [thenM, Exit.inBlock, if_true, if_false, reduceIte, Nat.reduceEqDiff]
    refine ⟨rfl, _, resultsC_tmp2 (by rfl) _, rfl, ?_, hF⟩
    show Value.tuple #[.int .i64 ((3 : Int) + (n : Int)), .bool (decide ((n : Int) ≤ 256))] = _
    rw [show (3 : Int) + (n : Int) = ((3 + n : Nat) : Int) by omega, show decide ((n : Int) ≤ 256) = decide (n ≤ 256) by rw [decide_eq_decide]; omega]
  · have d1 : decide ((1 : Int) ≤ (n : Int)) = false := decide_eq_false (by omega)
    have d2 : decide (1 ≤ n) = false := decide_eq_false hn1
    rw [d2, Bool.false_and]
    refine wpM_seq kitB ?_
    refine wpM_region kitB ?_
    simp only [List.size_toArray, List.length_cons, List.length_nil, Nat.reduceAdd, Nat.zero_add, List.range, List.range.loop]
    refine opsM_cons_k kitB rfl (by rfl) ?_
    intro _ hR C hC
    replace hF := hS.rely hF hR
    clear hR
    go_simp
    refine hC _ _ ⟨?_, ?_⟩
    · (co_still (termsB D))
    clear hC C
    try walk_nrm
    refine opsM_cons_k kitB rfl (by rfl) ?_
    intro _ hR C hC
    replace hF := hS.rely hF hR
    clear hR
    go_simp
    refine hC _ _ ⟨?_, ?_⟩
    · (co_still (termsB D))
    clear hC C
    try walk_nrm
    refine opsM_cons_k kitB rfl (by rfl) ?_
    intro _ hR C hC
    replace hF := hS.rely hF hR
    clear hR
    go_simp
    refine hC _ _ ⟨?_, ?_⟩
    · (co_still (termsB D))
    clear hC C
    try walk_nrm
    refine opsM_cons_k kitB rfl (by rfl) ?_
    intro _ hR C hC
    replace hF := hS.rely hF hR
    clear hR
    go_simp
    refine hC _ _ ⟨?_, ?_⟩
    · (co_still (termsB D))
    clear hC C
    try walk_nrm
    refine opsM_cons_k kitB rfl (by rfl) ?_
    intro _ hR C hC
    replace hF := hS.rely hF hR
    clear hR
    go_simp
    refine hC _ _ ⟨?_, ?_⟩
    · (co_still (termsB D))
    clear hC C
    try walk_nrm
    refine opsM_pass kitB rfl (by rfl) ?_
    try walk_nrm
    refine opsM_pass kitB rfl (by rfl) ?_
    try walk_nrm
    refine opsM_cons_k kitB rfl (by rfl) ?_
    intro _ hR C hC
    replace hF := hS.rely hF hR
    clear hR
    go_simp
    refine hC _ _ ⟨?_, ?_⟩
    · (co_still (termsB D))
    clear hC C
    try walk_nrm
    refine opsM_cons_k kitB rfl (by rfl) ?_
    intro _ hR C hC
    replace hF := hS.rely hF hR
    clear hR
    go_simp
    refine hC _ _ ⟨?_, ?_⟩
    · (co_still (termsB D))
    clear hC C
    try walk_nrm
    refine opsM_cons_k kitB rfl (by rfl) ?_
    intro _ hR C hC
    replace hF := hS.rely hF hR
    clear hR
    go_simp
    refine hC _ _ ⟨?_, ?_⟩
    · (co_still (termsB D))
    clear hC C
    try walk_nrm
    refine opsM_nil kitB ?_
    try simp only [thenM, Exit.inBlock, if_true, if_false, reduceIte, Nat.reduceEqDiff]
    refine wpM_ret kitB ?_
    try simp only [thenM, Exit.inBlock, if_true, if_false, reduceIte, Nat.reduceEqDiff]
    refine ⟨rfl, _, resultsC_tmp2 (by rfl) _, rfl, ?_, hF⟩
    show Value.tuple #[.int .i64 ((3 : Int) + (n : Int)), .bool false] = _
    rw [show (3 : Int) + (n : Int) = ((3 + n : Nat) : Int) by omega]
set_option maxRecDepth 100000 in
theorem first_0 {D : Duet} {S : World → Prop} (hS : Hold D S) (A : Option Addr) (c : Nat) (ms : Proto) (w : World) (hF : S w) :
    callM Try.prog (XB Try.prog D) 26 #[.slice A 0 c] (fun ms' v w' => ms' = ms ∧ v = .tuple #[.int .i64 0, .bool true] ∧ S w') ms w := by
  refine callM_of_wpM kitB Try.func26 rfl ?_
  simp only [Try.ntmps26, List.size_toArray, List.length_cons, List.length_nil, Nat.reduceAdd, Nat.reduceSub, Array.replicate_succ, Array.replicate_zero, List.push_toArray, List.append_toArray, List.nil_append, List.cons_append]
  refine wpM_seq kitB ?_
  refine wpM_region kitB ?_
  simp only [List.size_toArray, List.length_cons, List.length_nil, Nat.reduceAdd, Nat.zero_add, List.range, List.range.loop]
  refine opsM_cons_k kitB rfl (by rfl) ?_
  intro _ hR C hC
  replace hF := hS.rely hF hR
  clear hR
  go_simp
  refine hC _ _ ⟨?_, ?_⟩
  · (co_still (termsB D))
  clear hC C
  try walk_nrm
  refine opsM_cons_k kitB rfl (by rfl) ?_
  intro _ hR C hC
  replace hF := hS.rely hF hR
  clear hR
  go_simp
  refine hC _ _ ⟨?_, ?_⟩
  · (co_still (termsB D))
  clear hC C
  try walk_nrm
  refine opsM_nil kitB ?_
  try simp only [thenM, Exit.inBlock, if_true, if_false, reduceIte, Nat.reduceEqDiff]
  refine wpM_seq kitB ?_
  refine wpM_block kitB ?_
  refine wpM_seq kitB ?_
  refine wpM_region kitB ?_
  simp only [List.size_toArray, List.length_cons, List.length_nil, Nat.reduceAdd, Nat.zero_add, List.range, List.range.loop]
  refine opsM_cons_k kitB rfl (by rfl) ?_
  intro _ hR C hC
  replace hF := hS.rely hF hR
  clear hR
  go_simp
  refine hC _ _ ⟨?_, ?_⟩
  · (co_still (termsB D))
  clear hC C
  try walk_nrm
  refine opsM_cons_k kitB rfl (by rfl) ?_
  intro _ hR C hC
  replace hF := hS.rely hF hR
  clear hR
  go_simp
  refine hC _ _ ⟨?_, ?_⟩
  · (co_still (termsB D))
  clear hC C
  try walk_nrm
  refine opsM_cons_k kitB rfl (by rfl) ?_
  intro _ hR C hC
  replace hF := hS.rely hF hR
  clear hR
  go_simp
  refine hC _ _ ⟨?_, ?_⟩
  · (co_still (termsB D))
  clear hC C
  try walk_nrm
  refine opsM_cons_k kitB rfl (by rfl) ?_
  intro _ hR C hC
  replace hF := hS.rely hF hR
  clear hR
  go_simp
  refine hC _ _ ⟨?_, ?_⟩
  · (co_still (termsB D))
  clear hC C
  try walk_nrm
  refine opsM_nil kitB ?_
  try simp only [thenM, Exit.inBlock, if_true, if_false, reduceIte, Nat.reduceEqDiff]
  refine wpM_cond kitB rfl ?_
  first | simp only [if_true, if_false, reduceIte, Bool.false_eq_true] | fail "COND"
  refine wpM_seq kitB ?_
  refine wpM_region kitB ?_
  simp only [List.size_toArray, List.length_cons, List.length_nil, Nat.reduceAdd, Nat.zero_add, List.range, List.range.loop]
  refine opsM_cons_k kitB rfl (by rfl) ?_
  intro _ hR C hC
  replace hF := hS.rely hF hR
  clear hR
  go_simp
  refine hC _ _ ⟨?_, ?_⟩
  · (co_still (termsB D))
  clear hC C
  try walk_nrm
  refine opsM_cons_k kitB rfl (by rfl) ?_
  intro _ hR C hC
  replace hF := hS.rely hF hR
  clear hR
  go_simp
  refine hC _ _ ⟨?_, ?_⟩
  · (co_still (termsB D))
  clear hC C
  try walk_nrm
  refine opsM_nil kitB ?_
  try simp only [thenM, Exit.inBlock, if_true, if_false, reduceIte, Nat.reduceEqDiff]
  refine wpM_ret kitB ?_
  try simp only [thenM, Exit.inBlock, if_true, if_false, reduceIte, Nat.reduceEqDiff]
  exact ⟨rfl, _, resultsC_tmp2 (by rfl) _, rfl, by simp, hF⟩

theorem first_calls {D : Duet} (hD : Du D) {S : World → Prop} (hS : Hold D S) (A : Option Addr) (c : Nat) (l : List UInt8) (hl : l.length ≤ 1000000000) (hA : At D S A l) (ms : Proto) (w : World) (hF : S w) :
    callM Try.prog (XB Try.prog D) 26 #[.slice A l.length c] (fun ms' v w' => ms' = ms ∧ v = .tuple #[.int .i64 (frN l : Int), .bool (frOK l)] ∧ S w') ms w := by
  match l, hl, hA with
  | [], _, _ => exact first_0 hS A c ms w hF
  | x :: r, hl, hA =>
    obtain ⟨g, o, cs, rfl, hb, hcs⟩ := hA (by simp)
    by_cases hx : x = 165
    · subst hx
      match r, hl, hcs with
      | [], hl, hcs => exact first_b hD hS g o cs [165] c hl (by simp) hcs rfl (by simp) ms hb w hF
      | [a], hl, hcs => exact first_b hD hS g o cs [165, a] c hl (by simp) hcs rfl (by simp) ms hb w hF
      | a :: b :: r, hl, hcs => exact first_c hD hS g o cs (165 :: a :: b :: r) c hl (by simp) hcs rfl (by simp) ms hb w hF
    · have := first_a hD hS g o cs (x :: r) c hl (by simp) hcs hx ms hb w hF
      have e1 : frN (x :: r) = 0 := by cases r with
        | nil => rfl
        | cons a r => cases r with
          | nil => rfl
          | cons b r => simp [frN, hx]
      have e2 : frOK (x :: r) = false := by simp [frOK, hx]
      rw [e1, e2]
      exact this
end Go.Proofs.Ytngmhkhncimknaa

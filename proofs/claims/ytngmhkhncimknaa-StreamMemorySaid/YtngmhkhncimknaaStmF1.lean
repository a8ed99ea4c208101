/- Feed$1 beside goroutine 0: the child's whole script. -/
import Derived.Test.YtngmhkhncimknaaStmAny
namespace Go.Proofs.Ytngmhkhncimknaa
open Go Go.Conc Go.RowKit
set_option linter.unusedVariables false
set_option linter.unusedSimpArgs false

/-- a block that was there before the fork, and that nobody writes -/
structure LB (D : Duet) (g : Nat) (cs : Array Value) (t : TypeId) (w : World) : Prop where
  blk : w.heap[g]? = some (.cells cs t (0, 0))
  lo : g < D.base
  ch : g ≠ D.ch
  sp : g ≠ D.sp

section
variable {D : Duet} {g : Nat} {cs : Array Value} {t : TypeId} {w w₁ : World}
theorem LB.rely (h : LB D g cs t w) (r : RelA D w w₁) : LB D g cs t w₁ :=
  ⟨by rw [r.keep g (heap_lt h.blk) h.ch fun ⟨hb, _⟩ => absurd h.lo (by omega)]; exact h.blk, h.lo, h.ch, h.sp⟩
theorem LB.relB (h : LB D g cs t w) (r : RelB D w w₁) : LB D g cs t w₁ :=
  ⟨by rw [r.keep g (heap_lt h.blk) h.ch h.sp]; exact h.blk, h.lo, h.ch, h.sp⟩
theorem LB.cell (h : LB D g cs t w) {i : Nat} {v : Value} (hv : cs[i]? = some v) : w.cell? ⟨g, i, none⟩ = some v := by
  rw [cell_of_row w g i _ _ _ h.blk]
  exact hv
theorem LB.ev (h : LB D g cs t w) (Z : Loc → Prop) (i : Nat) : calm ⟨.cell ⟨g, i, none⟩, false, false⟩ ∧ ∀ b, (MemAct.ofEvent ⟨.cell ⟨g, i, none⟩, false, false⟩).touch? = some b → b.loc.isMemory = true → Zones.within Z (zoneS D) b := by
  refine ⟨⟨by simp, by simp⟩, fun b hb _ => ?_⟩
  simp only [MemAct.ofEvent, MemAct.touch?, Option.some.injEq] at hb
  subst hb
  exact .inr ⟨⟨_, rfl, h.lo, h.sp⟩, rfl⟩
end

/-- what the child's function holds of the world -/
structure F1 (D : Duet) (g7 g6 g2 : Nat) (A : Option Addr) (n c g : Nat) (cs : Array Value) (w : World) : Prop where
  b7 : LB D g7 #[.chan (some D.ch)] 50 w
  b6 : LB D g6 #[.slice A n c] 30 w
  b2 : LB D g2 #[.pointer (some ⟨D.sp, 0, none⟩)] 24 w
  chan : chanIs w D.ch false
  all : 0 < n → HB D g cs w

section
variable {D : Duet} {g7 g6 g2 : Nat} {A : Option Addr} {n c g : Nat} {cs : Array Value} {w w₁ : World}
theorem F1.rely (hD : Du D) (h : F1 D g7 g6 g2 A n c g cs w) (r : RelA D w w₁) : F1 D g7 g6 g2 A n c g cs w₁ :=
  ⟨h.b7.rely r, h.b6.rely r, h.b2.rely r, r.chan _ h.chan, fun h0 => (h.all h0).rely hD r⟩
theorem F1.relB (h : F1 D g7 g6 g2 A n c g cs w) (r : RelB D w w₁) (hc : chanIs w₁ D.ch false) : F1 D g7 g6 g2 A n c g cs w₁ :=
  ⟨h.b7.relB r, h.b6.relB r, h.b2.relB r, hc, fun h0 => (h.all h0).relB r⟩
end

/-- the Splitter's block -/
def SP (D : Duet) (x y : Value) (w : World) : Prop := w.heap[D.sp]? = some (.cells #[x, y] 45 (0, 0))
theorem SP.rely {D : Duet} {x y : Value} {w w₁ : World} (h : SP D x y w) (r : RelA D w w₁) : SP D x y w₁ := by
  have h1 := D.sp_lt
  unfold SP
  rw [r.keep D.sp (heap_lt h) (fun e => D.ch_sp e.symm) fun ⟨hb, _⟩ => by omega]
  exact h
theorem sp_set {D : Duet} {x y z : Value} {w : World} (h : SP D x y w) (i : Nat) (hi : i < 2) :
    RelB D w (w.setCell ⟨D.sp, i, none⟩ z) ∧ (chanIs w D.ch false → chanIs (w.setCell ⟨D.sp, i, none⟩ z) D.ch false) ∧ (w.setCell ⟨D.sp, i, none⟩ z).heap[D.sp]? = some (.cells (#[x, y].setIfInBounds i z) 45 (0, 0)) := by
  have hs := heap_setCell_same w D.sp i #[x, y] 45 z h
  have hk : ∀ k, k ≠ D.sp → (w.setCell ⟨D.sp, i, none⟩ z).heap[k]? = w.heap[k]? := fun k hk => Below.heap_setCell w ⟨D.sp, i, none⟩ z k hk
  have hz : (w.setCell ⟨D.sp, i, none⟩ z).heap.size = w.heap.size := by simp [World.setCell]
  refine ⟨⟨rfl, rfl, rfl, by omega, fun k _ _ h3 => hk k h3, fun t ht => ?_, fun k h1 h2 => absurd h2 (by omega), fun ⟨a, b, c, hc⟩ => ⟨a, b, c, by rw [hk _ D.ch_sp]; exact hc⟩⟩, fun ⟨a, b, c, hc⟩ => ⟨a, b, c, by rw [hk _ D.ch_sp]; exact hc⟩, hs⟩
  have : t = 45 := isCells_inj ht ⟨_, _, h⟩
  subst this
  exact ⟨_, _, hs⟩

/-- what goroutine 0 knows when it finds the channel closed -/
def FinB (D : Duet) (rest : List UInt8) (bad : Bool) (B : Nat) (w : World) : Prop := ∃ rv, SP D rv (.bool bad) w ∧ Own w B 5 rv (Bs rest)

/-- the world's part of the condition -/
def WP (D : Duet) (g7 g6 g2 : Nat) (A : Option Addr) (n c g : Nat) (cs : Array Value) (rest : List UInt8) (B : Nat) (ph : Option (Nat × Value)) (x y : Value) (w : World) : Prop :=
  F1 D g7 g6 g2 A n c g cs w ∧ SP D x y w ∧ (match ph with | none => B ≤ w.heap.size | some (B', rv) => D.base ≤ B' ∧ Own w B' 5 rv (Bs rest))
theorem WP.rely {D : Duet} (hD : Du D) {g7 g6 g2 : Nat} {A : Option Addr} {n c g : Nat} {cs : Array Value} {rest : List UInt8} {B : Nat} {ph : Option (Nat × Value)} {x y : Value} {w w₁ : World} (h : WP D g7 g6 g2 A n c g cs rest B ph x y w) (r : RelA D w w₁) : WP D g7 g6 g2 A n c g cs rest B ph x y w₁ := by
  refine ⟨h.1.rely hD r, h.2.1.rely r, ?_⟩
  have h3 := h.2.2
  cases ph with
  | none => exact Nat.le_trans h3 r.size
  | some p => exact ⟨h3.1, h3.2.keepA hD h3.1 r⟩

structure CF (P P1 all chv : Value) (L : Nat → Bool) (v5 v6 v7 v8 v12 v13 v14 v15 : Value) : Prop where
  h0 : L 0 = true → v5 = P
  h1 : L 1 = true → v6 = P
  h2 : L 2 = true → v7 = all
  h3 : L 3 = true → v8 = chv
  h8 : L 8 = true → v12 = P
  h9 : L 9 = true → v13 = P
  h11 : L 11 = true → v14 = P
  h12 : L 12 = true → v15 = P1

def PH (fin : Nat → World → Prop) (B : Nat) (ps : List (List UInt8)) (bad : Bool) (L : Nat → Bool) (ph : Option (Nat × Value)) (γ : Proto) (v4 v9 v10 v11 x y : Value) : Prop :=
  match ph with
  | none => L 4 = false ∧ L 5 = false ∧ L 6 = false ∧ L 7 = false ∧ L 10 = false ∧ L 13 = false ∧ γ = PP fin B ps
  | some (B', rv) => L 4 = true ∧ γ = .stop (fin B') ∧ v9 = .tuple #[rv, .bool bad] ∧ (L 5 = true → v4 = .tuple #[rv, .bool bad]) ∧ (L 6 = true → v10 = rv) ∧ (L 7 = true → v11 = .bool bad) ∧ (L 10 = true → x = rv) ∧ (L 13 = true → y = .bool bad)

def InvF (D : Duet) (g7 g6 g2 : Nat) (A : Option Addr) (c g : Nat) (cs : Array Value) (l : List UInt8) (B : Nat) (fin : Nat → World → Prop) (L : Nat → Bool) (γ : Proto) (a : Act) (w : World) : Prop :=
  ∃ (v3 v4 v5 v6 v7 v8 v9 v10 v11 v12 v13 v14 v15 x y : Value) (ph : Option (Nat × Value)), a = { tmps := #[.pointer (some ⟨g7, 0, none⟩), .pointer (some ⟨g6, 0, none⟩), .pointer (some ⟨g2, 0, none⟩), v3, v4, v5, v6, v7, v8, v9, v10, v11, v12, v13, v14, v15], defers := [closing #[50] 0 #[false] D.ch] } ∧
    WP D g7 g6 g2 A l.length c g cs (cutS l).2.1 B ph x y w ∧ CF (.pointer (some ⟨D.sp, 0, none⟩)) (.pointer (some ⟨D.sp, 1, none⟩)) (.slice A l.length c) (.chan (some D.ch)) L v5 v6 v7 v8 v12 v13 v14 v15 ∧
    PH fin B (cutS l).1 (cutS l).2.2 L ph γ v4 v9 v10 v11 x y
set_option maxRecDepth 100000 in
set_option maxHeartbeats 1600000 in
theorem f1_op0 {D : Duet} (hD : Du D) {g7 g6 g2 : Nat} {A : Option Addr} {c g : Nat} {cs : Array Value} {l : List UInt8} {B : Nat} {fin : Nat → World → Prop}  {ops : Array Oper} {ty : TypeId} {pos : String} {aft : Array Edge} (ho : ops[0]? = some { dst := some 5, op := .load 24 (.tmp 2), type := ty, pos := pos, after := aft, guard := none }) {L : Nat → Bool} {γ : Proto} {a : Act} {w : World} (hI : InvF D g7 g6 g2 A c g cs l B fin L γ a w) (hL : L 0 = false) {lst : List Nat} {Q : Proto → Exit → Act → World → Prop}
    (next : ∀ γ' a' w', InvF D g7 g6 g2 A c g cs l B fin (upd1 L 0) γ' a' w' → opsM Try.prog (XB Try.prog D) 22 ops Q lst γ' a' w') : opsM Try.prog (XB Try.prog D) 22 ops Q (0 :: lst) γ a w := by
  obtain ⟨v3, v4, v5, v6, v7, v8, v9, v10, v11, v12, v13, v14, v15, x, y, ph, rfl, hF, hC, hP⟩ := hI
  refine opsM_cons_k kitB ho (by rfl) ?_
  intro w1 hR C hCC
  replace hF := hF.rely hD hR
  clear hR
  have hc := hF.1.b2.cell (i := 0) rfl
  go_simp
  try (unfold stored; go_simp)
  refine hCC _ _ ⟨?_, ?_⟩
  · refine ⟨RelB.at_ _ _, id, ?_⟩; co_evs (exact hF.1.b2.ev _ _)
  clear hCC C
  refine next _ _ _ ?_
  refine ⟨_, _, _, _, _, _, _, _, _, _, _, _, _, x, y, ph, rfl, ?_, ⟨fun _ => rfl, hC.h1, hC.h2, hC.h3, hC.h8, hC.h9, hC.h11, hC.h12⟩, ?_⟩
  · exact hF
  · cases ph <;> exact hP
set_option maxRecDepth 100000 in
set_option maxHeartbeats 1600000 in
theorem f1_op1 {D : Duet} (hD : Du D) {g7 g6 g2 : Nat} {A : Option Addr} {c g : Nat} {cs : Array Value} {l : List UInt8} {B : Nat} {fin : Nat → World → Prop}  {ops : Array Oper} {ty : TypeId} {pos : String} {aft : Array Edge} (ho : ops[1]? = some { dst := some 6, op := .load 24 (.tmp 2), type := ty, pos := pos, after := aft, guard := none }) {L : Nat → Bool} {γ : Proto} {a : Act} {w : World} (hI : InvF D g7 g6 g2 A c g cs l B fin L γ a w) (hL : L 1 = false) {lst : List Nat} {Q : Proto → Exit → Act → World → Prop}
    (next : ∀ γ' a' w', InvF D g7 g6 g2 A c g cs l B fin (upd1 L 1) γ' a' w' → opsM Try.prog (XB Try.prog D) 22 ops Q lst γ' a' w') : opsM Try.prog (XB Try.prog D) 22 ops Q (1 :: lst) γ a w := by
  obtain ⟨v3, v4, v5, v6, v7, v8, v9, v10, v11, v12, v13, v14, v15, x, y, ph, rfl, hF, hC, hP⟩ := hI
  refine opsM_cons_k kitB ho (by rfl) ?_
  intro w1 hR C hCC
  replace hF := hF.rely hD hR
  clear hR
  have hc := hF.1.b2.cell (i := 0) rfl
  go_simp
  try (unfold stored; go_simp)
  refine hCC _ _ ⟨?_, ?_⟩
  · refine ⟨RelB.at_ _ _, id, ?_⟩; co_evs (exact hF.1.b2.ev _ _)
  clear hCC C
  refine next _ _ _ ?_
  refine ⟨_, _, _, _, _, _, _, _, _, _, _, _, _, x, y, ph, rfl, ?_, ⟨hC.h0, fun _ => rfl, hC.h2, hC.h3, hC.h8, hC.h9, hC.h11, hC.h12⟩, ?_⟩
  · exact hF
  · cases ph <;> exact hP
set_option maxRecDepth 100000 in
set_option maxHeartbeats 1600000 in
theorem f1_op2 {D : Duet} (hD : Du D) {g7 g6 g2 : Nat} {A : Option Addr} {c g : Nat} {cs : Array Value} {l : List UInt8} {B : Nat} {fin : Nat → World → Prop}  {ops : Array Oper} {ty : TypeId} {pos : String} {aft : Array Edge} (ho : ops[2]? = some { dst := some 7, op := .load 30 (.tmp 1), type := ty, pos := pos, after := aft, guard := none }) {L : Nat → Bool} {γ : Proto} {a : Act} {w : World} (hI : InvF D g7 g6 g2 A c g cs l B fin L γ a w) (hL : L 2 = false) {lst : List Nat} {Q : Proto → Exit → Act → World → Prop}
    (next : ∀ γ' a' w', InvF D g7 g6 g2 A c g cs l B fin (upd1 L 2) γ' a' w' → opsM Try.prog (XB Try.prog D) 22 ops Q lst γ' a' w') : opsM Try.prog (XB Try.prog D) 22 ops Q (2 :: lst) γ a w := by
  obtain ⟨v3, v4, v5, v6, v7, v8, v9, v10, v11, v12, v13, v14, v15, x, y, ph, rfl, hF, hC, hP⟩ := hI
  refine opsM_cons_k kitB ho (by rfl) ?_
  intro w1 hR C hCC
  replace hF := hF.rely hD hR
  clear hR
  have hc := hF.1.b6.cell (i := 0) rfl
  go_simp
  try (unfold stored; go_simp)
  refine hCC _ _ ⟨?_, ?_⟩
  · refine ⟨RelB.at_ _ _, id, ?_⟩; co_evs (exact hF.1.b6.ev _ _)
  clear hCC C
  refine next _ _ _ ?_
  refine ⟨_, _, _, _, _, _, _, _, _, _, _, _, _, x, y, ph, rfl, ?_, ⟨hC.h0, hC.h1, fun _ => rfl, hC.h3, hC.h8, hC.h9, hC.h11, hC.h12⟩, ?_⟩
  · exact hF
  · cases ph <;> exact hP
set_option maxRecDepth 100000 in
set_option maxHeartbeats 1600000 in
theorem f1_op3 {D : Duet} (hD : Du D) {g7 g6 g2 : Nat} {A : Option Addr} {c g : Nat} {cs : Array Value} {l : List UInt8} {B : Nat} {fin : Nat → World → Prop}  {ops : Array Oper} {ty : TypeId} {pos : String} {aft : Array Edge} (ho : ops[3]? = some { dst := some 8, op := .load 50 (.tmp 0), type := ty, pos := pos, after := aft, guard := none }) {L : Nat → Bool} {γ : Proto} {a : Act} {w : World} (hI : InvF D g7 g6 g2 A c g cs l B fin L γ a w) (hL : L 3 = false) {lst : List Nat} {Q : Proto → Exit → Act → World → Prop}
    (next : ∀ γ' a' w', InvF D g7 g6 g2 A c g cs l B fin (upd1 L 3) γ' a' w' → opsM Try.prog (XB Try.prog D) 22 ops Q lst γ' a' w') : opsM Try.prog (XB Try.prog D) 22 ops Q (3 :: lst) γ a w := by
  obtain ⟨v3, v4, v5, v6, v7, v8, v9, v10, v11, v12, v13, v14, v15, x, y, ph, rfl, hF, hC, hP⟩ := hI
  refine opsM_cons_k kitB ho (by rfl) ?_
  intro w1 hR C hCC
  replace hF := hF.rely hD hR
  clear hR
  have hc := hF.1.b7.cell (i := 0) rfl
  go_simp
  try (unfold stored; go_simp)
  refine hCC _ _ ⟨?_, ?_⟩
  · refine ⟨RelB.at_ _ _, id, ?_⟩; co_evs (exact hF.1.b7.ev _ _)
  clear hCC C
  refine next _ _ _ ?_
  refine ⟨_, _, _, _, _, _, _, _, _, _, _, _, _, x, y, ph, rfl, ?_, ⟨hC.h0, hC.h1, hC.h2, fun _ => rfl, hC.h8, hC.h9, hC.h11, hC.h12⟩, ?_⟩
  · exact hF
  · cases ph <;> exact hP
set_option maxRecDepth 100000 in
set_option maxHeartbeats 1600000 in
theorem f1_op8 {D : Duet} (hD : Du D) {g7 g6 g2 : Nat} {A : Option Addr} {c g : Nat} {cs : Array Value} {l : List UInt8} {B : Nat} {fin : Nat → World → Prop}  {ops : Array Oper} {ty : TypeId} {pos : String} {aft : Array Edge} (ho : ops[8]? = some { dst := some 12, op := .nilCheck (.tmp 5), type := ty, pos := pos, after := aft, guard := none }) {L : Nat → Bool} {γ : Proto} {a : Act} {w : World} (hI : InvF D g7 g6 g2 A c g cs l B fin L γ a w) (hL : L 8 = false) (d0 : L 0 = true) {lst : List Nat} {Q : Proto → Exit → Act → World → Prop}
    (next : ∀ γ' a' w', InvF D g7 g6 g2 A c g cs l B fin (upd1 L 8) γ' a' w' → opsM Try.prog (XB Try.prog D) 22 ops Q lst γ' a' w') : opsM Try.prog (XB Try.prog D) 22 ops Q (8 :: lst) γ a w := by
  obtain ⟨v3, v4, v5, v6, v7, v8, v9, v10, v11, v12, v13, v14, v15, x, y, ph, rfl, hF, hC, hP⟩ := hI
  obtain rfl := hC.h0 d0
  refine opsM_cons_k kitB ho (by rfl) ?_
  intro w1 hR C hCC
  replace hF := hF.rely hD hR
  clear hR
  go_simp
  try (unfold stored; go_simp)
  refine hCC _ _ ⟨?_, ?_⟩
  · (rw [listed_nil (by simp [go_sem]; done)]; exact gB_still _)
  clear hCC C
  refine next _ _ _ ?_
  refine ⟨_, _, _, _, _, _, _, _, _, _, _, _, _, x, y, ph, rfl, ?_, ⟨hC.h0, hC.h1, hC.h2, hC.h3, fun _ => rfl, hC.h9, hC.h11, hC.h12⟩, ?_⟩
  · exact hF
  · cases ph <;> exact hP
set_option maxRecDepth 100000 in
set_option maxHeartbeats 1600000 in
theorem f1_op9 {D : Duet} (hD : Du D) {g7 g6 g2 : Nat} {A : Option Addr} {c g : Nat} {cs : Array Value} {l : List UInt8} {B : Nat} {fin : Nat → World → Prop}  {ops : Array Oper} {ty : TypeId} {pos : String} {aft : Array Edge} (ho : ops[9]? = some { dst := some 13, op := .fieldAddr 45 (.tmp 12) 0, type := ty, pos := pos, after := aft, guard := none }) {L : Nat → Bool} {γ : Proto} {a : Act} {w : World} (hI : InvF D g7 g6 g2 A c g cs l B fin L γ a w) (hL : L 9 = false) (d8 : L 8 = true) {lst : List Nat} {Q : Proto → Exit → Act → World → Prop}
    (next : ∀ γ' a' w', InvF D g7 g6 g2 A c g cs l B fin (upd1 L 9) γ' a' w' → opsM Try.prog (XB Try.prog D) 22 ops Q lst γ' a' w') : opsM Try.prog (XB Try.prog D) 22 ops Q (9 :: lst) γ a w := by
  obtain ⟨v3, v4, v5, v6, v7, v8, v9, v10, v11, v12, v13, v14, v15, x, y, ph, rfl, hF, hC, hP⟩ := hI
  obtain rfl := hC.h8 d8
  refine opsM_cons_k kitB ho (by rfl) ?_
  intro w1 hR C hCC
  replace hF := hF.rely hD hR
  clear hR
  go_simp
  try (unfold stored; go_simp)
  refine hCC _ _ ⟨?_, ?_⟩
  · (rw [listed_nil (by simp [go_sem]; done)]; exact gB_still _)
  clear hCC C
  refine next _ _ _ ?_
  refine ⟨_, _, _, _, _, _, _, _, _, _, _, _, _, x, y, ph, rfl, ?_, ⟨hC.h0, hC.h1, hC.h2, hC.h3, hC.h8, fun _ => rfl, hC.h11, hC.h12⟩, ?_⟩
  · exact hF
  · cases ph <;> exact hP
set_option maxRecDepth 100000 in
set_option maxHeartbeats 1600000 in
theorem f1_op11 {D : Duet} (hD : Du D) {g7 g6 g2 : Nat} {A : Option Addr} {c g : Nat} {cs : Array Value} {l : List UInt8} {B : Nat} {fin : Nat → World → Prop}  {ops : Array Oper} {ty : TypeId} {pos : String} {aft : Array Edge} (ho : ops[11]? = some { dst := some 14, op := .nilCheck (.tmp 6), type := ty, pos := pos, after := aft, guard := none }) {L : Nat → Bool} {γ : Proto} {a : Act} {w : World} (hI : InvF D g7 g6 g2 A c g cs l B fin L γ a w) (hL : L 11 = false) (d1 : L 1 = true) {lst : List Nat} {Q : Proto → Exit → Act → World → Prop}
    (next : ∀ γ' a' w', InvF D g7 g6 g2 A c g cs l B fin (upd1 L 11) γ' a' w' → opsM Try.prog (XB Try.prog D) 22 ops Q lst γ' a' w') : opsM Try.prog (XB Try.prog D) 22 ops Q (11 :: lst) γ a w := by
  obtain ⟨v3, v4, v5, v6, v7, v8, v9, v10, v11, v12, v13, v14, v15, x, y, ph, rfl, hF, hC, hP⟩ := hI
  obtain rfl := hC.h1 d1
  refine opsM_cons_k kitB ho (by rfl) ?_
  intro w1 hR C hCC
  replace hF := hF.rely hD hR
  clear hR
  go_simp
  try (unfold stored; go_simp)
  refine hCC _ _ ⟨?_, ?_⟩
  · (rw [listed_nil (by simp [go_sem]; done)]; exact gB_still _)
  clear hCC C
  refine next _ _ _ ?_
  refine ⟨_, _, _, _, _, _, _, _, _, _, _, _, _, x, y, ph, rfl, ?_, ⟨hC.h0, hC.h1, hC.h2, hC.h3, hC.h8, hC.h9, fun _ => rfl, hC.h12⟩, ?_⟩
  · exact hF
  · cases ph <;> exact hP
set_option maxRecDepth 100000 in
set_option maxHeartbeats 1600000 in
theorem f1_op12 {D : Duet} (hD : Du D) {g7 g6 g2 : Nat} {A : Option Addr} {c g : Nat} {cs : Array Value} {l : List UInt8} {B : Nat} {fin : Nat → World → Prop}  {ops : Array Oper} {ty : TypeId} {pos : String} {aft : Array Edge} (ho : ops[12]? = some { dst := some 15, op := .fieldAddr 45 (.tmp 14) 1, type := ty, pos := pos, after := aft, guard := none }) {L : Nat → Bool} {γ : Proto} {a : Act} {w : World} (hI : InvF D g7 g6 g2 A c g cs l B fin L γ a w) (hL : L 12 = false) (d11 : L 11 = true) {lst : List Nat} {Q : Proto → Exit → Act → World → Prop}
    (next : ∀ γ' a' w', InvF D g7 g6 g2 A c g cs l B fin (upd1 L 12) γ' a' w' → opsM Try.prog (XB Try.prog D) 22 ops Q lst γ' a' w') : opsM Try.prog (XB Try.prog D) 22 ops Q (12 :: lst) γ a w := by
  obtain ⟨v3, v4, v5, v6, v7, v8, v9, v10, v11, v12, v13, v14, v15, x, y, ph, rfl, hF, hC, hP⟩ := hI
  obtain rfl := hC.h11 d11
  refine opsM_cons_k kitB ho (by rfl) ?_
  intro w1 hR C hCC
  replace hF := hF.rely hD hR
  clear hR
  go_simp
  try (unfold stored; go_simp)
  refine hCC _ _ ⟨?_, ?_⟩
  · (rw [listed_nil (by simp [go_sem]; done)]; exact gB_still _)
  clear hCC C
  refine next _ _ _ ?_
  refine ⟨_, _, _, _, _, _, _, _, _, _, _, _, _, x, y, ph, rfl, ?_, ⟨hC.h0, hC.h1, hC.h2, hC.h3, hC.h8, hC.h9, hC.h11, fun _ => rfl⟩, ?_⟩
  · exact hF
  · cases ph <;> exact hP
set_option maxRecDepth 100000 in
set_option maxHeartbeats 1600000 in
theorem f1_op5 {D : Duet} (hD : Du D) {g7 g6 g2 : Nat} {A : Option Addr} {c g : Nat} {cs : Array Value} {l : List UInt8} {B : Nat} {fin : Nat → World → Prop}  {ops : Array Oper} {ty : TypeId} {pos : String} {aft : Array Edge} (ho : ops[5]? = some { dst := some 4, op := .move (.tmp 9), type := ty, pos := pos, after := aft, guard := none }) {L : Nat → Bool} {γ : Proto} {a : Act} {w : World} (hI : InvF D g7 g6 g2 A c g cs l B fin L γ a w) (hL : L 5 = false) (d4 : L 4 = true) {lst : List Nat} {Q : Proto → Exit → Act → World → Prop}
    (next : ∀ γ' a' w', InvF D g7 g6 g2 A c g cs l B fin (upd1 L 5) γ' a' w' → opsM Try.prog (XB Try.prog D) 22 ops Q lst γ' a' w') : opsM Try.prog (XB Try.prog D) 22 ops Q (5 :: lst) γ a w := by
  obtain ⟨v3, v4, v5, v6, v7, v8, v9, v10, v11, v12, v13, v14, v15, x, y, ph, rfl, hF, hC, hP⟩ := hI
  cases ph with
  | none => exact absurd (hP.1) (by rw [d4]; simp)
  | some p =>
    obtain ⟨B', rv⟩ := p
    obtain ⟨p4, p0, p9, p5, p6, p7, p10, p13⟩ := hP
    subst p9
    refine opsM_cons_k kitB ho (by rfl) ?_
    intro w1 hR C hCC
    replace hF := hF.rely hD hR
    clear hR
    go_simp
    try (unfold stored; go_simp)
    refine hCC _ _ ⟨?_, ?_⟩
    · (rw [listed_nil (by simp [go_sem]; done)]; exact gB_still _)
    clear hCC C
    refine next _ _ _ ?_
    refine ⟨_, _, _, _, _, _, _, _, _, _, _, _, _, x, y, some (B', rv), rfl, ?_, ⟨hC.h0, hC.h1, hC.h2, hC.h3, hC.h8, hC.h9, hC.h11, hC.h12⟩, ?_⟩
    · exact hF
    · exact ⟨p4, p0, (by first | exact p9 | rfl), fun _ => rfl, (by first | exact p6 | exact fun _ => rfl), (by first | exact p7 | exact fun _ => rfl), (by first | exact p10 | exact fun _ => rfl), (by first | exact p13 | exact fun _ => rfl)⟩
set_option maxRecDepth 100000 in
set_option maxHeartbeats 1600000 in
theorem f1_op6 {D : Duet} (hD : Du D) {g7 g6 g2 : Nat} {A : Option Addr} {c g : Nat} {cs : Array Value} {l : List UInt8} {B : Nat} {fin : Nat → World → Prop}  {ops : Array Oper} {ty : TypeId} {pos : String} {aft : Array Edge} (ho : ops[6]? = some { dst := some 10, op := .extract (.tmp 4) 0, type := ty, pos := pos, after := aft, guard := none }) {L : Nat → Bool} {γ : Proto} {a : Act} {w : World} (hI : InvF D g7 g6 g2 A c g cs l B fin L γ a w) (hL : L 6 = false) (d5 : L 5 = true) {lst : List Nat} {Q : Proto → Exit → Act → World → Prop}
    (next : ∀ γ' a' w', InvF D g7 g6 g2 A c g cs l B fin (upd1 L 6) γ' a' w' → opsM Try.prog (XB Try.prog D) 22 ops Q lst γ' a' w') : opsM Try.prog (XB Try.prog D) 22 ops Q (6 :: lst) γ a w := by
  obtain ⟨v3, v4, v5, v6, v7, v8, v9, v10, v11, v12, v13, v14, v15, x, y, ph, rfl, hF, hC, hP⟩ := hI
  cases ph with
  | none => exact absurd (hP.2.1) (by rw [d5]; simp)
  | some p =>
    obtain ⟨B', rv⟩ := p
    obtain ⟨p4, p0, p9, p5, p6, p7, p10, p13⟩ := hP
    obtain rfl := p5 d5
    refine opsM_cons_k kitB ho (by rfl) ?_
    intro w1 hR C hCC
    replace hF := hF.rely hD hR
    clear hR
    go_simp
    try (unfold stored; go_simp)
    refine hCC _ _ ⟨?_, ?_⟩
    · (rw [listed_nil (by simp [go_sem]; done)]; exact gB_still _)
    clear hCC C
    refine next _ _ _ ?_
    refine ⟨_, _, _, _, _, _, _, _, _, _, _, _, _, x, y, some (B', rv), rfl, ?_, ⟨hC.h0, hC.h1, hC.h2, hC.h3, hC.h8, hC.h9, hC.h11, hC.h12⟩, ?_⟩
    · exact hF
    · exact ⟨p4, p0, (by first | exact p9 | rfl), (by first | exact p5 | exact fun _ => rfl), fun _ => rfl, (by first | exact p7 | exact fun _ => rfl), (by first | exact p10 | exact fun _ => rfl), (by first | exact p13 | exact fun _ => rfl)⟩
set_option maxRecDepth 100000 in
set_option maxHeartbeats 1600000 in
theorem f1_op7 {D : Duet} (hD : Du D) {g7 g6 g2 : Nat} {A : Option Addr} {c g : Nat} {cs : Array Value} {l : List UInt8} {B : Nat} {fin : Nat → World → Prop}  {ops : Array Oper} {ty : TypeId} {pos : String} {aft : Array Edge} (ho : ops[7]? = some { dst := some 11, op := .extract (.tmp 4) 1, type := ty, pos := pos, after := aft, guard := none }) {L : Nat → Bool} {γ : Proto} {a : Act} {w : World} (hI : InvF D g7 g6 g2 A c g cs l B fin L γ a w) (hL : L 7 = false) (d5 : L 5 = true) {lst : List Nat} {Q : Proto → Exit → Act → World → Prop}
    (next : ∀ γ' a' w', InvF D g7 g6 g2 A c g cs l B fin (upd1 L 7) γ' a' w' → opsM Try.prog (XB Try.prog D) 22 ops Q lst γ' a' w') : opsM Try.prog (XB Try.prog D) 22 ops Q (7 :: lst) γ a w := by
  obtain ⟨v3, v4, v5, v6, v7, v8, v9, v10, v11, v12, v13, v14, v15, x, y, ph, rfl, hF, hC, hP⟩ := hI
  cases ph with
  | none => exact absurd (hP.2.1) (by rw [d5]; simp)
  | some p =>
    obtain ⟨B', rv⟩ := p
    obtain ⟨p4, p0, p9, p5, p6, p7, p10, p13⟩ := hP
    obtain rfl := p5 d5
    refine opsM_cons_k kitB ho (by rfl) ?_
    intro w1 hR C hCC
    replace hF := hF.rely hD hR
    clear hR
    go_simp
    try (unfold stored; go_simp)
    refine hCC _ _ ⟨?_, ?_⟩
    · (rw [listed_nil (by simp [go_sem]; done)]; exact gB_still _)
    clear hCC C
    refine next _ _ _ ?_
    refine ⟨_, _, _, _, _, _, _, _, _, _, _, _, _, x, y, some (B', rv), rfl, ?_, ⟨hC.h0, hC.h1, hC.h2, hC.h3, hC.h8, hC.h9, hC.h11, hC.h12⟩, ?_⟩
    · exact hF
    · exact ⟨p4, p0, (by first | exact p9 | rfl), (by first | exact p5 | exact fun _ => rfl), (by first | exact p6 | exact fun _ => rfl), fun _ => rfl, (by first | exact p10 | exact fun _ => rfl), (by first | exact p13 | exact fun _ => rfl)⟩
set_option maxRecDepth 100000 in
set_option maxHeartbeats 1600000 in
theorem f1_op10 {D : Duet} (hD : Du D) {g7 g6 g2 : Nat} {A : Option Addr} {c g : Nat} {cs : Array Value} {l : List UInt8} {B : Nat} {fin : Nat → World → Prop}  {ops : Array Oper} {ty : TypeId} {pos : String} {aft : Array Edge} (ho : ops[10]? = some { dst := none, op := .store 30 (.tmp 13) (.tmp 10), type := ty, pos := pos, after := aft, guard := none }) {L : Nat → Bool} {γ : Proto} {a : Act} {w : World} (hI : InvF D g7 g6 g2 A c g cs l B fin L γ a w) (hL : L 10 = false) (d9 : L 9 = true) (d6 : L 6 = true) {lst : List Nat} {Q : Proto → Exit → Act → World → Prop}
    (next : ∀ γ' a' w', InvF D g7 g6 g2 A c g cs l B fin (upd1 L 10) γ' a' w' → opsM Try.prog (XB Try.prog D) 22 ops Q lst γ' a' w') : opsM Try.prog (XB Try.prog D) 22 ops Q (10 :: lst) γ a w := by
  obtain ⟨v3, v4, v5, v6, v7, v8, v9, v10, v11, v12, v13, v14, v15, x, y, ph, rfl, hF, hC, hP⟩ := hI
  cases ph with
  | none => exact absurd (hP.2.2.1) (by rw [d6]; simp)
  | some p =>
    obtain ⟨B', rv⟩ := p
    obtain ⟨p4, p0, p9, p5, p6, p7, p10, p13⟩ := hP
    obtain ⟨SA, sn, sc, rfl⟩ : ∃ SA sn sc, rv = .slice SA sn sc := by
      rcases hF.2.2.2.2 with ⟨h, _⟩ | ⟨_, _, _, h, _⟩ <;> exact ⟨_, _, _, h⟩
    obtain rfl : _ = v10 := (p6 d6).symm
    obtain rfl := hC.h9 d9
    refine opsM_cons_k kitB ho (by rfl) ?_
    intro w1 hR C hCC
    replace hF := hF.rely hD hR
    clear hR
    have hc : w1.cell? ⟨D.sp, 0, none⟩ = some x := by rw [cell_of_row w1 D.sp 0 _ _ _ hF.2.1]; rfl
    have hz : w1.frozen? ⟨D.sp, 0, none⟩ = false := heap_frozen hF.2.1 0
    go_simp
    try (unfold stored; go_simp)
    refine hCC _ _ ⟨?_, ?_⟩
    · refine ⟨(sp_set hF.2.1 0 (by omega)).1, (sp_set hF.2.1 0 (by omega)).2.1, ?_⟩; intro e he; have hm := mem_listed he; have hse := fun es => events_store Try.prog w1 es ⟨D.sp, 0, none⟩ (.slice SA sn sc) .plain rfl; simp [go_sem, storedEv, hse, hc, hz] at hm; subst hm; (refine ⟨⟨by simp, by simp⟩, fun b hb _ => ?_⟩; simp only [MemAct.ofEvent, MemAct.touch?, Option.some.injEq] at hb; subst hb; exact .inl (.inl ⟨_, rfl, .inr rfl⟩))
    clear hCC C
    have hs := sp_set (z := (.slice SA sn sc)) hF.2.1 0 (by omega)
    refine next _ _ _ ?_
    refine ⟨_, _, _, _, _, _, _, _, _, _, _, _, _, (.slice SA sn sc), y, some (B', .slice SA sn sc), rfl, ?_, ⟨hC.h0, hC.h1, hC.h2, hC.h3, hC.h8, hC.h9, hC.h11, hC.h12⟩, ?_⟩
    · exact ⟨hF.1.relB hs.1 (hs.2.1 hF.1.chan), hs.2.2, hF.2.2.1, hF.2.2.2.keepB hF.2.2.1 hs.1⟩
    · exact ⟨p4, p0, (by first | exact p9 | rfl), (by first | exact p5 | exact fun _ => rfl), (by first | exact p6 | exact fun _ => rfl), (by first | exact p7 | exact fun _ => rfl), fun _ => rfl, (by first | exact p13 | exact fun _ => rfl)⟩
set_option maxRecDepth 100000 in
set_option maxHeartbeats 1600000 in
theorem f1_op13 {D : Duet} (hD : Du D) {g7 g6 g2 : Nat} {A : Option Addr} {c g : Nat} {cs : Array Value} {l : List UInt8} {B : Nat} {fin : Nat → World → Prop}  {ops : Array Oper} {ty : TypeId} {pos : String} {aft : Array Edge} (ho : ops[13]? = some { dst := none, op := .store 4 (.tmp 15) (.tmp 11), type := ty, pos := pos, after := aft, guard := none }) {L : Nat → Bool} {γ : Proto} {a : Act} {w : World} (hI : InvF D g7 g6 g2 A c g cs l B fin L γ a w) (hL : L 13 = false) (d12 : L 12 = true) (d7 : L 7 = true) {lst : List Nat} {Q : Proto → Exit → Act → World → Prop}
    (next : ∀ γ' a' w', InvF D g7 g6 g2 A c g cs l B fin (upd1 L 13) γ' a' w' → opsM Try.prog (XB Try.prog D) 22 ops Q lst γ' a' w') : opsM Try.prog (XB Try.prog D) 22 ops Q (13 :: lst) γ a w := by
  obtain ⟨v3, v4, v5, v6, v7, v8, v9, v10, v11, v12, v13, v14, v15, x, y, ph, rfl, hF, hC, hP⟩ := hI
  cases ph with
  | none => exact absurd (hP.2.2.2.1) (by rw [d7]; simp)
  | some p =>
    obtain ⟨B', rv⟩ := p
    obtain ⟨p4, p0, p9, p5, p6, p7, p10, p13⟩ := hP
    obtain ⟨SA, sn, sc, rfl⟩ : ∃ SA sn sc, rv = .slice SA sn sc := by
      rcases hF.2.2.2.2 with ⟨h, _⟩ | ⟨_, _, _, h, _⟩ <;> exact ⟨_, _, _, h⟩
    obtain rfl := p7 d7
    obtain rfl := hC.h12 d12
    refine opsM_cons_k kitB ho (by rfl) ?_
    intro w1 hR C hCC
    replace hF := hF.rely hD hR
    clear hR
    have hc : w1.cell? ⟨D.sp, 1, none⟩ = some y := by rw [cell_of_row w1 D.sp 1 _ _ _ hF.2.1]; rfl
    have hz : w1.frozen? ⟨D.sp, 1, none⟩ = false := heap_frozen hF.2.1 1
    go_simp
    try (unfold stored; go_simp)
    refine hCC _ _ ⟨?_, ?_⟩
    · refine ⟨(sp_set hF.2.1 1 (by omega)).1, (sp_set hF.2.1 1 (by omega)).2.1, ?_⟩; intro e he; have hm := mem_listed he; have hse := fun es => events_store Try.prog w1 es ⟨D.sp, 1, none⟩ (.bool (cutS l).2.2) .plain rfl; simp [go_sem, storedEv, hse, hc, hz] at hm; subst hm; (refine ⟨⟨by simp, by simp⟩, fun b hb _ => ?_⟩; simp only [MemAct.ofEvent, MemAct.touch?, Option.some.injEq] at hb; subst hb; exact .inl (.inl ⟨_, rfl, .inr rfl⟩))
    clear hCC C
    have hs := sp_set (z := (.bool (cutS l).2.2)) hF.2.1 1 (by omega)
    refine next _ _ _ ?_
    refine ⟨_, _, _, _, _, _, _, _, _, _, _, _, _, x, (.bool (cutS l).2.2), some (B', .slice SA sn sc), rfl, ?_, ⟨hC.h0, hC.h1, hC.h2, hC.h3, hC.h8, hC.h9, hC.h11, hC.h12⟩, ?_⟩
    · exact ⟨hF.1.relB hs.1 (hs.2.1 hF.1.chan), hs.2.2, hF.2.2.1, hF.2.2.2.keepB hF.2.2.1 hs.1⟩
    · exact ⟨p4, p0, (by first | exact p9 | rfl), (by first | exact p5 | exact fun _ => rfl), (by first | exact p6 | exact fun _ => rfl), (by first | exact p7 | exact fun _ => rfl), (by first | exact p10 | exact fun _ => rfl), fun _ => rfl⟩
set_option maxRecDepth 100000 in
set_option maxHeartbeats 1600000 in
theorem f1_op4 {D : Duet} (hD : Du D) {g7 g6 g2 : Nat} {A : Option Addr} {c g : Nat} {cs : Array Value} {l : List UInt8} {B : Nat} {fin : Nat → World → Prop} (hl : l.length ≤ 1000000000) (hlc : l.length ≤ c) (hn : A = none → c = 0 ∧ l = []) (hA : 0 < l.length → ∃ o, A = some ⟨g, o, none⟩ ∧ ∀ i (h : i < l.length), cs[o + i]? = some (.int .u8 (n8 l[i]))) (hBb : D.base ≤ B) {ops : Array Oper} {ty : TypeId} {ats : Array TypeId} {pos : String} {aft : Array Edge} (ho : ops[4]? = some { dst := some 9, op := .call { callee := .value (.func 23), args := #[.tmp 7, .tmp 8], argTypes := ats }, type := ty, pos := pos, after := aft, guard := none }) {L : Nat → Bool} {γ : Proto} {a : Act} {w : World} (hI : InvF D g7 g6 g2 A c g cs l B fin L γ a w) (hL : L 4 = false) (d2 : L 2 = true) (d3 : L 3 = true) {lst : List Nat} {Q : Proto → Exit → Act → World → Prop}
    (next : ∀ γ' a' w', InvF D g7 g6 g2 A c g cs l B fin (upd1 L 4) γ' a' w' → opsM Try.prog (XB Try.prog D) 22 ops Q lst γ' a' w') : opsM Try.prog (XB Try.prog D) 22 ops Q (4 :: lst) γ a w := by
  obtain ⟨v3, v4, v5, v6, v7, v8, v9, v10, v11, v12, v13, v14, v15, x, y, ph, rfl, hF, hC, hP⟩ := hI
  cases ph with
  | some p => exact absurd hP.1 (by rw [hL]; simp)
  | none =>
    obtain ⟨p4, p5, p6, p7, p10, p13, rfl⟩ := hP
    obtain rfl := hC.h2 d2
    obtain rfl := hC.h3 d3
    have hS : Hold D (fun w => F1 D g7 g6 g2 A l.length c g cs w ∧ SP D x y w) := ⟨fun h r => ⟨h.1.rely hD r, h.2.rely r⟩, fun {w w₁} h r => ⟨h.1.relB r.1 (by obtain ⟨a, b, c, hc⟩ := h.1.chan; exact ⟨a, b, c, by rw [r.2 _ (heap_lt hc)]; exact hc⟩), by unfold SP; rw [r.2 _ (heap_lt h.2)]; exact h.2⟩⟩
    refine opsM_fcall kitB (vals := #[.slice A l.length c, .chan (some D.ch)]) ho (by rfl) rfl Try.func23 (by rfl) rfl (by simp [Act.eval]) ?_
    refine callM_mono (cut_calls hD hS A c l hl hlc hn (fun h0 => ?_) B hBb fin w hF.2.2 ⟨hF.1, hF.2.1⟩) ?_
    · obtain ⟨o, ho, hcs⟩ := hA h0
      exact ⟨g, o, cs, ho, fun w hw => hw.1.all h0, hcs⟩
    rintro γ' v w' ⟨B', hB', rfl, ⟨rv, rfl, hO⟩, hF1, hS1⟩
    refine next _ _ _ ?_
    refine ⟨_, _, _, _, _, _, _, _, _, _, _, _, _, x, y, some (B', rv), rfl, ?_, ⟨hC.h0, hC.h1, hC.h2, hC.h3, hC.h8, hC.h9, hC.h11, hC.h12⟩, ?_⟩
    · exact ⟨hF1, hS1, hB', hO⟩
    · exact ⟨rfl, rfl, rfl, fun h => absurd (show L 5 = true from h) (by rw [p5]; simp), fun h => absurd (show L 6 = true from h) (by rw [p6]; simp), fun h => absurd (show L 7 = true from h) (by rw [p7]; simp), fun h => absurd (show L 10 = true from h) (by rw [p10]; simp), fun h => absurd (show L 13 = true from h) (by rw [p13]; simp)⟩

/-- the end of the function's text -/
def EndF (D : Duet) (g7 g6 g2 : Nat) (A : Option Addr) (c g : Nat) (cs : Array Value) (l : List UInt8) (fin : Nat → World → Prop) (γ : Proto) (e : Exit) (a : Act) (w : World) : Prop :=
  e = .normal ∧ a.defers = [closing #[50] 0 #[false] D.ch] ∧ ∃ B' rv, D.base ≤ B' ∧ γ = .stop (fin B') ∧ F1 D g7 g6 g2 A l.length c g cs w ∧ SP D rv (.bool (cutS l).2.2) w ∧ Own w B' 5 rv (Bs (cutS l).2.1)

set_option maxRecDepth 100000 in
set_option maxHeartbeats 1600000 in
theorem f1_body {D : Duet} (hD : Du D) {g7 g6 g2 : Nat} {A : Option Addr} {c g : Nat} {cs : Array Value} {l : List UInt8} {B : Nat} {fin : Nat → World → Prop} (hl : l.length ≤ 1000000000) (hlc : l.length ≤ c) (hn : A = none → c = 0 ∧ l = []) (hA : 0 < l.length → ∃ o, A = some ⟨g, o, none⟩ ∧ ∀ i (h : i < l.length), cs[o + i]? = some (.int .u8 (n8 l[i]))) (hBb : D.base ≤ B) {x y : Value} {w : World} (hF : WP D g7 g6 g2 A l.length c g cs (cutS l).2.1 B none x y w) {fc : Func} {bd : Code} (hfc : Try.prog.funcs[(22 : Nat)]? = some fc) (hbd : fc.body = some bd) :
    wpM Try.prog (XB Try.prog D) 22 bd (EndF D g7 g6 g2 A c g cs l fin) (PP fin B (cutS l).1) { tmps := #[.pointer (some ⟨g7, 0, none⟩), .pointer (some ⟨g6, 0, none⟩), .pointer (some ⟨g2, 0, none⟩), undef, undef, undef, undef, undef, undef, undef, undef, undef, undef, undef, undef, undef], defers := [] } w := by
  obtain rfl := Option.some.inj (hfc.symm.trans Try.func22)
  cases hbd
  refine wpM_seq kitB ?_
  refine wpM_region kitB ?_
  simp only [List.size_toArray, List.length_cons, List.length_nil, Nat.reduceAdd, Nat.zero_add, List.range, List.range.loop]
  refine opsM_cons_k kitB rfl (by rfl) ?_
  intro w1 hR C hCC
  replace hF := hF.rely hD hR
  clear hR
  have hc := hF.1.b7.cell (i := 0) rfl
  go_simp
  refine hCC _ _ ⟨?_, ?_⟩
  · refine ⟨RelB.at_ _ _, id, ?_⟩; co_evs (exact hF.1.b7.ev _ _)
  clear hCC C hc
  refine opsM_defer kitB rfl (by rfl) rfl (d := closing #[50] 0 #[false] D.ch) (by simp [resolve, closing, Act.eval]) ?_
  refine opsM_nil kitB ?_
  simp only [thenM]
  refine wpM_any kitB (drawB D) (by first | kernel_rfl | rfl) (InvF D g7 g6 g2 A c g cs l B fin) (fun L i o γ a w hI hL ho hdep lst Q' next => ?_) (fun L γ a w hI hd => ?_) (fun w₁ h₁ => ?_)
  · match i, ho, hL with
    | 0, ho, hL => (cases ho; exact f1_op0 hD rfl hI hL  next)
    | 1, ho, hL => (cases ho; exact f1_op1 hD rfl hI hL  next)
    | 2, ho, hL => (cases ho; exact f1_op2 hD rfl hI hL  next)
    | 3, ho, hL => (cases ho; exact f1_op3 hD rfl hI hL  next)
    | 4, ho, hL => (cases ho; exact f1_op4 hD hl hlc hn hA hBb rfl hI hL (hdep ⟨2, .data⟩ (by simp) rfl) (hdep ⟨3, .data⟩ (by simp) rfl) next)
    | 5, ho, hL => (cases ho; exact f1_op5 hD rfl hI hL (hdep ⟨4, .data⟩ (by simp) rfl) next)
    | 6, ho, hL => (cases ho; exact f1_op6 hD rfl hI hL (hdep ⟨5, .data⟩ (by simp) rfl) next)
    | 7, ho, hL => (cases ho; exact f1_op7 hD rfl hI hL (hdep ⟨5, .data⟩ (by simp) rfl) next)
    | 8, ho, hL => (cases ho; exact f1_op8 hD rfl hI hL (hdep ⟨0, .data⟩ (by simp) rfl) next)
    | 9, ho, hL => (cases ho; exact f1_op9 hD rfl hI hL (hdep ⟨8, .data⟩ (by simp) rfl) next)
    | 10, ho, hL => (cases ho; exact f1_op10 hD rfl hI hL (hdep ⟨9, .data⟩ (by simp) rfl) (hdep ⟨6, .data⟩ (by simp) rfl) next)
    | 11, ho, hL => (cases ho; exact f1_op11 hD rfl hI hL (hdep ⟨1, .data⟩ (by simp) rfl) next)
    | 12, ho, hL => (cases ho; exact f1_op12 hD rfl hI hL (hdep ⟨11, .data⟩ (by simp) rfl) next)
    | 13, ho, hL => (cases ho; exact f1_op13 hD rfl hI hL (hdep ⟨12, .data⟩ (by simp) rfl) (hdep ⟨7, .data⟩ (by simp) rfl) next)
    | n + 14, ho, _ => cases ho
  · obtain ⟨v3, v4, v5, v6, v7, v8, v9, v10, v11, v12, v13, v14, v15, x, y, ph, rfl, hF, hC, hP⟩ := hI
    have h0 : L 0 = true := by
      cases h : L 0 with
      | true => rfl
      | false =>
        obtain ⟨e, he, hb, hx⟩ := hd 0 _ rfl h
        simp at he
        try (rcases he with rfl | rfl | rfl | rfl | rfl | rfl | rfl | rfl | rfl | rfl | rfl | rfl | rfl | rfl | rfl | rfl <;> simp_all [Region.binds])
    have h1 : L 1 = true := by
      cases h : L 1 with
      | true => rfl
      | false =>
        obtain ⟨e, he, hb, hx⟩ := hd 1 _ rfl h
        simp at he
        try (rcases he with rfl | rfl | rfl | rfl | rfl | rfl | rfl | rfl | rfl | rfl | rfl | rfl | rfl | rfl | rfl | rfl <;> simp_all [Region.binds])
    have h2 : L 2 = true := by
      cases h : L 2 with
      | true => rfl
      | false =>
        obtain ⟨e, he, hb, hx⟩ := hd 2 _ rfl h
        simp at he
        try (rcases he with rfl | rfl | rfl | rfl | rfl | rfl | rfl | rfl | rfl | rfl | rfl | rfl | rfl | rfl | rfl | rfl <;> simp_all [Region.binds])
    have h3 : L 3 = true := by
      cases h : L 3 with
      | true => rfl
      | false =>
        obtain ⟨e, he, hb, hx⟩ := hd 3 _ rfl h
        simp at he
        try (rcases he with rfl | rfl | rfl | rfl | rfl | rfl | rfl | rfl | rfl | rfl | rfl | rfl | rfl | rfl | rfl | rfl <;> simp_all [Region.binds])
    have h4 : L 4 = true := by
      cases h : L 4 with
      | true => rfl
      | false =>
        obtain ⟨e, he, hb, hx⟩ := hd 4 _ rfl h
        simp at he
        try (rcases he with rfl | rfl | rfl | rfl | rfl | rfl | rfl | rfl | rfl | rfl | rfl | rfl | rfl | rfl | rfl | rfl <;> simp_all [Region.binds])
    have h5 : L 5 = true := by
      cases h : L 5 with
      | true => rfl
      | false =>
        obtain ⟨e, he, hb, hx⟩ := hd 5 _ rfl h
        simp at he
        try (rcases he with rfl | rfl | rfl | rfl | rfl | rfl | rfl | rfl | rfl | rfl | rfl | rfl | rfl | rfl | rfl | rfl <;> simp_all [Region.binds])
    have h6 : L 6 = true := by
      cases h : L 6 with
      | true => rfl
      | false =>
        obtain ⟨e, he, hb, hx⟩ := hd 6 _ rfl h
        simp at he
        try (rcases he with rfl | rfl | rfl | rfl | rfl | rfl | rfl | rfl | rfl | rfl | rfl | rfl | rfl | rfl | rfl | rfl <;> simp_all [Region.binds])
    have h7 : L 7 = true := by
      cases h : L 7 with
      | true => rfl
      | false =>
        obtain ⟨e, he, hb, hx⟩ := hd 7 _ rfl h
        simp at he
        try (rcases he with rfl | rfl | rfl | rfl | rfl | rfl | rfl | rfl | rfl | rfl | rfl | rfl | rfl | rfl | rfl | rfl <;> simp_all [Region.binds])
    have h8 : L 8 = true := by
      cases h : L 8 with
      | true => rfl
      | false =>
        obtain ⟨e, he, hb, hx⟩ := hd 8 _ rfl h
        simp at he
        try (rcases he with rfl | rfl | rfl | rfl | rfl | rfl | rfl | rfl | rfl | rfl | rfl | rfl | rfl | rfl | rfl | rfl <;> simp_all [Region.binds])
    have h9 : L 9 = true := by
      cases h : L 9 with
      | true => rfl
      | false =>
        obtain ⟨e, he, hb, hx⟩ := hd 9 _ rfl h
        simp at he
        try (rcases he with rfl | rfl | rfl | rfl | rfl | rfl | rfl | rfl | rfl | rfl | rfl | rfl | rfl | rfl | rfl | rfl <;> simp_all [Region.binds])
    have h10 : L 10 = true := by
      cases h : L 10 with
      | true => rfl
      | false =>
        obtain ⟨e, he, hb, hx⟩ := hd 10 _ rfl h
        simp at he
        try (rcases he with rfl | rfl | rfl | rfl | rfl | rfl | rfl | rfl | rfl | rfl | rfl | rfl | rfl | rfl | rfl | rfl <;> simp_all [Region.binds])
    have h11 : L 11 = true := by
      cases h : L 11 with
      | true => rfl
      | false =>
        obtain ⟨e, he, hb, hx⟩ := hd 11 _ rfl h
        simp at he
        try (rcases he with rfl | rfl | rfl | rfl | rfl | rfl | rfl | rfl | rfl | rfl | rfl | rfl | rfl | rfl | rfl | rfl <;> simp_all [Region.binds])
    have h12 : L 12 = true := by
      cases h : L 12 with
      | true => rfl
      | false =>
        obtain ⟨e, he, hb, hx⟩ := hd 12 _ rfl h
        simp at he
        try (rcases he with rfl | rfl | rfl | rfl | rfl | rfl | rfl | rfl | rfl | rfl | rfl | rfl | rfl | rfl | rfl | rfl <;> simp_all [Region.binds])
    have h13 : L 13 = true := by
      cases h : L 13 with
      | true => rfl
      | false =>
        obtain ⟨e, he, hb, hx⟩ := hd 13 _ rfl h
        simp at he
        try (rcases he with rfl | rfl | rfl | rfl | rfl | rfl | rfl | rfl | rfl | rfl | rfl | rfl | rfl | rfl | rfl | rfl <;> simp_all [Region.binds])
    cases ph with
    | none => exact absurd hP.1 (by rw [h4]; simp)
    | some p =>
      obtain ⟨B', rv⟩ := p
      obtain ⟨p4, p0, p9, p5, p6, p7, p10, p13⟩ := hP
      have e1 := p10 h10
      have e2 := p13 h13
      subst e1 e2
      exact ⟨rfl, rfl, B', _, hF.2.2.1, p0, hF.1, hF.2.1, hF.2.2.2⟩
  · refine ⟨_, _, _, _, _, _, _, _, _, _, _, _, _, x, y, none, rfl, (hF.rely hD h₁).rely hD (ownDrawB _), ⟨(fun h => by cases h), (fun h => by cases h), (fun h => by cases h), (fun h => by cases h), (fun h => by cases h), (fun h => by cases h), (fun h => by cases h), (fun h => by cases h)⟩, rfl, rfl, rfl, rfl, rfl, rfl, rfl⟩

theorem finB_stable {D : Duet} (hD : Du D) {rest : List UInt8} {bad : Bool} {B : Nat} (hB : D.base ≤ B) : Stable (RelA D) (FinB D rest bad B) := fun w w' ⟨rv, h1, h2⟩ r => ⟨rv, h1.rely r, h2.keepA hD hB r⟩

set_option maxRecDepth 100000 in
set_option maxHeartbeats 1600000 in
/-- THE CHILD's SCRIPT -/
theorem f1_script {D : Duet} (hD : Du D) {g7 g6 g2 : Nat} {A : Option Addr} {c g : Nat} {cs : Array Value} {l : List UInt8} {B : Nat} (hl : l.length ≤ 1000000000) (hlc : l.length ≤ c) (hn : A = none → c = 0 ∧ l = []) (hA : 0 < l.length → ∃ o, A = some ⟨g, o, none⟩ ∧ ∀ i (h : i < l.length), cs[o + i]? = some (.int .u8 (n8 l[i]))) (hBb : D.base ≤ B) {x y : Value} {w : World} (hF : WP D g7 g6 g2 A l.length c g cs (cutS l).2.1 B none x y w) :
    XB Try.prog D (PP (FinB D (cutS l).2.1 (cutS l).2.2) B (cutS l).1) (gor (ground Try.prog [{ target := .fn (.func 22) #[.pointer (some ⟨g7, 0, none⟩), .pointer (some ⟨g6, 0, none⟩), .pointer (some ⟨g2, 0, none⟩)], args := #[] }]) []) w := by
  obtain ⟨bd, hbd⟩ : ∃ bd, Try.f22.body = some bd := ⟨_, rfl⟩
  refine XB.begins Try.func22 (by rfl) hbd ?_
  rw [enter_atD _ Try.func22 hbd]
  refine f1_body hD hl hlc hn hA hBb hF Try.func22 hbd (baseD 22) [] [ground Try.prog []] rfl ⟨by simp [baseD], fun ⟨fc, h1, h2⟩ => absurd (by have e := Option.some.inj (Try.func22.symm.trans h1); rw [← e]; rfl) h2⟩ ?_
  rintro γ e a w' ⟨rfl, hd, B', rv, hB', rfl, hF1, hsp, hO⟩
  refine kitB.go rfl (fun w => stepG_end) ?_
  refine XB.ends (finB_stable hD hB') rfl Try.func22 rfl hd hF1.chan fun w₁ s r tm h₁ => ?_
  have hsp1 := hsp.rely h₁
  have hO1 := hO.keepA hD hB' h₁
  have hb := RelB.shut (s' := s) (r' := r) (tm' := tm) (h₁.chan _ hF1.chan).choose_spec.choose_spec.choose_spec
  exact ⟨rv, by unfold SP; rw [getElem?_setChan _ _ _ _ _ _ _ _ _ (heap_lt (h₁.chan _ hF1.chan).choose_spec.choose_spec.choose_spec), if_neg (fun e => D.ch_sp e.symm)]; exact hsp1, hO1.keepB hB' hb⟩
end Go.Proofs.Ytngmhkhncimknaa

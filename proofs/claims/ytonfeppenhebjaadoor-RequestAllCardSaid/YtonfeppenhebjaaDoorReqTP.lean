/- Package request: takePolicy. -/
import Derived.Test.YtonfeppenhebjaaDoorKeep
import Derived.StillTailTactics
import Derived.Deep.RegionWith
import Derived.RegionTactic
namespace Go.Proofs.YtonfeppenhebjaaDoor
open Go Go.RowKit
set_option linter.unusedVariables false
set_option linter.unusedSimpArgs false
attribute [local go_sem] IntKind.wrap_u64 c64_8 c8_64 c16_64 c32_64 c64_16 c64_32 or8 and8 n64_self n8_self beq_n64 beq_n8 bne_n8 bne_n64 beq_n64_0 bne_n64_0 wrap_b8

/-- the policy at the front; its error's number; what is left; the fault -/
def takePolQ (q : UInt64 × List UInt8 × Nat) : Pol × Nat × List UInt8 × Nat :=
  if q.2.2 ≠ 0 then (polZ, fault q.2.2, q.2.1, q.2.2) else
  let g := fixedS q.2.1 q.2.2 8
  let s := fixedS g.2.1 g.2.2 8
  if q.1.toUInt8 = 1 then (⟨1, g.1, s.1, 0, 0⟩, fault s.2.2, s.2.1, s.2.2)
  else if q.1.toUInt8 = 2 then (⟨2, 0, 0, g.1, s.1⟩, fault s.2.2, s.2.1, s.2.2)
  else (polZ, 3, q.2.1, q.2.2)
def takePolS (rest : List UInt8) (f : Nat) : Pol × Nat × List UInt8 × Nat := takePolQ (fixedS rest f 1)
/-- what a taking call of several fields gives: a value and an error; the reader's state -/
def TookR (p : Nat → Addr) (B g : Nat) (w w' : World) (e : Ending) (v : Value) (k : Nat) (rest : List UInt8) (f : Nat) : Prop :=
  e = .returned (.tuple #[v, errv p k]) ∧ Rd w' B g rest (fv (p 2) (p 3) f) ∧ Keep g w w'

set_option maxRecDepth 100000 in
set_option maxHeartbeats 3200000 in
theorem takePolicy_calls (p : Nat → Addr) (B g : Nat) (rest : List UInt8) (f : Nat) (w : World) (hp : E4 w p) (hG : GB B) (hB : B ≤ w.heap.size) (hR : Rd w B g rest (fv (p 2) (p 3) f)) :
    Calls Tryd.prog 31 #[.pointer (some ⟨g, 0, none⟩)] w fun e w' => TookR p B g w w' e (.agg (polA (takePolS rest f).1)) (takePolS rest f).2.1 (takePolS rest f).2.2.1 (takePolS rest f).2.2.2 := by
  have hlt := rd_lt hR
  have hBg : B ≤ g := hlt.1
  have hgw : g < w.heap.size := hlt.2
  have hR0 := rd_alloc hR (.cells #[.int .i64 0, .int .u64 0, .int .u64 0, .int .u64 0, .int .u64 0] 28)
  have hK0 : Keep g w (w.alloc (.cells #[.int .i64 0, .int .u64 0, .int .u64 0, .int .u64 0, .int .u64 0] 28)) := keep_alloc (keep_refl g w) _
  have HP := Go.Lib.hid hp
  have HG := Go.Lib.hid hG
  have HU := Go.Lib.hid (u8_calls _ B g (p 2) (p 3) rest f (e4_two (e4_keep hp hG hBg hK0)) hR0)
  have HK0 := Go.Lib.hid hK0
  have HN2 := Go.Lib.hid (heap_here w (.cells #[.int .i64 0, .int .u64 0, .int .u64 0, .int .u64 0, .int .u64 0] 28) w.heap.size rfl)
  clear hR hR0 hp hG hK0 hlt
  have HT : Hid (takePolS rest f = takePolQ (fixedS rest f 1)) := rfl
  go_enter Tryd.func31, Tryd.ntmps31
  go_wp2_with fail
  refine HU.out.mono ?_
  rintro e w1 ⟨rfl, h1, h2⟩
  have hw1 : w1.heap.size = w.heap.size + 1 := by rw [h2.2.2.2.1]; simp
  have hw1' : w.heap.size < w1.heap.size := by omega
  have H1 := Go.Lib.hid h1
  have HK1 := Go.Lib.hid (keep_trans HK0.out (keep_only h2))
  have HN := Go.Lib.hid (keep_heap (keep_only h2) HN2.out (by omega))
  clear h1 h2 HU HK0 HN2
  generalize fixedS rest f 1 = q at *
  obtain ⟨u, r1, f1⟩ := q
  simp only at H1 HT ⊢
  generalize hbu : u.toUInt8 = b at *
  have HBU := Go.Lib.hid hbu
  clear hbu
  have hb0 : 0 ≤ n8 b := by unfold n8; omega
  have hb1 : n8 b < 256 := by unfold n8; have := b.toNat_lt; omega
  have HW1 := Go.Lib.hid hw1
  clear hw1
  cases f1 with
  | succ m =>
    have hv : ∃ a, fv (p 2) (p 3) (m + 1) = .iface 105 (.pointer (some a)) := by cases m <;> exact ⟨_, rfl⟩
    obtain ⟨a, ha⟩ := hv
    have HA := Go.Lib.hid ha
    have hR1 := rd_alloc H1.out (.cells #[.int .i64 (n8 b), .int .u64 0, .int .u64 0, .int .u64 0, .int .u64 0] 28)
    rw [ha] at hR1
    have HR1 := Go.Lib.hid hR1
    obtain ⟨c0, c1, c2, c3, c4⟩ := box5 HN.out
    have hfz := heap_frozen HN.out
    clear ha hR1
    go_wp2_with fail
    refine (err_calls _ B g _ _ HR1.out).mono ?_
    rintro e w2 ⟨rfl, rfl⟩
    go_wp2_with fail
    refine (err_calls _ B g _ _ HR1.out).mono ?_
    rintro e w3 ⟨rfl, rfl⟩
    go_wp2
    refine bodyPost_ret (v := .tuple #[.agg #[.int .i64 0, .int .u64 0, .int .u64 0, .int .u64 0, .int .u64 0], .iface 105 (.pointer (some a))]) (by simp [results, Tryd.results31, go_sem, hw1', c0, c1, c2, c3, c4]) rfl ?_
    have hT : takePolQ (u, r1, m + 1) = (polZ, fault (m + 1), r1, m + 1) := by unfold takePolQ; rw [if_pos (by simp)]
    rw [HT.out, hT]
    have he : errv p (fault (m + 1)) = .iface 105 (.pointer (some a)) := by rw [← fv_errv]; exact HA.out
    refine ⟨by rw [he]; rfl, ?_, keep_alloc (set5_keep HK1.out (Nat.le_refl _) _ _ _ _ _) _⟩
    exact rd_alloc (set5_rd H1.out HN.out (by decide) rfl _ _ _ _ _) _
  | zero =>
    have hT : takePolQ (u, r1, 0) = if b = 1 then (⟨1, (fixedS r1 0 8).1, (fixedS (fixedS r1 0 8).2.1 (fixedS r1 0 8).2.2 8).1, 0, 0⟩, fault (fixedS (fixedS r1 0 8).2.1 (fixedS r1 0 8).2.2 8).2.2, (fixedS (fixedS r1 0 8).2.1 (fixedS r1 0 8).2.2 8).2.1, (fixedS (fixedS r1 0 8).2.1 (fixedS r1 0 8).2.2 8).2.2)
      else if b = 2 then (⟨2, 0, 0, (fixedS r1 0 8).1, (fixedS (fixedS r1 0 8).2.1 (fixedS r1 0 8).2.2 8).1⟩, fault (fixedS (fixedS r1 0 8).2.1 (fixedS r1 0 8).2.2 8).2.2, (fixedS (fixedS r1 0 8).2.1 (fixedS r1 0 8).2.2 8).2.1, (fixedS (fixedS r1 0 8).2.1 (fixedS r1 0 8).2.2 8).2.2)
      else (polZ, 3, r1, 0) := by unfold takePolQ; rw [if_neg (by simp), HBU.out]
    have HT2 := Go.Lib.hid (HT.out.trans hT)
    clear hT HT HBU
    obtain ⟨W1, hW1⟩ : ∃ W1, W1 = w1.alloc (.cells #[.int .i64 (n8 b), .int .u64 0, .int .u64 0, .int .u64 0, .int .u64 0] 28) := ⟨_, rfl⟩
    have hR1 : Rd W1 B g r1 (fv (p 2) (p 3) 0) := by rw [hW1]; exact rd_alloc H1.out _
    have hk1 : Keep g w W1 := by rw [hW1]; exact keep_alloc HK1.out _
    have hn2 : W1.heap[w.heap.size]? = some (.cells #[.int .i64 0, .int .u64 0, .int .u64 0, .int .u64 0, .int .u64 0] 28 (0, 0)) := by rw [hW1]; exact below_heap ((Below.refl _ _).alloc (Nat.le_refl _) _) HN.out
    have hn4 : W1.heap[w1.heap.size]? = some (.cells #[.int .i64 (n8 b), .int .u64 0, .int .u64 0, .int .u64 0, .int .u64 0] 28 (0, 0)) := by rw [hW1]; exact heap_here _ _ _ rfl
    have HR1 := Go.Lib.hid hR1
    have HK2 := Go.Lib.hid hk1
    have HA2 := Go.Lib.hid hn2
    have HA4 := Go.Lib.hid hn4
    clear hR1 hk1 hn2 hn4 HK1 HN H1
    go_wp2_with fail
    rw [← hW1]
    clear hW1
    refine (err_calls _ B g _ _ HR1.out).mono ?_
    rintro e w2 ⟨rfl, rfl⟩
    simp only [fv]
    obtain ⟨d0, d1, d2, d3, d4⟩ := box5 HA4.out
    by_cases k1 : b = 1
    · subst k1
      have hT3 := HT2.out
      rw [if_pos (rfl : (1 : UInt8) = 1)] at hT3
      have HT3 := Go.Lib.hid hT3
      clear hT3 HT2
      go_wp2_with fail
      refine (u64_calls w2 B g (p 2) (p 3) r1 0 (e4_two (e4_keep HP.out HG.out hBg HK2.out)) HR1.out).mono ?_
      rintro e w3 ⟨rfl, h31, h32⟩
      have HR3 := Go.Lib.hid h31
      have HK3 := Go.Lib.hid (keep_trans HK2.out (keep_only h32))
      have HB2 := Go.Lib.hid (keep_heap (keep_only h32) HA2.out (by omega))
      have HB4 := Go.Lib.hid (keep_heap (keep_only h32) HA4.out (by omega))
      clear h31 h32 d0 d1 d2 d3 d4 HR1 HA2 HA4 HK2
      go_wp2_with fail
      refine (u64_calls w3 B g (p 2) (p 3) _ _ (e4_two (e4_keep HP.out HG.out hBg HK3.out)) HR3.out).mono ?_
      rintro e w4 ⟨rfl, h41, h42⟩
      have HR4 := Go.Lib.hid h41
      have HK4 := Go.Lib.hid (keep_trans HK3.out (keep_only h42))
      have HC2 := Go.Lib.hid (keep_heap (keep_only h42) HB2.out (by omega))
      have HC4 := Go.Lib.hid (keep_heap (keep_only h42) HB4.out (by omega))
      obtain ⟨d0, d1, d2, d3, d4⟩ := box5 HC4.out
      have hf4 := heap_frozen HC4.out
      clear h41 h42 HR3 HK3 HB2 HB4
      go_wp2
      obtain ⟨W2, hW2⟩ : ∃ W2, W2 = (w4.setCell ⟨w1.heap.size, 1, none⟩ (.int .u64 (n64 (fixedS r1 0 8).1))).setCell ⟨w1.heap.size, 2, none⟩ (.int .u64 (n64 (fixedS (fixedS r1 0 8).2.1 (fixedS r1 0 8).2.2 8).1)) := ⟨_, rfl⟩
      have hR5 : Rd W2 B g (fixedS (fixedS r1 0 8).2.1 (fixedS r1 0 8).2.2 8).2.1 (fv (p 2) (p 3) (fixedS (fixedS r1 0 8).2.1 (fixedS r1 0 8).2.2 8).2.2) := by
        rw [hW2]; exact rd_set (rd_set HR4.out HC4.out (by decide) rfl _ _) (set_heap HC4.out _ _) (by decide) rfl _ _
      have hk5 : Keep g w W2 := by rw [hW2]; exact keep_set (keep_set HK4.out (by omega) _ _) (by omega) _ _
      have hz2 : W2.heap[w.heap.size]? = some (.cells #[.int .i64 0, .int .u64 0, .int .u64 0, .int .u64 0, .int .u64 0] 28 (0, 0)) := by
        rw [hW2]; exact set_other (set_other HC2.out (by omega) _ _) (by omega) _ _
      have hz4 : W2.heap[w1.heap.size]? = some (.cells #[.int .i64 1, .int .u64 (n64 (fixedS r1 0 8).1), .int .u64 (n64 (fixedS (fixedS r1 0 8).2.1 (fixedS r1 0 8).2.2 8).1), .int .u64 0, .int .u64 0] 28 (0, 0)) := by
        rw [hW2]; exact set_heap (set_heap HC4.out _ _) _ _
      clear d0 d1 d2 d3 d4 hf4 HC2 HC4 HR4 HK4
      rw [← hW2]
      clear hW2
      have HR5 := Go.Lib.hid hR5
      have HR5d := Go.Lib.hid (show Rd W2.drew B g _ _ from hR5)
      have HK5 := Go.Lib.hid hk5
      have HZ2 := Go.Lib.hid hz2
      obtain ⟨d0, d1, d2, d3, d4⟩ := box5 hz4
      clear hR5 hk5 hz2 hz4
      obtain ⟨z0, z1, z2, z3, z4⟩ := box5 HZ2.out
      have zf := heap_frozen HZ2.out
      go_region_with (go_at_call 29; (with_reducible refine (err_calls W2.drew B g _ _ HR5d.out).mono ?_); rintro e w6 ⟨rfl, rfl⟩)
      all_goals
        go_wp2
        refine bodyPost_ret (v := .tuple #[.agg #[.int .i64 1, .int .u64 (n64 (fixedS r1 0 8).1), .int .u64 (n64 (fixedS (fixedS r1 0 8).2.1 (fixedS r1 0 8).2.2 8).1), .int .u64 0, .int .u64 0], fv (p 2) (p 3) (fixedS (fixedS r1 0 8).2.1 (fixedS r1 0 8).2.2 8).2.2]) (by simp [results, Tryd.results31, go_sem, z0, z1, z2, z3, z4]) rfl ?_
        rw [HT3.out]
        refine ⟨?_, rd_drew (set5_rd HR5.out HZ2.out (by decide) rfl _ _ _ _ _), keep_drew (set5_keep HK5.out (Nat.le_refl _) _ _ _ _ _)⟩
        rw [fv_errv]
        rfl
    have b1 : (n8 b == 1) = false := by
      rw [show (1 : Int) = n8 1 from rfl, beq_n8]; simpa using k1
    by_cases k2 : b = 2
    · subst k2
      have hT3 := HT2.out
      rw [if_neg (by decide : ¬ (2 : UInt8) = 1), if_pos (rfl : (2 : UInt8) = 2)] at hT3
      have HT3 := Go.Lib.hid hT3
      clear hT3 HT2
      go_wp2_with fail
      refine (u64_calls w2 B g (p 2) (p 3) r1 0 (e4_two (e4_keep HP.out HG.out hBg HK2.out)) HR1.out).mono ?_
      rintro e w3 ⟨rfl, h31, h32⟩
      have HR3 := Go.Lib.hid h31
      have HK3 := Go.Lib.hid (keep_trans HK2.out (keep_only h32))
      have HB2 := Go.Lib.hid (keep_heap (keep_only h32) HA2.out (by omega))
      have HB4 := Go.Lib.hid (keep_heap (keep_only h32) HA4.out (by omega))
      clear h31 h32 d0 d1 d2 d3 d4 HR1 HA2 HA4 HK2
      go_wp2_with fail
      refine (u64_calls w3 B g (p 2) (p 3) _ _ (e4_two (e4_keep HP.out HG.out hBg HK3.out)) HR3.out).mono ?_
      rintro e w4 ⟨rfl, h41, h42⟩
      have HR4 := Go.Lib.hid h41
      have HK4 := Go.Lib.hid (keep_trans HK3.out (keep_only h42))
      have HC2 := Go.Lib.hid (keep_heap (keep_only h42) HB2.out (by omega))
      have HC4 := Go.Lib.hid (keep_heap (keep_only h42) HB4.out (by omega))
      obtain ⟨d0, d1, d2, d3, d4⟩ := box5 HC4.out
      have hf4 := heap_frozen HC4.out
      clear h41 h42 HR3 HK3 HB2 HB4
      go_wp2
      obtain ⟨W2, hW2⟩ : ∃ W2, W2 = (w4.setCell ⟨w1.heap.size, 3, none⟩ (.int .u64 (n64 (fixedS r1 0 8).1))).setCell ⟨w1.heap.size, 4, none⟩ (.int .u64 (n64 (fixedS (fixedS r1 0 8).2.1 (fixedS r1 0 8).2.2 8).1)) := ⟨_, rfl⟩
      have hR5 : Rd W2 B g (fixedS (fixedS r1 0 8).2.1 (fixedS r1 0 8).2.2 8).2.1 (fv (p 2) (p 3) (fixedS (fixedS r1 0 8).2.1 (fixedS r1 0 8).2.2 8).2.2) := by
        rw [hW2]; exact rd_set (rd_set HR4.out HC4.out (by decide) rfl _ _) (set_heap HC4.out _ _) (by decide) rfl _ _
      have hk5 : Keep g w W2 := by rw [hW2]; exact keep_set (keep_set HK4.out (by omega) _ _) (by omega) _ _
      have hz2 : W2.heap[w.heap.size]? = some (.cells #[.int .i64 0, .int .u64 0, .int .u64 0, .int .u64 0, .int .u64 0] 28 (0, 0)) := by
        rw [hW2]; exact set_other (set_other HC2.out (by omega) _ _) (by omega) _ _
      have hz4 : W2.heap[w1.heap.size]? = some (.cells #[.int .i64 2, .int .u64 0, .int .u64 0, .int .u64 (n64 (fixedS r1 0 8).1), .int .u64 (n64 (fixedS (fixedS r1 0 8).2.1 (fixedS r1 0 8).2.2 8).1)] 28 (0, 0)) := by
        rw [hW2]; exact set_heap (set_heap HC4.out _ _) _ _
      clear d0 d1 d2 d3 d4 hf4 HC2 HC4 HR4 HK4
      rw [← hW2]
      clear hW2
      have HR5 := Go.Lib.hid hR5
      have HR5d := Go.Lib.hid (show Rd W2.drew B g _ _ from hR5)
      have HK5 := Go.Lib.hid hk5
      have HZ2 := Go.Lib.hid hz2
      obtain ⟨d0, d1, d2, d3, d4⟩ := box5 hz4
      clear hR5 hk5 hz2 hz4
      obtain ⟨z0, z1, z2, z3, z4⟩ := box5 HZ2.out
      have zf := heap_frozen HZ2.out
      go_region_with (go_at_call 29; (with_reducible refine (err_calls W2.drew B g _ _ HR5d.out).mono ?_); rintro e w6 ⟨rfl, rfl⟩)
      all_goals
        go_wp2
        refine bodyPost_ret (v := .tuple #[.agg #[.int .i64 2, .int .u64 0, .int .u64 0, .int .u64 (n64 (fixedS r1 0 8).1), .int .u64 (n64 (fixedS (fixedS r1 0 8).2.1 (fixedS r1 0 8).2.2 8).1)], fv (p 2) (p 3) (fixedS (fixedS r1 0 8).2.1 (fixedS r1 0 8).2.2 8).2.2]) (by simp [results, Tryd.results31, go_sem, z0, z1, z2, z3, z4]) rfl ?_
        rw [HT3.out]
        refine ⟨?_, rd_drew (set5_rd HR5.out HZ2.out (by decide) rfl _ _ _ _ _), keep_drew (set5_keep HK5.out (Nat.le_refl _) _ _ _ _ _)⟩
        rw [fv_errv]
        rfl
    have b2 : (n8 b == 2) = false := by
      rw [show (2 : Int) = n8 2 from rfl, beq_n8]; simpa using k2
    have hT3 := HT2.out
    rw [if_neg k1, if_neg k2] at hT3
    have HT3 := Go.Lib.hid hT3
    clear hT3 HT2 k1 k2
    have e3 := e4_form (e4_keep HP.out HG.out hBg HK2.out)
    have hg3 : 3 < w.heap.size := Nat.lt_of_lt_of_le (HG.out 3 (by decide) (by decide)) hB
    obtain ⟨c0, c1, c2, c3, c4⟩ := box5 HA2.out
    have hfz := heap_frozen HA2.out
    go_wp2
    go_region
    all_goals
      go_wp2
      refine bodyPost_ret (v := .tuple #[.agg #[.int .i64 0, .int .u64 0, .int .u64 0, .int .u64 0, .int .u64 0], .iface 105 (.pointer (some (p 3)))]) (by simp [results, Tryd.results31, go_sem, c0, c1, c2, c3, c4]) rfl ?_
      rw [HT3.out]
      exact ⟨rfl, rd_drew (set5_rd HR1.out HA2.out (by decide) rfl _ _ _ _ _), keep_drew (set5_keep HK2.out (Nat.le_refl _) _ _ _ _ _)⟩
end Go.Proofs.YtonfeppenhebjaaDoor

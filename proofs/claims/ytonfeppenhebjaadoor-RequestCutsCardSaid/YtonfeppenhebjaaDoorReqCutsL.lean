/- The law RequestCuts. (Printed by gen_reqcuts.py of this session.) -/
import Derived.Test.YtonfeppenhebjaaDoorReqCutsE
import Derived.Test.YtonfeppenhebjaaDoorReqCutsC
import Derived.Test.YtonfeppenhebjaaDoorReqCutsA
namespace Go.Proofs.YtonfeppenhebjaaDoor
open Go Go.RowKit
set_option linter.unusedVariables false
set_option linter.unusedSimpArgs false
attribute [local go_sem] IntKind.wrap_u64 c64_8 c8_64 c16_64 c32_64 c64_16 c64_32 or8 and8 n64_self n8_self beq_n64 beq_n8 bne_n8 bne_n64 beq_n64_0 bne_n64_0 wrap_b8


set_option maxRecDepth 100000 in
set_option maxHeartbeats 6400000 in
theorem cuts_gm (op : Int) (key : List UInt8) (kind : Int) (gap slack limit span units : UInt64) (aop code : Int) (at_ retry : UInt64) (k : Int) (p1 p2 p3 p4 l1 l2 l3 : UInt64) (z : Int) (M : Option Addr) (cm : Nat) (more : List UInt8) (p : Nat → Addr) (w : World) (hp : E4 w p) (hM : Cells w M (Bs more)) (hl : 1048576 < more.length) :
    Calls Tryd.prog 7 #[.agg (reqA ⟨op, key, ⟨kind, gap, slack, limit, span⟩, units⟩), .agg (ansA ⟨aop, ⟨code, at_, retry, ⟨k, p1, p2, p3, p4⟩, ⟨l1, l2, l3⟩⟩⟩), .int .i64 z, .slice M more.length cm] w fun e w' => e = .returned (.bool true) ∧ Below w.heap.size w w' := by
  have hbx : Below w.heap.size w ((w.alloc (.cells #[.int .i64 op, .string ⟨key.toArray⟩, .int .i64 kind, .int .u64 (n64 gap), .int .u64 (n64 slack), .int .u64 (n64 limit), .int .u64 (n64 span), .int .u64 (n64 units)] 30)).alloc (.cells #[.int .i64 aop, .int .i64 code, .int .u64 (n64 at_), .int .u64 (n64 retry), .int .i64 k, .int .u64 (n64 p1), .int .u64 (n64 p2), .int .u64 (n64 p3), .int .u64 (n64 p4), .int .u64 (n64 l1), .int .u64 (n64 l2), .int .u64 (n64 l3)] 36)) := ((Below.refl _ _).alloc (Nat.le_refl _) _).alloc (by simp) _
  have HB := Go.Lib.hid hbx
  have HXR := Go.Lib.hid (heap_before (w.alloc (.cells #[.int .i64 op, .string ⟨key.toArray⟩, .int .i64 kind, .int .u64 (n64 gap), .int .u64 (n64 slack), .int .u64 (n64 limit), .int .u64 (n64 span), .int .u64 (n64 units)] 30)) (.cells #[.int .i64 aop, .int .i64 code, .int .u64 (n64 at_), .int .u64 (n64 retry), .int .i64 k, .int .u64 (n64 p1), .int .u64 (n64 p2), .int .u64 (n64 p3), .int .u64 (n64 p4), .int .u64 (n64 l1), .int .u64 (n64 l2), .int .u64 (n64 l3)] 36) w.heap.size _ (by simp) (heap_here w (.cells #[.int .i64 op, .string ⟨key.toArray⟩, .int .i64 kind, .int .u64 (n64 gap), .int .u64 (n64 slack), .int .u64 (n64 limit), .int .u64 (n64 span), .int .u64 (n64 units)] 30) w.heap.size rfl))
  have HXA := Go.Lib.hid (heap_here (w.alloc (.cells #[.int .i64 op, .string ⟨key.toArray⟩, .int .i64 kind, .int .u64 (n64 gap), .int .u64 (n64 slack), .int .u64 (n64 limit), .int .u64 (n64 span), .int .u64 (n64 units)] 30)) (.cells #[.int .i64 aop, .int .i64 code, .int .u64 (n64 at_), .int .u64 (n64 retry), .int .i64 k, .int .u64 (n64 p1), .int .u64 (n64 p2), .int .u64 (n64 p3), .int .u64 (n64 p4), .int .u64 (n64 l1), .int .u64 (n64 l2), .int .u64 (n64 l3)] 36) (w.heap.size + 1) (by simp))
  have HE := Go.Lib.hid (e4_below hp hbx)
  have HM := Go.Lib.hid (cells_below hbx hM)
  obtain ⟨W, hW⟩ : ∃ W, W = (w.alloc (.cells #[.int .i64 op, .string ⟨key.toArray⟩, .int .i64 kind, .int .u64 (n64 gap), .int .u64 (n64 slack), .int .u64 (n64 limit), .int .u64 (n64 span), .int .u64 (n64 units)] 30)).alloc (.cells #[.int .i64 aop, .int .i64 code, .int .u64 (n64 at_), .int .u64 (n64 retry), .int .i64 k, .int .u64 (n64 p1), .int .u64 (n64 p2), .int .u64 (n64 p3), .int .u64 (n64 p4), .int .u64 (n64 l1), .int .u64 (n64 l2), .int .u64 (n64 l3)] 36) := ⟨_, rfl⟩
  simp only [reqA, ansA]
  go_enter Tryd.func7, Tryd.ntmps7
  go_wp2_with fail
  rw [← hW] at HB HXR HXA HE HM ⊢
  clear hW hbx hp hM
  refine (awake_calls p W HE.out).mono ?_
  rintro e w1 ⟨rfl, hb1⟩
  have HB' := Go.Lib.hid (below_then HB.out hb1)
  have HXR' := Go.Lib.hid (below_heap hb1 HXR.out)
  have HXA' := Go.Lib.hid (below_heap hb1 HXA.out)
  have HE' := Go.Lib.hid (e4_below HE.out hb1)
  have HM' := Go.Lib.hid (cells_below hb1 HM.out)
  clear HB HXR HXA HE HM
  have HB := HB'
  have HXR := HXR'
  have HXA := HXA'
  have HE := HE'
  have HM := HM'
  clear HB' HXR' HXA' HE' HM'
  clear hb1
  obtain ⟨x0, x1, x2, x3, x4, x5, x6, x7⟩ := box8 HXR.out
  obtain ⟨y0, y1, y2, y3, y4, y5, y6, y7, y8, y9, y10, y11⟩ := box12 HXA.out
  have zr := heap_frozen HXR.out
  have za := heap_frozen HXA.out
  have hsr := heap_lt HXR.out
  have hsa := heap_lt HXA.out
  have f1 : (1048576 : Int) < (more.length : Int) := by omega
  go_wp2
  go_ret
  exact ⟨rfl, HB.out⟩

set_option maxRecDepth 100000 in
set_option maxHeartbeats 6400000 in
theorem cuts_gk (op : Int) (key : List UInt8) (kind : Int) (gap slack limit span units : UInt64) (aop code : Int) (at_ retry : UInt64) (k : Int) (p1 p2 p3 p4 l1 l2 l3 : UInt64) (z : Int) (M : Option Addr) (cm : Nat) (more : List UInt8) (p : Nat → Addr) (w : World) (hp : E4 w p) (hM : Cells w M (Bs more)) (hl : ¬ 1048576 < more.length) (hk : 1048576 < key.length) :
    Calls Tryd.prog 7 #[.agg (reqA ⟨op, key, ⟨kind, gap, slack, limit, span⟩, units⟩), .agg (ansA ⟨aop, ⟨code, at_, retry, ⟨k, p1, p2, p3, p4⟩, ⟨l1, l2, l3⟩⟩⟩), .int .i64 z, .slice M more.length cm] w fun e w' => e = .returned (.bool true) ∧ Below w.heap.size w w' := by
  have hbx : Below w.heap.size w ((w.alloc (.cells #[.int .i64 op, .string ⟨key.toArray⟩, .int .i64 kind, .int .u64 (n64 gap), .int .u64 (n64 slack), .int .u64 (n64 limit), .int .u64 (n64 span), .int .u64 (n64 units)] 30)).alloc (.cells #[.int .i64 aop, .int .i64 code, .int .u64 (n64 at_), .int .u64 (n64 retry), .int .i64 k, .int .u64 (n64 p1), .int .u64 (n64 p2), .int .u64 (n64 p3), .int .u64 (n64 p4), .int .u64 (n64 l1), .int .u64 (n64 l2), .int .u64 (n64 l3)] 36)) := ((Below.refl _ _).alloc (Nat.le_refl _) _).alloc (by simp) _
  have HB := Go.Lib.hid hbx
  have HXR := Go.Lib.hid (heap_before (w.alloc (.cells #[.int .i64 op, .string ⟨key.toArray⟩, .int .i64 kind, .int .u64 (n64 gap), .int .u64 (n64 slack), .int .u64 (n64 limit), .int .u64 (n64 span), .int .u64 (n64 units)] 30)) (.cells #[.int .i64 aop, .int .i64 code, .int .u64 (n64 at_), .int .u64 (n64 retry), .int .i64 k, .int .u64 (n64 p1), .int .u64 (n64 p2), .int .u64 (n64 p3), .int .u64 (n64 p4), .int .u64 (n64 l1), .int .u64 (n64 l2), .int .u64 (n64 l3)] 36) w.heap.size _ (by simp) (heap_here w (.cells #[.int .i64 op, .string ⟨key.toArray⟩, .int .i64 kind, .int .u64 (n64 gap), .int .u64 (n64 slack), .int .u64 (n64 limit), .int .u64 (n64 span), .int .u64 (n64 units)] 30) w.heap.size rfl))
  have HXA := Go.Lib.hid (heap_here (w.alloc (.cells #[.int .i64 op, .string ⟨key.toArray⟩, .int .i64 kind, .int .u64 (n64 gap), .int .u64 (n64 slack), .int .u64 (n64 limit), .int .u64 (n64 span), .int .u64 (n64 units)] 30)) (.cells #[.int .i64 aop, .int .i64 code, .int .u64 (n64 at_), .int .u64 (n64 retry), .int .i64 k, .int .u64 (n64 p1), .int .u64 (n64 p2), .int .u64 (n64 p3), .int .u64 (n64 p4), .int .u64 (n64 l1), .int .u64 (n64 l2), .int .u64 (n64 l3)] 36) (w.heap.size + 1) (by simp))
  have HE := Go.Lib.hid (e4_below hp hbx)
  have HM := Go.Lib.hid (cells_below hbx hM)
  obtain ⟨W, hW⟩ : ∃ W, W = (w.alloc (.cells #[.int .i64 op, .string ⟨key.toArray⟩, .int .i64 kind, .int .u64 (n64 gap), .int .u64 (n64 slack), .int .u64 (n64 limit), .int .u64 (n64 span), .int .u64 (n64 units)] 30)).alloc (.cells #[.int .i64 aop, .int .i64 code, .int .u64 (n64 at_), .int .u64 (n64 retry), .int .i64 k, .int .u64 (n64 p1), .int .u64 (n64 p2), .int .u64 (n64 p3), .int .u64 (n64 p4), .int .u64 (n64 l1), .int .u64 (n64 l2), .int .u64 (n64 l3)] 36) := ⟨_, rfl⟩
  simp only [reqA, ansA]
  go_enter Tryd.func7, Tryd.ntmps7
  go_wp2_with fail
  rw [← hW] at HB HXR HXA HE HM ⊢
  clear hW hbx hp hM
  refine (awake_calls p W HE.out).mono ?_
  rintro e w1 ⟨rfl, hb1⟩
  have HB' := Go.Lib.hid (below_then HB.out hb1)
  have HXR' := Go.Lib.hid (below_heap hb1 HXR.out)
  have HXA' := Go.Lib.hid (below_heap hb1 HXA.out)
  have HE' := Go.Lib.hid (e4_below HE.out hb1)
  have HM' := Go.Lib.hid (cells_below hb1 HM.out)
  clear HB HXR HXA HE HM
  have HB := HB'
  have HXR := HXR'
  have HXA := HXA'
  have HE := HE'
  have HM := HM'
  clear HB' HXR' HXA' HE' HM'
  clear hb1
  obtain ⟨x0, x1, x2, x3, x4, x5, x6, x7⟩ := box8 HXR.out
  obtain ⟨y0, y1, y2, y3, y4, y5, y6, y7, y8, y9, y10, y11⟩ := box12 HXA.out
  have zr := heap_frozen HXR.out
  have za := heap_frozen HXA.out
  have hsr := heap_lt HXR.out
  have hsa := heap_lt HXA.out
  have f1 : ¬ ((1048576 : Int) < (more.length : Int)) := by omega
  have f2 : (1048576 : Int) < (key.length : Int) := by omega
  go_wp2
  go_ret
  exact ⟨rfl, HB.out⟩

set_option maxRecDepth 100000 in
set_option maxHeartbeats 6400000 in
theorem cuts_gz (op : Int) (key : List UInt8) (kind : Int) (gap slack limit span units : UInt64) (aop code : Int) (at_ retry : UInt64) (k : Int) (p1 p2 p3 p4 l1 l2 l3 : UInt64) (z : Int) (M : Option Addr) (cm : Nat) (more : List UInt8) (p : Nat → Addr) (w : World) (hp : E4 w p) (hM : Cells w M (Bs more)) (hl : ¬ 1048576 < more.length) (hk : ¬ 1048576 < key.length) (hz : z < 0) :
    Calls Tryd.prog 7 #[.agg (reqA ⟨op, key, ⟨kind, gap, slack, limit, span⟩, units⟩), .agg (ansA ⟨aop, ⟨code, at_, retry, ⟨k, p1, p2, p3, p4⟩, ⟨l1, l2, l3⟩⟩⟩), .int .i64 z, .slice M more.length cm] w fun e w' => e = .returned (.bool true) ∧ Below w.heap.size w w' := by
  have hbx : Below w.heap.size w ((w.alloc (.cells #[.int .i64 op, .string ⟨key.toArray⟩, .int .i64 kind, .int .u64 (n64 gap), .int .u64 (n64 slack), .int .u64 (n64 limit), .int .u64 (n64 span), .int .u64 (n64 units)] 30)).alloc (.cells #[.int .i64 aop, .int .i64 code, .int .u64 (n64 at_), .int .u64 (n64 retry), .int .i64 k, .int .u64 (n64 p1), .int .u64 (n64 p2), .int .u64 (n64 p3), .int .u64 (n64 p4), .int .u64 (n64 l1), .int .u64 (n64 l2), .int .u64 (n64 l3)] 36)) := ((Below.refl _ _).alloc (Nat.le_refl _) _).alloc (by simp) _
  have HB := Go.Lib.hid hbx
  have HXR := Go.Lib.hid (heap_before (w.alloc (.cells #[.int .i64 op, .string ⟨key.toArray⟩, .int .i64 kind, .int .u64 (n64 gap), .int .u64 (n64 slack), .int .u64 (n64 limit), .int .u64 (n64 span), .int .u64 (n64 units)] 30)) (.cells #[.int .i64 aop, .int .i64 code, .int .u64 (n64 at_), .int .u64 (n64 retry), .int .i64 k, .int .u64 (n64 p1), .int .u64 (n64 p2), .int .u64 (n64 p3), .int .u64 (n64 p4), .int .u64 (n64 l1), .int .u64 (n64 l2), .int .u64 (n64 l3)] 36) w.heap.size _ (by simp) (heap_here w (.cells #[.int .i64 op, .string ⟨key.toArray⟩, .int .i64 kind, .int .u64 (n64 gap), .int .u64 (n64 slack), .int .u64 (n64 limit), .int .u64 (n64 span), .int .u64 (n64 units)] 30) w.heap.size rfl))
  have HXA := Go.Lib.hid (heap_here (w.alloc (.cells #[.int .i64 op, .string ⟨key.toArray⟩, .int .i64 kind, .int .u64 (n64 gap), .int .u64 (n64 slack), .int .u64 (n64 limit), .int .u64 (n64 span), .int .u64 (n64 units)] 30)) (.cells #[.int .i64 aop, .int .i64 code, .int .u64 (n64 at_), .int .u64 (n64 retry), .int .i64 k, .int .u64 (n64 p1), .int .u64 (n64 p2), .int .u64 (n64 p3), .int .u64 (n64 p4), .int .u64 (n64 l1), .int .u64 (n64 l2), .int .u64 (n64 l3)] 36) (w.heap.size + 1) (by simp))
  have HE := Go.Lib.hid (e4_below hp hbx)
  have HM := Go.Lib.hid (cells_below hbx hM)
  obtain ⟨W, hW⟩ : ∃ W, W = (w.alloc (.cells #[.int .i64 op, .string ⟨key.toArray⟩, .int .i64 kind, .int .u64 (n64 gap), .int .u64 (n64 slack), .int .u64 (n64 limit), .int .u64 (n64 span), .int .u64 (n64 units)] 30)).alloc (.cells #[.int .i64 aop, .int .i64 code, .int .u64 (n64 at_), .int .u64 (n64 retry), .int .i64 k, .int .u64 (n64 p1), .int .u64 (n64 p2), .int .u64 (n64 p3), .int .u64 (n64 p4), .int .u64 (n64 l1), .int .u64 (n64 l2), .int .u64 (n64 l3)] 36) := ⟨_, rfl⟩
  simp only [reqA, ansA]
  go_enter Tryd.func7, Tryd.ntmps7
  go_wp2_with fail
  rw [← hW] at HB HXR HXA HE HM ⊢
  clear hW hbx hp hM
  refine (awake_calls p W HE.out).mono ?_
  rintro e w1 ⟨rfl, hb1⟩
  have HB' := Go.Lib.hid (below_then HB.out hb1)
  have HXR' := Go.Lib.hid (below_heap hb1 HXR.out)
  have HXA' := Go.Lib.hid (below_heap hb1 HXA.out)
  have HE' := Go.Lib.hid (e4_below HE.out hb1)
  have HM' := Go.Lib.hid (cells_below hb1 HM.out)
  clear HB HXR HXA HE HM
  have HB := HB'
  have HXR := HXR'
  have HXA := HXA'
  have HE := HE'
  have HM := HM'
  clear HB' HXR' HXA' HE' HM'
  clear hb1
  obtain ⟨x0, x1, x2, x3, x4, x5, x6, x7⟩ := box8 HXR.out
  obtain ⟨y0, y1, y2, y3, y4, y5, y6, y7, y8, y9, y10, y11⟩ := box12 HXA.out
  have zr := heap_frozen HXR.out
  have za := heap_frozen HXA.out
  have hsr := heap_lt HXR.out
  have hsa := heap_lt HXA.out
  have f1 : ¬ ((1048576 : Int) < (more.length : Int)) := by omega
  have f2 : ¬ ((1048576 : Int) < (key.length : Int)) := by omega
  go_wp2
  go_ret
  exact ⟨rfl, HB.out⟩

theorem cuts_calls (r : Req) (a : Ans) (z : Int) (M : Option Addr) (cm : Nat) (more : List UInt8) (p : Nat → Addr) (w : World) (hp : E4A w p) (hM : Cells w M (Bs more)) :
    Calls Tryd.prog 7 #[.agg (reqA r), .agg (ansA a), .int .i64 z, .slice M more.length cm] w fun e w' => e = .returned (.bool true) ∧ Below w.heap.size w w' := by
  have hcr := encS_cases r
  have hca := encR_cases a
  obtain ⟨op, key, ⟨kind, gap, slack, limit, span⟩, units⟩ := r
  obtain ⟨aop, ⟨code, at_, retry, ⟨k, p1, p2, p3, p4⟩, ⟨l1, l2, l3⟩⟩⟩ := a
  by_cases hml : 1048576 < more.length
  · exact cuts_gm op key kind gap slack limit span units aop code at_ retry k p1 p2 p3 p4 l1 l2 l3 z M cm more p w hp.1 hM hml
  by_cases hkl : 1048576 < key.length
  · exact cuts_gk op key kind gap slack limit span units aop code at_ retry k p1 p2 p3 p4 l1 l2 l3 z M cm more p w hp.1 hM hml hkl
  by_cases hz : z < 0
  · exact cuts_gz op key kind gap slack limit span units aop code at_ retry k p1 p2 p3 p4 l1 l2 l3 z M cm more p w hp.1 hM hml hkl hz
  obtain ⟨K, rfl⟩ := Int.eq_ofNat_of_zero_le (show 0 ≤ z by omega)
  replace hml : more.length ≤ 1048576 := by omega
  replace hkl : key.length ≤ 1048576 := by omega
  rcases hcr with ⟨h1, h2⟩ | ⟨hs, hsay, hk256, hb256⟩
  · have hs : encS ⟨op, key, ⟨kind, gap, slack, limit, span⟩, units⟩ = ([], (encS ⟨op, key, ⟨kind, gap, slack, limit, span⟩, units⟩).2) := Prod.ext h1 rfl
    have hea : errv p (encS ⟨op, key, ⟨kind, gap, slack, limit, span⟩, units⟩).2 = .iface 105 (.pointer (some (p (encS ⟨op, key, ⟨kind, gap, slack, limit, span⟩, units⟩).2))) := by rcases h2 with h | ⟨h, _⟩ <;> rw [h] <;> rfl
    by_cases hm0 : 0 < more.length
    · have hne : more ≠ [] := by rintro rfl; exact absurd hm0 (by decide)
      rcases hca with hsa | ⟨hsa, hsaya⟩
      · exact cuts_err_m_err op key kind gap slack limit span units aop code at_ retry k p1 p2 p3 p4 l1 l2 l3 K M cm more p w hp.1 hM trivial hml hkl _ _ hea hs hm0 hsa
      · by_cases hKd : K < (encRBody ⟨aop, ⟨code, at_, retry, ⟨k, p1, p2, p3, p4⟩, ⟨l1, l2, l3⟩⟩⟩).length
        · exact cuts_err_m_cut op key kind gap slack limit span units aop code at_ retry k p1 p2 p3 p4 l1 l2 l3 K M cm more p w hp.1 hM trivial hml hkl _ _ hea hs hm0 _ (encRBody_le _) hsa hKd (decR_cut _ K hsaya hKd) (decR_more _ more hsaya hne)
        · exact cuts_err_m_all op key kind gap slack limit span units aop code at_ retry k p1 p2 p3 p4 l1 l2 l3 K M cm more p w hp.1 hM trivial hml hkl _ _ hea hs hm0 _ (encRBody_le _) hsa hKd (decR_more _ more hsaya hne)
    · replace hm0 : more.length = 0 := by omega
      rcases hca with hsa | ⟨hsa, hsaya⟩
      · exact cuts_err_n_err op key kind gap slack limit span units aop code at_ retry k p1 p2 p3 p4 l1 l2 l3 K M cm more p w hp.1 hM trivial hml hkl _ _ hea hs hm0 hsa
      · by_cases hKd : K < (encRBody ⟨aop, ⟨code, at_, retry, ⟨k, p1, p2, p3, p4⟩, ⟨l1, l2, l3⟩⟩⟩).length
        · exact cuts_err_n_cut op key kind gap slack limit span units aop code at_ retry k p1 p2 p3 p4 l1 l2 l3 K M cm more p w hp.1 hM trivial hml hkl _ _ hea hs hm0 _ (encRBody_le _) hsa hKd (decR_cut _ K hsaya hKd)
        · exact cuts_err_n_all op key kind gap slack limit span units aop code at_ retry k p1 p2 p3 p4 l1 l2 l3 K M cm more p w hp.1 hM trivial hml hkl _ _ hea hs hm0 _ (encRBody_le _) hsa hKd
  · by_cases hKb : K < (encBody ⟨op, key, ⟨kind, gap, slack, limit, span⟩, units⟩).length
    · by_cases hm0 : 0 < more.length
      · have hne : more ≠ [] := by rintro rfl; exact absurd hm0 (by decide)
        rcases hca with hsa | ⟨hsa, hsaya⟩
        · exact cuts_cut_m_err op key kind gap slack limit span units aop code at_ retry k p1 p2 p3 p4 l1 l2 l3 K M cm more p w hp.1 hM trivial hml hkl _ hb256 hs hKb (dec_cut _ K hsay hk256 hKb) (dec_more _ more hsay hk256 hne) hm0 hsa
        · by_cases hKd : K < (encRBody ⟨aop, ⟨code, at_, retry, ⟨k, p1, p2, p3, p4⟩, ⟨l1, l2, l3⟩⟩⟩).length
          · exact cuts_cut_m_cut op key kind gap slack limit span units aop code at_ retry k p1 p2 p3 p4 l1 l2 l3 K M cm more p w hp.1 hM trivial hml hkl _ hb256 hs hKb (dec_cut _ K hsay hk256 hKb) (dec_more _ more hsay hk256 hne) hm0 _ (encRBody_le _) hsa hKd (decR_cut _ K hsaya hKd) (decR_more _ more hsaya hne)
          · exact cuts_cut_m_all op key kind gap slack limit span units aop code at_ retry k p1 p2 p3 p4 l1 l2 l3 K M cm more p w hp.1 hM trivial hml hkl _ hb256 hs hKb (dec_cut _ K hsay hk256 hKb) (dec_more _ more hsay hk256 hne) hm0 _ (encRBody_le _) hsa hKd (decR_more _ more hsaya hne)
      · replace hm0 : more.length = 0 := by omega
        rcases hca with hsa | ⟨hsa, hsaya⟩
        · exact cuts_cut_n_err op key kind gap slack limit span units aop code at_ retry k p1 p2 p3 p4 l1 l2 l3 K M cm more p w hp.1 hM trivial hml hkl _ hb256 hs hKb (dec_cut _ K hsay hk256 hKb) hm0 hsa
        · by_cases hKd : K < (encRBody ⟨aop, ⟨code, at_, retry, ⟨k, p1, p2, p3, p4⟩, ⟨l1, l2, l3⟩⟩⟩).length
          · exact cuts_cut_n_cut op key kind gap slack limit span units aop code at_ retry k p1 p2 p3 p4 l1 l2 l3 K M cm more p w hp.1 hM trivial hml hkl _ hb256 hs hKb (dec_cut _ K hsay hk256 hKb) hm0 _ (encRBody_le _) hsa hKd (decR_cut _ K hsaya hKd)
          · exact cuts_cut_n_all op key kind gap slack limit span units aop code at_ retry k p1 p2 p3 p4 l1 l2 l3 K M cm more p w hp.1 hM trivial hml hkl _ hb256 hs hKb (dec_cut _ K hsay hk256 hKb) hm0 _ (encRBody_le _) hsa hKd
    · by_cases hm0 : 0 < more.length
      · have hne : more ≠ [] := by rintro rfl; exact absurd hm0 (by decide)
        rcases hca with hsa | ⟨hsa, hsaya⟩
        · exact cuts_all_m_err op key kind gap slack limit span units aop code at_ retry k p1 p2 p3 p4 l1 l2 l3 K M cm more p w hp.1 hM trivial hml hkl _ hb256 hs hKb (dec_more _ more hsay hk256 hne) hm0 hsa
        · by_cases hKd : K < (encRBody ⟨aop, ⟨code, at_, retry, ⟨k, p1, p2, p3, p4⟩, ⟨l1, l2, l3⟩⟩⟩).length
          · exact cuts_all_m_cut op key kind gap slack limit span units aop code at_ retry k p1 p2 p3 p4 l1 l2 l3 K M cm more p w hp.1 hM trivial hml hkl _ hb256 hs hKb (dec_more _ more hsay hk256 hne) hm0 _ (encRBody_le _) hsa hKd (decR_cut _ K hsaya hKd) (decR_more _ more hsaya hne)
          · exact cuts_all_m_all op key kind gap slack limit span units aop code at_ retry k p1 p2 p3 p4 l1 l2 l3 K M cm more p w hp.1 hM trivial hml hkl _ hb256 hs hKb (dec_more _ more hsay hk256 hne) hm0 _ (encRBody_le _) hsa hKd (decR_more _ more hsaya hne)
      · replace hm0 : more.length = 0 := by omega
        rcases hca with hsa | ⟨hsa, hsaya⟩
        · exact cuts_all_n_err op key kind gap slack limit span units aop code at_ retry k p1 p2 p3 p4 l1 l2 l3 K M cm more p w hp.1 hM trivial hml hkl _ hb256 hs hKb hm0 hsa
        · by_cases hKd : K < (encRBody ⟨aop, ⟨code, at_, retry, ⟨k, p1, p2, p3, p4⟩, ⟨l1, l2, l3⟩⟩⟩).length
          · exact cuts_all_n_cut op key kind gap slack limit span units aop code at_ retry k p1 p2 p3 p4 l1 l2 l3 K M cm more p w hp.1 hM trivial hml hkl _ hb256 hs hKb hm0 _ (encRBody_le _) hsa hKd (decR_cut _ K hsaya hKd)
          · exact cuts_all_n_all op key kind gap slack limit span units aop code at_ retry k p1 p2 p3 p4 l1 l2 l3 K M cm more p w hp.1 hM trivial hml hkl _ hb256 hs hKb hm0 _ (encRBody_le _) hsa hKd
end Go.Proofs.YtonfeppenhebjaaDoor

/- The law RequestCuts walked: Encode takes, and a beginning of its payload is asked. (Printed by gen_reqcuts.py of this session.) -/
import Derived.Test.YtonfeppenhebjaaDoorReqCutsP
namespace Go.Proofs.YtonfeppenhebjaaDoor
open Go Go.RowKit
set_option linter.unusedVariables false
set_option linter.unusedSimpArgs false
attribute [local go_sem] IntKind.wrap_u64 c64_8 c8_64 c16_64 c32_64 c64_16 c64_32 or8 and8 n64_self n8_self beq_n64 beq_n8 bne_n8 bne_n64 beq_n64_0 bne_n64_0 wrap_b8


set_option maxRecDepth 100000 in
set_option maxHeartbeats 6400000 in
theorem cuts_cut_n_err (op : Int) (key : List UInt8) (kind : Int) (gap slack limit span units : UInt64) (aop code : Int) (at_ retry : UInt64) (k : Int) (p1 p2 p3 p4 l1 l2 l3 : UInt64) (K : Nat) (M : Option Addr) (cm : Nat) (more : List UInt8) (p : Nat → Addr) (w : World) (hp : E4 w p) (hM : Cells w M (Bs more)) (hap : True) (ha3 : more.length ≤ 1048576) (hk : key.length ≤ 1048576) (b : List UInt8) (hb256 : b.length ≤ 256) (hs : encS ⟨op, key, ⟨kind, gap, slack, limit, span⟩, units⟩ = (b, 0)) (hKb : K < b.length) (hcut : decS (b.take K) = (reqZ, 2)) (hm0 : more.length = 0) (hsa : encR ⟨aop, ⟨code, at_, retry, ⟨k, p1, p2, p3, p4⟩, ⟨l1, l2, l3⟩⟩⟩ = ([], 1)) :
    Calls Tryd.prog 7 #[.agg (reqA ⟨op, key, ⟨kind, gap, slack, limit, span⟩, units⟩), .agg (ansA ⟨aop, ⟨code, at_, retry, ⟨k, p1, p2, p3, p4⟩, ⟨l1, l2, l3⟩⟩⟩), .int .i64 (K : Int), .slice M more.length cm] w fun e w' => e = .returned (.bool true) ∧ Below w.heap.size w w' := by
  clear hap
  have hap : True := trivial
  have HENC := fun V hV => enc_okc ⟨op, key, ⟨kind, gap, slack, limit, span⟩, units⟩ b p V hV (by simp; omega) hs
  clear hs
  have hKl : (b.take K).length ≤ 256 := by rw [List.length_take]; omega
  have HDECK := fun V A c hV hA => dec_err (b.take K) 2 p (p 2) rfl V A c hV (by omega) hA hcut
  clear hcut
  have hKi : (K : Int) < (b.length : Int) := by omega
  have hmi : ¬ ((0 : Int) < (more.length : Int)) := by omega
  have HENA := fun V hV => encR_err ⟨aop, ⟨code, at_, retry, ⟨k, p1, p2, p3, p4⟩, ⟨l1, l2, l3⟩⟩⟩ 1 p (p 1) rfl V hV hsa
  clear hsa
  have s2 := fun V : World => neq_same V (p 2)
  have s3 := fun V : World => neq_same V (p 3)
  have r3 := fun V : World => eql_same V (p 3)
  have hqr : ∀ V : World, (binOp .neq 30 (.agg #[.int .i64 0, .string ⟨#[]⟩, .int .i64 0, .int .u64 0, .int .u64 0, .int .u64 0, .int .u64 0, .int .u64 0]) (.agg #[.int .i64 0, .string ⟨#[]⟩, .int .i64 0, .int .u64 0, .int .u64 0, .int .u64 0, .int .u64 0, .int .u64 0])).run Tryd.prog V = .ok (.bool false) V := fun V => by have h := neq_req reqZ reqZ V; rwa [beq_self_eq_true, Bool.not_true] at h
  have hqa : ∀ V : World, (binOp .eql 36 (.agg #[.int .i64 0, .int .i64 0, .int .u64 0, .int .u64 0, .int .i64 0, .int .u64 0, .int .u64 0, .int .u64 0, .int .u64 0, .int .u64 0, .int .u64 0, .int .u64 0]) (.agg #[.int .i64 0, .int .i64 0, .int .u64 0, .int .u64 0, .int .i64 0, .int .u64 0, .int .u64 0, .int .u64 0, .int .u64 0, .int .u64 0, .int .u64 0, .int .u64 0])).run Tryd.prog V = .ok (.bool true) V := fun V => by have h := eql_ans ansZ ansZ V; rwa [beq_self_eq_true] at h
  have hqn : ∀ V : World, (binOp .neq 36 (.agg #[.int .i64 0, .int .i64 0, .int .u64 0, .int .u64 0, .int .i64 0, .int .u64 0, .int .u64 0, .int .u64 0, .int .u64 0, .int .u64 0, .int .u64 0, .int .u64 0]) (.agg #[.int .i64 0, .int .i64 0, .int .u64 0, .int .u64 0, .int .i64 0, .int .u64 0, .int .u64 0, .int .u64 0, .int .u64 0, .int .u64 0, .int .u64 0, .int .u64 0])).run Tryd.prog V = .ok (.bool false) V := fun V => by have h := neq_ans ansZ ansZ V; rwa [beq_self_eq_true, Bool.not_true] at h
  have n20 : ¬ ((1048576 : Int) < (more.length : Int)) := by omega
  have nk : ¬ ((1048576 : Int) < (key.length : Int)) := by omega
  have hK0 : (0 : Int) ≤ (K : Int) := Int.natCast_nonneg _
  have hbx : Below w.heap.size w ((w.alloc (.cells #[.int .i64 op, .string ⟨key.toArray⟩, .int .i64 kind, .int .u64 (n64 gap), .int .u64 (n64 slack), .int .u64 (n64 limit), .int .u64 (n64 span), .int .u64 (n64 units)] 30)).alloc (.cells #[.int .i64 aop, .int .i64 code, .int .u64 (n64 at_), .int .u64 (n64 retry), .int .i64 k, .int .u64 (n64 p1), .int .u64 (n64 p2), .int .u64 (n64 p3), .int .u64 (n64 p4), .int .u64 (n64 l1), .int .u64 (n64 l2), .int .u64 (n64 l3)] 36)) := ((Below.refl _ _).alloc (Nat.le_refl _) _).alloc (by simp) _
  have HB := Go.Lib.hid hbx
  have HXR := Go.Lib.hid (heap_before (w.alloc (.cells #[.int .i64 op, .string ⟨key.toArray⟩, .int .i64 kind, .int .u64 (n64 gap), .int .u64 (n64 slack), .int .u64 (n64 limit), .int .u64 (n64 span), .int .u64 (n64 units)] 30)) (.cells #[.int .i64 aop, .int .i64 code, .int .u64 (n64 at_), .int .u64 (n64 retry), .int .i64 k, .int .u64 (n64 p1), .int .u64 (n64 p2), .int .u64 (n64 p3), .int .u64 (n64 p4), .int .u64 (n64 l1), .int .u64 (n64 l2), .int .u64 (n64 l3)] 36) w.heap.size _ (by simp) (heap_here w (.cells #[.int .i64 op, .string ⟨key.toArray⟩, .int .i64 kind, .int .u64 (n64 gap), .int .u64 (n64 slack), .int .u64 (n64 limit), .int .u64 (n64 span), .int .u64 (n64 units)] 30) w.heap.size rfl))
  have HXA := Go.Lib.hid (heap_here (w.alloc (.cells #[.int .i64 op, .string ⟨key.toArray⟩, .int .i64 kind, .int .u64 (n64 gap), .int .u64 (n64 slack), .int .u64 (n64 limit), .int .u64 (n64 span), .int .u64 (n64 units)] 30)) (.cells #[.int .i64 aop, .int .i64 code, .int .u64 (n64 at_), .int .u64 (n64 retry), .int .i64 k, .int .u64 (n64 p1), .int .u64 (n64 p2), .int .u64 (n64 p3), .int .u64 (n64 p4), .int .u64 (n64 l1), .int .u64 (n64 l2), .int .u64 (n64 l3)] 36) (w.heap.size + 1) (by simp))
  have HE := Go.Lib.hid (e4_below hp hbx)
  have HM := Go.Lib.hid (cells_below hbx hM)
  obtain ⟨W, hW⟩ : ∃ W, W = (w.alloc (.cells #[.int .i64 op, .string ⟨key.toArray⟩, .int .i64 kind, .int .u64 (n64 gap), .int .u64 (n64 slack), .int .u64 (n64 limit), .int .u64 (n64 span), .int .u64 (n64 units)] 30)).alloc (.cells #[.int .i64 aop, .int .i64 code, .int .u64 (n64 at_), .int .u64 (n64 retry), .int .i64 k, .int .u64 (n64 p1), .int .u64 (n64 p2), .int .u64 (n64 p3), .int .u64 (n64 p4), .int .u64 (n64 l1), .int .u64 (n64 l2), .int .u64 (n64 l3)] 36) := ⟨_, rfl⟩
  simp only [reqA, ansA]
  go_enter Tryd.func7, Tryd.ntmps7
  go_wp2_with fail
  rw [← hW] at HB HXR HXA HE HM ⊢
  clear hW hbx hp hM
  refine (awake_calls p W HE.out).mono ?_
  rintro e w1 ⟨rfl, hb1⟩
  have HB' := Go.Lib.hid (below_then HB.out hb1)
  have HXR' := Go.Lib.hid (below_heap hb1 HXR.out)
  have HXA' := Go.Lib.hid (below_heap hb1 HXA.out)
  have HE' := Go.Lib.hid (e4_below HE.out hb1)
  have HM' := Go.Lib.hid (cells_below hb1 HM.out)
  clear HB HXR HXA HE HM
  have HB := HB'
  have HXR := HXR'
  have HXA := HXA'
  have HE := HE'
  have HM := HM'
  clear HB' HXR' HXA' HE' HM'
  clear hb1
  obtain ⟨x0, x1, x2, x3, x4, x5, x6, x7⟩ := box8 HXR.out
  obtain ⟨y0, y1, y2, y3, y4, y5, y6, y7, y8, y9, y10, y11⟩ := box12 HXA.out
  have zr := heap_frozen HXR.out
  have za := heap_frozen HXA.out
  have hsr := heap_lt HXR.out
  have hsa := heap_lt HXA.out
  go_wp2_with fail
  clear x0 x1 x2 x3 x4 x5 x6 x7 y0 y1 y2 y3 y4 y5 y6 y7 y8 y9 y10 y11 zr za hsr hsa
  refine (HENC _ HE.out).mono ?_
  rintro e w2 ⟨A2, c2, rfl, HCB, hc2, HB2⟩
  have hb2 := HB2.out
  have HB' := Go.Lib.hid (below_then HB.out hb2)
  have HXR' := Go.Lib.hid (below_heap hb2 HXR.out)
  have HXA' := Go.Lib.hid (below_heap hb2 HXA.out)
  have HE' := Go.Lib.hid (e4_below HE.out hb2)
  have HM' := Go.Lib.hid (cells_below hb2 HM.out)
  clear HB HXR HXA HE HM
  have HB := HB'
  have HXR := HXR'
  have HXA := HXA'
  have HE := HE'
  have HM := HM'
  clear HB' HXR' HXA' HE' HM'
  clear hb2 HB2
  have hKc : (K : Int) ≤ (c2 : Int) := by omega
  have e2 := HE.out 2 (by decide) (by decide)
  have e3 := HE.out 3 (by decide) (by decide)
  simp only [errG, errv] at e2 e3
  have hbn : Below (w2).heap.size (w2) ((w2).alloc (.cells #[] 5)) := (Below.refl _ _).alloc (Nat.le_refl _) _
  have HO3 := Go.Lib.hid (own_fresh (w := (w2).alloc (.cells #[] 5)) (b := (w2).heap.size) (g := w2.heap.size) (e := 5) (l := []) (heap_here (w2) (.cells #[] 5) (w2.heap.size) (by simp)) (by simp) 0 rfl (by decide))
  have HB3 := Go.Lib.hid hbn
  have HC3 := Go.Lib.hid (cells_below hbn (cells_takeB HCB.out K))
  have HM3 := Go.Lib.hid (cells_below hbn HM.out)
  have hsz3 : (w2).heap.size ≤ ((w2).alloc (.cells #[] 5)).heap.size := by simp
  have hroom : (Bs ([] : List UInt8)).length + (b.take K).length ≤ 140737488355328 := by simp [Bs]; omega
  have hroom2 : (Bs ([] : List UInt8) ++ Bs (b.take K)).length + more.length ≤ 140737488355328 := by simp [Bs]; omega
  clear hbn
  go_wp2_with (first
    | (at_builtin; (with_reducible refine wpList_append_allN (s := .tmp 54) (x := .tmp 57) (t := 37) (e := 5) (z := .int .u8 0) (ht := Tryd.underlying37) (hinfo := info8) (base := (w2).heap.size) (v := .slice (some ⟨w2.heap.size, 0, none⟩) 0 0) (vs := Bs []) (hown := HO3.out) (hbase := hsz3) (A := A2) (c := c2) (n := K) (l := b.take K) (hn := (by rw [List.length_take]; omega)) (hA := HC3.out) (hroom := hroom) (hgd := rfl) (hz := ?_) (ho := ?_) (hs := ?_) (hx := ?_) (h := ?_)); rfl; rfl; rfl; rfl; intro v4 w4 hown4 hb4; have HO4 := Go.Lib.hid hown4; have HB4 := Go.Lib.hid hb4; have HM4 := Go.Lib.hid (cells_below (HB3.out.trans hb4) HM.out); have hsz4 := (HB3.out.trans hb4).size; clear hown4 hb4))
  obtain ⟨A5, c5, hv5, _, _, hc5⟩ := own_slice HO4.out
  have hbl : (Bs ([] : List UInt8) ++ Bs (b.take K)).length = (b.take K).length := by simp [Bs]
  have hbs : Bs ([] : List UInt8) ++ Bs (b.take K) = Bs (b.take K) := by simp [Bs]
  rw [hbl] at hv5
  rw [hbs] at hc5
  subst hv5
  have hbc := HB3.out.trans HB4.out
  clear e2 e3
  refine (HDECK _ A5 c5 (e4_below HE.out hbc) hc5).mono ?_
  rintro e w5 ⟨rfl, HB5⟩
  have hb5 := below_then hbc HB5.out
  have HB' := Go.Lib.hid (below_then HB.out hb5)
  have HXR' := Go.Lib.hid (below_heap hb5 HXR.out)
  have HXA' := Go.Lib.hid (below_heap hb5 HXA.out)
  have HE' := Go.Lib.hid (e4_below HE.out hb5)
  have HM' := Go.Lib.hid (cells_below hb5 HM.out)
  have HCB' := Go.Lib.hid (cells_below hb5 HCB.out)
  clear HB HXR HXA HE HM HCB
  have HB := HB'
  have HXR := HXR'
  have HXA := HXA'
  have HE := HE'
  have HM := HM'
  have HCB := HCB'
  clear HB' HXR' HXA' HE' HM' HCB'
  clear hbl hbs hbc HO3 HB3 HC3 HM3 hsz3 hroom hroom2 HO4 HB4 HM4 hsz4 hb5 HB5 hc5
  have hb6 : Below w5.heap.size w5 (w5.alloc (.cells #[.int .i64 0, .string ⟨#[]⟩, .int .i64 0, .int .u64 0, .int .u64 0, .int .u64 0, .int .u64 0, .int .u64 0] 30)) := (Below.refl _ _).alloc (Nat.le_refl _) _
  have HZ := Go.Lib.hid (heap_here w5 (.cells #[.int .i64 0, .string ⟨#[]⟩, .int .i64 0, .int .u64 0, .int .u64 0, .int .u64 0, .int .u64 0, .int .u64 0] 30) w5.heap.size rfl)
  have HB' := Go.Lib.hid (below_then HB.out hb6)
  have HXR' := Go.Lib.hid (below_heap hb6 HXR.out)
  have HXA' := Go.Lib.hid (below_heap hb6 HXA.out)
  have HE' := Go.Lib.hid (e4_below HE.out hb6)
  have HM' := Go.Lib.hid (cells_below hb6 HM.out)
  have HCB' := Go.Lib.hid (cells_below hb6 HCB.out)
  clear HB HXR HXA HE HM HCB
  have HB := HB'
  have HXR := HXR'
  have HXA := HXA'
  have HE := HE'
  have HM := HM'
  have HCB := HCB'
  clear HB' HXR' HXA' HE' HM' HCB'
  clear hb6
  obtain ⟨u0, u1, u2, u3, u4, u5, u6, u7⟩ := box8 HZ.out
  have hfz := heap_frozen HZ.out
  have hlz := heap_lt HZ.out
  have e2 := HE.out 2 (by decide) (by decide)
  have e3 := HE.out 3 (by decide) (by decide)
  simp only [errG, errv] at e2 e3
  obtain ⟨x0, x1, x2, x3, x4, x5, x6, x7⟩ := box8 HXR.out
  obtain ⟨y0, y1, y2, y3, y4, y5, y6, y7, y8, y9, y10, y11⟩ := box12 HXA.out
  have zr := heap_frozen HXR.out
  have za := heap_frozen HXA.out
  have hsr := heap_lt HXR.out
  have hsa := heap_lt HXA.out
  go_wp2_with fail
  clear x0 x1 x2 x3 x4 x5 x6 x7 y0 y1 y2 y3 y4 y5 y6 y7 y8 y9 y10 y11 zr za hsr hsa
  clear e2 e3
  clear HZ hfz hlz u0 u1 u2 u3 u4 u5 u6 u7
  refine (HENA _ HE.out).mono ?_
  rintro e w8 ⟨A8, c8, rfl, _, HB2⟩
  have hb2 := HB2.out
  have HB' := Go.Lib.hid (below_then HB.out hb2)
  have HXR' := Go.Lib.hid (below_heap hb2 HXR.out)
  have HXA' := Go.Lib.hid (below_heap hb2 HXA.out)
  have HE' := Go.Lib.hid (e4_below HE.out hb2)
  have HM' := Go.Lib.hid (cells_below hb2 HM.out)
  have HCB' := Go.Lib.hid (cells_below hb2 HCB.out)
  clear HB HXR HXA HE HM HCB
  have HB := HB'
  have HXR := HXR'
  have HXA := HXA'
  have HE := HE'
  have HM := HM'
  have HCB := HCB'
  clear HB' HXR' HXA' HE' HM' HCB'
  clear hb2 HB2
  have e2 := HE.out 2 (by decide) (by decide)
  have e3 := HE.out 3 (by decide) (by decide)
  simp only [errG, errv] at e2 e3
  go_wp2
  go_ret
  exact ⟨rfl, HB.out⟩

set_option maxRecDepth 100000 in
set_option maxHeartbeats 6400000 in
theorem cuts_cut_n_cut (op : Int) (key : List UInt8) (kind : Int) (gap slack limit span units : UInt64) (aop code : Int) (at_ retry : UInt64) (k : Int) (p1 p2 p3 p4 l1 l2 l3 : UInt64) (K : Nat) (M : Option Addr) (cm : Nat) (more : List UInt8) (p : Nat → Addr) (w : World) (hp : E4 w p) (hM : Cells w M (Bs more)) (hap : True) (ha3 : more.length ≤ 1048576) (hk : key.length ≤ 1048576) (b : List UInt8) (hb256 : b.length ≤ 256) (hs : encS ⟨op, key, ⟨kind, gap, slack, limit, span⟩, units⟩ = (b, 0)) (hKb : K < b.length) (hcut : decS (b.take K) = (reqZ, 2)) (hm0 : more.length = 0) (d : List UInt8) (hd256 : d.length ≤ 256) (hsa : encR ⟨aop, ⟨code, at_, retry, ⟨k, p1, p2, p3, p4⟩, ⟨l1, l2, l3⟩⟩⟩ = (d, 0)) (hKd : K < d.length) (hcuta : decR (d.take K) = (ansZ, 2)) :
    Calls Tryd.prog 7 #[.agg (reqA ⟨op, key, ⟨kind, gap, slack, limit, span⟩, units⟩), .agg (ansA ⟨aop, ⟨code, at_, retry, ⟨k, p1, p2, p3, p4⟩, ⟨l1, l2, l3⟩⟩⟩), .int .i64 (K : Int), .slice M more.length cm] w fun e w' => e = .returned (.bool true) ∧ Below w.heap.size w w' := by
  clear hap
  have hap : True := trivial
  have HENC := fun V hV => enc_okc ⟨op, key, ⟨kind, gap, slack, limit, span⟩, units⟩ b p V hV (by simp; omega) hs
  clear hs
  have hKl : (b.take K).length ≤ 256 := by rw [List.length_take]; omega
  have HDECK := fun V A c hV hA => dec_err (b.take K) 2 p (p 2) rfl V A c hV (by omega) hA hcut
  clear hcut
  have hKi : (K : Int) < (b.length : Int) := by omega
  have hmi : ¬ ((0 : Int) < (more.length : Int)) := by omega
  have HENA := fun V hV => encR_okc ⟨aop, ⟨code, at_, retry, ⟨k, p1, p2, p3, p4⟩, ⟨l1, l2, l3⟩⟩⟩ d p V hV hsa
  clear hsa
  have hKm : (d.take K).length ≤ 256 := by rw [List.length_take]; omega
  have HDEAK := fun V A c hV hA => decR_err (d.take K) 2 p (p 2) rfl V A c hV (by omega) hA hcuta
  clear hcuta
  have hKj : (K : Int) < (d.length : Int) := by omega
  have s2 := fun V : World => neq_same V (p 2)
  have s3 := fun V : World => neq_same V (p 3)
  have r3 := fun V : World => eql_same V (p 3)
  have hqr : ∀ V : World, (binOp .neq 30 (.agg #[.int .i64 0, .string ⟨#[]⟩, .int .i64 0, .int .u64 0, .int .u64 0, .int .u64 0, .int .u64 0, .int .u64 0]) (.agg #[.int .i64 0, .string ⟨#[]⟩, .int .i64 0, .int .u64 0, .int .u64 0, .int .u64 0, .int .u64 0, .int .u64 0])).run Tryd.prog V = .ok (.bool false) V := fun V => by have h := neq_req reqZ reqZ V; rwa [beq_self_eq_true, Bool.not_true] at h
  have hqa : ∀ V : World, (binOp .eql 36 (.agg #[.int .i64 0, .int .i64 0, .int .u64 0, .int .u64 0, .int .i64 0, .int .u64 0, .int .u64 0, .int .u64 0, .int .u64 0, .int .u64 0, .int .u64 0, .int .u64 0]) (.agg #[.int .i64 0, .int .i64 0, .int .u64 0, .int .u64 0, .int .i64 0, .int .u64 0, .int .u64 0, .int .u64 0, .int .u64 0, .int .u64 0, .int .u64 0, .int .u64 0])).run Tryd.prog V = .ok (.bool true) V := fun V => by have h := eql_ans ansZ ansZ V; rwa [beq_self_eq_true] at h
  have hqn : ∀ V : World, (binOp .neq 36 (.agg #[.int .i64 0, .int .i64 0, .int .u64 0, .int .u64 0, .int .i64 0, .int .u64 0, .int .u64 0, .int .u64 0, .int .u64 0, .int .u64 0, .int .u64 0, .int .u64 0]) (.agg #[.int .i64 0, .int .i64 0, .int .u64 0, .int .u64 0, .int .i64 0, .int .u64 0, .int .u64 0, .int .u64 0, .int .u64 0, .int .u64 0, .int .u64 0, .int .u64 0])).run Tryd.prog V = .ok (.bool false) V := fun V => by have h := neq_ans ansZ ansZ V; rwa [beq_self_eq_true, Bool.not_true] at h
  have n20 : ¬ ((1048576 : Int) < (more.length : Int)) := by omega
  have nk : ¬ ((1048576 : Int) < (key.length : Int)) := by omega
  have hK0 : (0 : Int) ≤ (K : Int) := Int.natCast_nonneg _
  have hbx : Below w.heap.size w ((w.alloc (.cells #[.int .i64 op, .string ⟨key.toArray⟩, .int .i64 kind, .int .u64 (n64 gap), .int .u64 (n64 slack), .int .u64 (n64 limit), .int .u64 (n64 span), .int .u64 (n64 units)] 30)).alloc (.cells #[.int .i64 aop, .int .i64 code, .int .u64 (n64 at_), .int .u64 (n64 retry), .int .i64 k, .int .u64 (n64 p1), .int .u64 (n64 p2), .int .u64 (n64 p3), .int .u64 (n64 p4), .int .u64 (n64 l1), .int .u64 (n64 l2), .int .u64 (n64 l3)] 36)) := ((Below.refl _ _).alloc (Nat.le_refl _) _).alloc (by simp) _
  have HB := Go.Lib.hid hbx
  have HXR := Go.Lib.hid (heap_before (w.alloc (.cells #[.int .i64 op, .string ⟨key.toArray⟩, .int .i64 kind, .int .u64 (n64 gap), .int .u64 (n64 slack), .int .u64 (n64 limit), .int .u64 (n64 span), .int .u64 (n64 units)] 30)) (.cells #[.int .i64 aop, .int .i64 code, .int .u64 (n64 at_), .int .u64 (n64 retry), .int .i64 k, .int .u64 (n64 p1), .int .u64 (n64 p2), .int .u64 (n64 p3), .int .u64 (n64 p4), .int .u64 (n64 l1), .int .u64 (n64 l2), .int .u64 (n64 l3)] 36) w.heap.size _ (by simp) (heap_here w (.cells #[.int .i64 op, .string ⟨key.toArray⟩, .int .i64 kind, .int .u64 (n64 gap), .int .u64 (n64 slack), .int .u64 (n64 limit), .int .u64 (n64 span), .int .u64 (n64 units)] 30) w.heap.size rfl))
  have HXA := Go.Lib.hid (heap_here (w.alloc (.cells #[.int .i64 op, .string ⟨key.toArray⟩, .int .i64 kind, .int .u64 (n64 gap), .int .u64 (n64 slack), .int .u64 (n64 limit), .int .u64 (n64 span), .int .u64 (n64 units)] 30)) (.cells #[.int .i64 aop, .int .i64 code, .int .u64 (n64 at_), .int .u64 (n64 retry), .int .i64 k, .int .u64 (n64 p1), .int .u64 (n64 p2), .int .u64 (n64 p3), .int .u64 (n64 p4), .int .u64 (n64 l1), .int .u64 (n64 l2), .int .u64 (n64 l3)] 36) (w.heap.size + 1) (by simp))
  have HE := Go.Lib.hid (e4_below hp hbx)
  have HM := Go.Lib.hid (cells_below hbx hM)
  obtain ⟨W, hW⟩ : ∃ W, W = (w.alloc (.cells #[.int .i64 op, .string ⟨key.toArray⟩, .int .i64 kind, .int .u64 (n64 gap), .int .u64 (n64 slack), .int .u64 (n64 limit), .int .u64 (n64 span), .int .u64 (n64 units)] 30)).alloc (.cells #[.int .i64 aop, .int .i64 code, .int .u64 (n64 at_), .int .u64 (n64 retry), .int .i64 k, .int .u64 (n64 p1), .int .u64 (n64 p2), .int .u64 (n64 p3), .int .u64 (n64 p4), .int .u64 (n64 l1), .int .u64 (n64 l2), .int .u64 (n64 l3)] 36) := ⟨_, rfl⟩
  simp only [reqA, ansA]
  go_enter Tryd.func7, Tryd.ntmps7
  go_wp2_with fail
  rw [← hW] at HB HXR HXA HE HM ⊢
  clear hW hbx hp hM
  refine (awake_calls p W HE.out).mono ?_
  rintro e w1 ⟨rfl, hb1⟩
  have HB' := Go.Lib.hid (below_then HB.out hb1)
  have HXR' := Go.Lib.hid (below_heap hb1 HXR.out)
  have HXA' := Go.Lib.hid (below_heap hb1 HXA.out)
  have HE' := Go.Lib.hid (e4_below HE.out hb1)
  have HM' := Go.Lib.hid (cells_below hb1 HM.out)
  clear HB HXR HXA HE HM
  have HB := HB'
  have HXR := HXR'
  have HXA := HXA'
  have HE := HE'
  have HM := HM'
  clear HB' HXR' HXA' HE' HM'
  clear hb1
  obtain ⟨x0, x1, x2, x3, x4, x5, x6, x7⟩ := box8 HXR.out
  obtain ⟨y0, y1, y2, y3, y4, y5, y6, y7, y8, y9, y10, y11⟩ := box12 HXA.out
  have zr := heap_frozen HXR.out
  have za := heap_frozen HXA.out
  have hsr := heap_lt HXR.out
  have hsa := heap_lt HXA.out
  go_wp2_with fail
  clear x0 x1 x2 x3 x4 x5 x6 x7 y0 y1 y2 y3 y4 y5 y6 y7 y8 y9 y10 y11 zr za hsr hsa
  refine (HENC _ HE.out).mono ?_
  rintro e w2 ⟨A2, c2, rfl, HCB, hc2, HB2⟩
  have hb2 := HB2.out
  have HB' := Go.Lib.hid (below_then HB.out hb2)
  have HXR' := Go.Lib.hid (below_heap hb2 HXR.out)
  have HXA' := Go.Lib.hid (below_heap hb2 HXA.out)
  have HE' := Go.Lib.hid (e4_below HE.out hb2)
  have HM' := Go.Lib.hid (cells_below hb2 HM.out)
  clear HB HXR HXA HE HM
  have HB := HB'
  have HXR := HXR'
  have HXA := HXA'
  have HE := HE'
  have HM := HM'
  clear HB' HXR' HXA' HE' HM'
  clear hb2 HB2
  have hKc : (K : Int) ≤ (c2 : Int) := by omega
  have e2 := HE.out 2 (by decide) (by decide)
  have e3 := HE.out 3 (by decide) (by decide)
  simp only [errG, errv] at e2 e3
  have hbn : Below (w2).heap.size (w2) ((w2).alloc (.cells #[] 5)) := (Below.refl _ _).alloc (Nat.le_refl _) _
  have HO3 := Go.Lib.hid (own_fresh (w := (w2).alloc (.cells #[] 5)) (b := (w2).heap.size) (g := w2.heap.size) (e := 5) (l := []) (heap_here (w2) (.cells #[] 5) (w2.heap.size) (by simp)) (by simp) 0 rfl (by decide))
  have HB3 := Go.Lib.hid hbn
  have HC3 := Go.Lib.hid (cells_below hbn (cells_takeB HCB.out K))
  have HM3 := Go.Lib.hid (cells_below hbn HM.out)
  have hsz3 : (w2).heap.size ≤ ((w2).alloc (.cells #[] 5)).heap.size := by simp
  have hroom : (Bs ([] : List UInt8)).length + (b.take K).length ≤ 140737488355328 := by simp [Bs]; omega
  have hroom2 : (Bs ([] : List UInt8) ++ Bs (b.take K)).length + more.length ≤ 140737488355328 := by simp [Bs]; omega
  clear hbn
  go_wp2_with (first
    | (at_builtin; (with_reducible refine wpList_append_allN (s := .tmp 54) (x := .tmp 57) (t := 37) (e := 5) (z := .int .u8 0) (ht := Tryd.underlying37) (hinfo := info8) (base := (w2).heap.size) (v := .slice (some ⟨w2.heap.size, 0, none⟩) 0 0) (vs := Bs []) (hown := HO3.out) (hbase := hsz3) (A := A2) (c := c2) (n := K) (l := b.take K) (hn := (by rw [List.length_take]; omega)) (hA := HC3.out) (hroom := hroom) (hgd := rfl) (hz := ?_) (ho := ?_) (hs := ?_) (hx := ?_) (h := ?_)); rfl; rfl; rfl; rfl; intro v4 w4 hown4 hb4; have HO4 := Go.Lib.hid hown4; have HB4 := Go.Lib.hid hb4; have HM4 := Go.Lib.hid (cells_below (HB3.out.trans hb4) HM.out); have hsz4 := (HB3.out.trans hb4).size; clear hown4 hb4))
  obtain ⟨A5, c5, hv5, _, _, hc5⟩ := own_slice HO4.out
  have hbl : (Bs ([] : List UInt8) ++ Bs (b.take K)).length = (b.take K).length := by simp [Bs]
  have hbs : Bs ([] : List UInt8) ++ Bs (b.take K) = Bs (b.take K) := by simp [Bs]
  rw [hbl] at hv5
  rw [hbs] at hc5
  subst hv5
  have hbc := HB3.out.trans HB4.out
  clear e2 e3
  refine (HDECK _ A5 c5 (e4_below HE.out hbc) hc5).mono ?_
  rintro e w5 ⟨rfl, HB5⟩
  have hb5 := below_then hbc HB5.out
  have HB' := Go.Lib.hid (below_then HB.out hb5)
  have HXR' := Go.Lib.hid (below_heap hb5 HXR.out)
  have HXA' := Go.Lib.hid (below_heap hb5 HXA.out)
  have HE' := Go.Lib.hid (e4_below HE.out hb5)
  have HM' := Go.Lib.hid (cells_below hb5 HM.out)
  have HCB' := Go.Lib.hid (cells_below hb5 HCB.out)
  clear HB HXR HXA HE HM HCB
  have HB := HB'
  have HXR := HXR'
  have HXA := HXA'
  have HE := HE'
  have HM := HM'
  have HCB := HCB'
  clear HB' HXR' HXA' HE' HM' HCB'
  clear hbl hbs hbc HO3 HB3 HC3 HM3 hsz3 hroom hroom2 HO4 HB4 HM4 hsz4 hb5 HB5 hc5
  have hb6 : Below w5.heap.size w5 (w5.alloc (.cells #[.int .i64 0, .string ⟨#[]⟩, .int .i64 0, .int .u64 0, .int .u64 0, .int .u64 0, .int .u64 0, .int .u64 0] 30)) := (Below.refl _ _).alloc (Nat.le_refl _) _
  have HZ := Go.Lib.hid (heap_here w5 (.cells #[.int .i64 0, .string ⟨#[]⟩, .int .i64 0, .int .u64 0, .int .u64 0, .int .u64 0, .int .u64 0, .int .u64 0] 30) w5.heap.size rfl)
  have HB' := Go.Lib.hid (below_then HB.out hb6)
  have HXR' := Go.Lib.hid (below_heap hb6 HXR.out)
  have HXA' := Go.Lib.hid (below_heap hb6 HXA.out)
  have HE' := Go.Lib.hid (e4_below HE.out hb6)
  have HM' := Go.Lib.hid (cells_below hb6 HM.out)
  have HCB' := Go.Lib.hid (cells_below hb6 HCB.out)
  clear HB HXR HXA HE HM HCB
  have HB := HB'
  have HXR := HXR'
  have HXA := HXA'
  have HE := HE'
  have HM := HM'
  have HCB := HCB'
  clear HB' HXR' HXA' HE' HM' HCB'
  clear hb6
  obtain ⟨u0, u1, u2, u3, u4, u5, u6, u7⟩ := box8 HZ.out
  have hfz := heap_frozen HZ.out
  have hlz := heap_lt HZ.out
  have e2 := HE.out 2 (by decide) (by decide)
  have e3 := HE.out 3 (by decide) (by decide)
  simp only [errG, errv] at e2 e3
  obtain ⟨x0, x1, x2, x3, x4, x5, x6, x7⟩ := box8 HXR.out
  obtain ⟨y0, y1, y2, y3, y4, y5, y6, y7, y8, y9, y10, y11⟩ := box12 HXA.out
  have zr := heap_frozen HXR.out
  have za := heap_frozen HXA.out
  have hsr := heap_lt HXR.out
  have hsa := heap_lt HXA.out
  go_wp2_with fail
  clear x0 x1 x2 x3 x4 x5 x6 x7 y0 y1 y2 y3 y4 y5 y6 y7 y8 y9 y10 y11 zr za hsr hsa
  clear e2 e3
  clear HZ hfz hlz u0 u1 u2 u3 u4 u5 u6 u7
  refine (HENA _ HE.out).mono ?_
  rintro e w8 ⟨A8, c8, rfl, HCC, hc8, HB2⟩
  have hb2 := HB2.out
  have HB' := Go.Lib.hid (below_then HB.out hb2)
  have HXR' := Go.Lib.hid (below_heap hb2 HXR.out)
  have HXA' := Go.Lib.hid (below_heap hb2 HXA.out)
  have HE' := Go.Lib.hid (e4_below HE.out hb2)
  have HM' := Go.Lib.hid (cells_below hb2 HM.out)
  have HCB' := Go.Lib.hid (cells_below hb2 HCB.out)
  clear HB HXR HXA HE HM HCB
  have HB := HB'
  have HXR := HXR'
  have HXA := HXA'
  have HE := HE'
  have HM := HM'
  have HCB := HCB'
  clear HB' HXR' HXA' HE' HM' HCB'
  clear hb2 HB2
  have hKe : (K : Int) ≤ (c8 : Int) := by omega
  have e2 := HE.out 2 (by decide) (by decide)
  have e3 := HE.out 3 (by decide) (by decide)
  simp only [errG, errv] at e2 e3
  have hbn : Below (w8).heap.size (w8) ((w8).alloc (.cells #[] 5)) := (Below.refl _ _).alloc (Nat.le_refl _) _
  have HO3 := Go.Lib.hid (own_fresh (w := (w8).alloc (.cells #[] 5)) (b := (w8).heap.size) (g := w8.heap.size) (e := 5) (l := []) (heap_here (w8) (.cells #[] 5) (w8.heap.size) (by simp)) (by simp) 0 rfl (by decide))
  have HB3 := Go.Lib.hid hbn
  have HC3 := Go.Lib.hid (cells_below hbn (cells_takeB HCC.out K))
  have HM3 := Go.Lib.hid (cells_below hbn HM.out)
  have hsz3 : (w8).heap.size ≤ ((w8).alloc (.cells #[] 5)).heap.size := by simp
  have hroom : (Bs ([] : List UInt8)).length + (d.take K).length ≤ 140737488355328 := by simp [Bs]; omega
  have hroom2 : (Bs ([] : List UInt8) ++ Bs (d.take K)).length + more.length ≤ 140737488355328 := by simp [Bs]; omega
  clear hbn
  go_wp2_with (first
    | (at_builtin; (with_reducible refine wpList_append_allN (s := .tmp 108) (x := .tmp 111) (t := 37) (e := 5) (z := .int .u8 0) (ht := Tryd.underlying37) (hinfo := info8) (base := (w8).heap.size) (v := .slice (some ⟨w8.heap.size, 0, none⟩) 0 0) (vs := Bs []) (hown := HO3.out) (hbase := hsz3) (A := A8) (c := c8) (n := K) (l := d.take K) (hn := (by rw [List.length_take]; omega)) (hA := HC3.out) (hroom := hroom) (hgd := rfl) (hz := ?_) (ho := ?_) (hs := ?_) (hx := ?_) (h := ?_)); rfl; rfl; rfl; rfl; intro v4 w4 hown4 hb4; have HO4 := Go.Lib.hid hown4; have HB4 := Go.Lib.hid hb4; have HM4 := Go.Lib.hid (cells_below (HB3.out.trans hb4) HM.out); have hsz4 := (HB3.out.trans hb4).size; clear hown4 hb4))
  obtain ⟨A5, c5, hv5, _, _, hc5⟩ := own_slice HO4.out
  have hbl : (Bs ([] : List UInt8) ++ Bs (d.take K)).length = (d.take K).length := by simp [Bs]
  have hbs : Bs ([] : List UInt8) ++ Bs (d.take K) = Bs (d.take K) := by simp [Bs]
  rw [hbl] at hv5
  rw [hbs] at hc5
  subst hv5
  have hbc := HB3.out.trans HB4.out
  clear e2 e3
  refine (HDEAK _ A5 c5 (e4_below HE.out hbc) hc5).mono ?_
  rintro e w9 ⟨rfl, HB5⟩
  have hb5 := below_then hbc HB5.out
  have HB' := Go.Lib.hid (below_then HB.out hb5)
  have HXR' := Go.Lib.hid (below_heap hb5 HXR.out)
  have HXA' := Go.Lib.hid (below_heap hb5 HXA.out)
  have HE' := Go.Lib.hid (e4_below HE.out hb5)
  have HM' := Go.Lib.hid (cells_below hb5 HM.out)
  have HCC' := Go.Lib.hid (cells_below hb5 HCC.out)
  clear HB HXR HXA HE HM HCC
  have HB := HB'
  have HXR := HXR'
  have HXA := HXA'
  have HE := HE'
  have HM := HM'
  have HCC := HCC'
  clear HB' HXR' HXA' HE' HM' HCC'
  clear hbl hbs hbc HO3 HB3 HC3 HM3 hsz3 hroom hroom2 HO4 HB4 HM4 hsz4 hb5 HB5 hc5
  have hb6 : Below w9.heap.size w9 (w9.alloc (.cells #[.int .i64 0, .int .i64 0, .int .u64 0, .int .u64 0, .int .i64 0, .int .u64 0, .int .u64 0, .int .u64 0, .int .u64 0, .int .u64 0, .int .u64 0, .int .u64 0] 36)) := (Below.refl _ _).alloc (Nat.le_refl _) _
  have HZ := Go.Lib.hid (heap_here w9 (.cells #[.int .i64 0, .int .i64 0, .int .u64 0, .int .u64 0, .int .i64 0, .int .u64 0, .int .u64 0, .int .u64 0, .int .u64 0, .int .u64 0, .int .u64 0, .int .u64 0] 36) w9.heap.size rfl)
  have HB' := Go.Lib.hid (below_then HB.out hb6)
  have HXR' := Go.Lib.hid (below_heap hb6 HXR.out)
  have HXA' := Go.Lib.hid (below_heap hb6 HXA.out)
  have HE' := Go.Lib.hid (e4_below HE.out hb6)
  have HM' := Go.Lib.hid (cells_below hb6 HM.out)
  have HCC' := Go.Lib.hid (cells_below hb6 HCC.out)
  clear HB HXR HXA HE HM HCC
  have HB := HB'
  have HXR := HXR'
  have HXA := HXA'
  have HE := HE'
  have HM := HM'
  have HCC := HCC'
  clear HB' HXR' HXA' HE' HM' HCC'
  clear hb6
  obtain ⟨u0, u1, u2, u3, u4, u5, u6, u7, u8, u9, u10, u11⟩ := box12 HZ.out
  have hfz := heap_frozen HZ.out
  have hlz := heap_lt HZ.out
  have e2 := HE.out 2 (by decide) (by decide)
  have e3 := HE.out 3 (by decide) (by decide)
  simp only [errG, errv] at e2 e3
  go_wp2
  go_ret
  exact ⟨rfl, HB.out⟩

set_option maxRecDepth 100000 in
set_option maxHeartbeats 6400000 in
theorem cuts_cut_n_all (op : Int) (key : List UInt8) (kind : Int) (gap slack limit span units : UInt64) (aop code : Int) (at_ retry : UInt64) (k : Int) (p1 p2 p3 p4 l1 l2 l3 : UInt64) (K : Nat) (M : Option Addr) (cm : Nat) (more : List UInt8) (p : Nat → Addr) (w : World) (hp : E4 w p) (hM : Cells w M (Bs more)) (hap : True) (ha3 : more.length ≤ 1048576) (hk : key.length ≤ 1048576) (b : List UInt8) (hb256 : b.length ≤ 256) (hs : encS ⟨op, key, ⟨kind, gap, slack, limit, span⟩, units⟩ = (b, 0)) (hKb : K < b.length) (hcut : decS (b.take K) = (reqZ, 2)) (hm0 : more.length = 0) (d : List UInt8) (hd256 : d.length ≤ 256) (hsa : encR ⟨aop, ⟨code, at_, retry, ⟨k, p1, p2, p3, p4⟩, ⟨l1, l2, l3⟩⟩⟩ = (d, 0)) (hKd : ¬ K < d.length) :
    Calls Tryd.prog 7 #[.agg (reqA ⟨op, key, ⟨kind, gap, slack, limit, span⟩, units⟩), .agg (ansA ⟨aop, ⟨code, at_, retry, ⟨k, p1, p2, p3, p4⟩, ⟨l1, l2, l3⟩⟩⟩), .int .i64 (K : Int), .slice M more.length cm] w fun e w' => e = .returned (.bool true) ∧ Below w.heap.size w w' := by
  clear hap
  have hap : True := trivial
  have HENC := fun V hV => enc_okc ⟨op, key, ⟨kind, gap, slack, limit, span⟩, units⟩ b p V hV (by simp; omega) hs
  clear hs
  have hKl : (b.take K).length ≤ 256 := by rw [List.length_take]; omega
  have HDECK := fun V A c hV hA => dec_err (b.take K) 2 p (p 2) rfl V A c hV (by omega) hA hcut
  clear hcut
  have hKi : (K : Int) < (b.length : Int) := by omega
  have hmi : ¬ ((0 : Int) < (more.length : Int)) := by omega
  have HENA := fun V hV => encR_okc ⟨aop, ⟨code, at_, retry, ⟨k, p1, p2, p3, p4⟩, ⟨l1, l2, l3⟩⟩⟩ d p V hV hsa
  clear hsa
  have hKj : ¬ ((K : Int) < (d.length : Int)) := by omega
  have s2 := fun V : World => neq_same V (p 2)
  have s3 := fun V : World => neq_same V (p 3)
  have r3 := fun V : World => eql_same V (p 3)
  have hqr : ∀ V : World, (binOp .neq 30 (.agg #[.int .i64 0, .string ⟨#[]⟩, .int .i64 0, .int .u64 0, .int .u64 0, .int .u64 0, .int .u64 0, .int .u64 0]) (.agg #[.int .i64 0, .string ⟨#[]⟩, .int .i64 0, .int .u64 0, .int .u64 0, .int .u64 0, .int .u64 0, .int .u64 0])).run Tryd.prog V = .ok (.bool false) V := fun V => by have h := neq_req reqZ reqZ V; rwa [beq_self_eq_true, Bool.not_true] at h
  have hqa : ∀ V : World, (binOp .eql 36 (.agg #[.int .i64 0, .int .i64 0, .int .u64 0, .int .u64 0, .int .i64 0, .int .u64 0, .int .u64 0, .int .u64 0, .int .u64 0, .int .u64 0, .int .u64 0, .int .u64 0]) (.agg #[.int .i64 0, .int .i64 0, .int .u64 0, .int .u64 0, .int .i64 0, .int .u64 0, .int .u64 0, .int .u64 0, .int .u64 0, .int .u64 0, .int .u64 0, .int .u64 0])).run Tryd.prog V = .ok (.bool true) V := fun V => by have h := eql_ans ansZ ansZ V; rwa [beq_self_eq_true] at h
  have hqn : ∀ V : World, (binOp .neq 36 (.agg #[.int .i64 0, .int .i64 0, .int .u64 0, .int .u64 0, .int .i64 0, .int .u64 0, .int .u64 0, .int .u64 0, .int .u64 0, .int .u64 0, .int .u64 0, .int .u64 0]) (.agg #[.int .i64 0, .int .i64 0, .int .u64 0, .int .u64 0, .int .i64 0, .int .u64 0, .int .u64 0, .int .u64 0, .int .u64 0, .int .u64 0, .int .u64 0, .int .u64 0])).run Tryd.prog V = .ok (.bool false) V := fun V => by have h := neq_ans ansZ ansZ V; rwa [beq_self_eq_true, Bool.not_true] at h
  have n20 : ¬ ((1048576 : Int) < (more.length : Int)) := by omega
  have nk : ¬ ((1048576 : Int) < (key.length : Int)) := by omega
  have hK0 : (0 : Int) ≤ (K : Int) := Int.natCast_nonneg _
  have hbx : Below w.heap.size w ((w.alloc (.cells #[.int .i64 op, .string ⟨key.toArray⟩, .int .i64 kind, .int .u64 (n64 gap), .int .u64 (n64 slack), .int .u64 (n64 limit), .int .u64 (n64 span), .int .u64 (n64 units)] 30)).alloc (.cells #[.int .i64 aop, .int .i64 code, .int .u64 (n64 at_), .int .u64 (n64 retry), .int .i64 k, .int .u64 (n64 p1), .int .u64 (n64 p2), .int .u64 (n64 p3), .int .u64 (n64 p4), .int .u64 (n64 l1), .int .u64 (n64 l2), .int .u64 (n64 l3)] 36)) := ((Below.refl _ _).alloc (Nat.le_refl _) _).alloc (by simp) _
  have HB := Go.Lib.hid hbx
  have HXR := Go.Lib.hid (heap_before (w.alloc (.cells #[.int .i64 op, .string ⟨key.toArray⟩, .int .i64 kind, .int .u64 (n64 gap), .int .u64 (n64 slack), .int .u64 (n64 limit), .int .u64 (n64 span), .int .u64 (n64 units)] 30)) (.cells #[.int .i64 aop, .int .i64 code, .int .u64 (n64 at_), .int .u64 (n64 retry), .int .i64 k, .int .u64 (n64 p1), .int .u64 (n64 p2), .int .u64 (n64 p3), .int .u64 (n64 p4), .int .u64 (n64 l1), .int .u64 (n64 l2), .int .u64 (n64 l3)] 36) w.heap.size _ (by simp) (heap_here w (.cells #[.int .i64 op, .string ⟨key.toArray⟩, .int .i64 kind, .int .u64 (n64 gap), .int .u64 (n64 slack), .int .u64 (n64 limit), .int .u64 (n64 span), .int .u64 (n64 units)] 30) w.heap.size rfl))
  have HXA := Go.Lib.hid (heap_here (w.alloc (.cells #[.int .i64 op, .string ⟨key.toArray⟩, .int .i64 kind, .int .u64 (n64 gap), .int .u64 (n64 slack), .int .u64 (n64 limit), .int .u64 (n64 span), .int .u64 (n64 units)] 30)) (.cells #[.int .i64 aop, .int .i64 code, .int .u64 (n64 at_), .int .u64 (n64 retry), .int .i64 k, .int .u64 (n64 p1), .int .u64 (n64 p2), .int .u64 (n64 p3), .int .u64 (n64 p4), .int .u64 (n64 l1), .int .u64 (n64 l2), .int .u64 (n64 l3)] 36) (w.heap.size + 1) (by simp))
  have HE := Go.Lib.hid (e4_below hp hbx)
  have HM := Go.Lib.hid (cells_below hbx hM)
  obtain ⟨W, hW⟩ : ∃ W, W = (w.alloc (.cells #[.int .i64 op, .string ⟨key.toArray⟩, .int .i64 kind, .int .u64 (n64 gap), .int .u64 (n64 slack), .int .u64 (n64 limit), .int .u64 (n64 span), .int .u64 (n64 units)] 30)).alloc (.cells #[.int .i64 aop, .int .i64 code, .int .u64 (n64 at_), .int .u64 (n64 retry), .int .i64 k, .int .u64 (n64 p1), .int .u64 (n64 p2), .int .u64 (n64 p3), .int .u64 (n64 p4), .int .u64 (n64 l1), .int .u64 (n64 l2), .int .u64 (n64 l3)] 36) := ⟨_, rfl⟩
  simp only [reqA, ansA]
  go_enter Tryd.func7, Tryd.ntmps7
  go_wp2_with fail
  rw [← hW] at HB HXR HXA HE HM ⊢
  clear hW hbx hp hM
  refine (awake_calls p W HE.out).mono ?_
  rintro e w1 ⟨rfl, hb1⟩
  have HB' := Go.Lib.hid (below_then HB.out hb1)
  have HXR' := Go.Lib.hid (below_heap hb1 HXR.out)
  have HXA' := Go.Lib.hid (below_heap hb1 HXA.out)
  have HE' := Go.Lib.hid (e4_below HE.out hb1)
  have HM' := Go.Lib.hid (cells_below hb1 HM.out)
  clear HB HXR HXA HE HM
  have HB := HB'
  have HXR := HXR'
  have HXA := HXA'
  have HE := HE'
  have HM := HM'
  clear HB' HXR' HXA' HE' HM'
  clear hb1
  obtain ⟨x0, x1, x2, x3, x4, x5, x6, x7⟩ := box8 HXR.out
  obtain ⟨y0, y1, y2, y3, y4, y5, y6, y7, y8, y9, y10, y11⟩ := box12 HXA.out
  have zr := heap_frozen HXR.out
  have za := heap_frozen HXA.out
  have hsr := heap_lt HXR.out
  have hsa := heap_lt HXA.out
  go_wp2_with fail
  clear x0 x1 x2 x3 x4 x5 x6 x7 y0 y1 y2 y3 y4 y5 y6 y7 y8 y9 y10 y11 zr za hsr hsa
  refine (HENC _ HE.out).mono ?_
  rintro e w2 ⟨A2, c2, rfl, HCB, hc2, HB2⟩
  have hb2 := HB2.out
  have HB' := Go.Lib.hid (below_then HB.out hb2)
  have HXR' := Go.Lib.hid (below_heap hb2 HXR.out)
  have HXA' := Go.Lib.hid (below_heap hb2 HXA.out)
  have HE' := Go.Lib.hid (e4_below HE.out hb2)
  have HM' := Go.Lib.hid (cells_below hb2 HM.out)
  clear HB HXR HXA HE HM
  have HB := HB'
  have HXR := HXR'
  have HXA := HXA'
  have HE := HE'
  have HM := HM'
  clear HB' HXR' HXA' HE' HM'
  clear hb2 HB2
  have hKc : (K : Int) ≤ (c2 : Int) := by omega
  have e2 := HE.out 2 (by decide) (by decide)
  have e3 := HE.out 3 (by decide) (by decide)
  simp only [errG, errv] at e2 e3
  have hbn : Below (w2).heap.size (w2) ((w2).alloc (.cells #[] 5)) := (Below.refl _ _).alloc (Nat.le_refl _) _
  have HO3 := Go.Lib.hid (own_fresh (w := (w2).alloc (.cells #[] 5)) (b := (w2).heap.size) (g := w2.heap.size) (e := 5) (l := []) (heap_here (w2) (.cells #[] 5) (w2.heap.size) (by simp)) (by simp) 0 rfl (by decide))
  have HB3 := Go.Lib.hid hbn
  have HC3 := Go.Lib.hid (cells_below hbn (cells_takeB HCB.out K))
  have HM3 := Go.Lib.hid (cells_below hbn HM.out)
  have hsz3 : (w2).heap.size ≤ ((w2).alloc (.cells #[] 5)).heap.size := by simp
  have hroom : (Bs ([] : List UInt8)).length + (b.take K).length ≤ 140737488355328 := by simp [Bs]; omega
  have hroom2 : (Bs ([] : List UInt8) ++ Bs (b.take K)).length + more.length ≤ 140737488355328 := by simp [Bs]; omega
  clear hbn
  go_wp2_with (first
    | (at_builtin; (with_reducible refine wpList_append_allN (s := .tmp 54) (x := .tmp 57) (t := 37) (e := 5) (z := .int .u8 0) (ht := Tryd.underlying37) (hinfo := info8) (base := (w2).heap.size) (v := .slice (some ⟨w2.heap.size, 0, none⟩) 0 0) (vs := Bs []) (hown := HO3.out) (hbase := hsz3) (A := A2) (c := c2) (n := K) (l := b.take K) (hn := (by rw [List.length_take]; omega)) (hA := HC3.out) (hroom := hroom) (hgd := rfl) (hz := ?_) (ho := ?_) (hs := ?_) (hx := ?_) (h := ?_)); rfl; rfl; rfl; rfl; intro v4 w4 hown4 hb4; have HO4 := Go.Lib.hid hown4; have HB4 := Go.Lib.hid hb4; have HM4 := Go.Lib.hid (cells_below (HB3.out.trans hb4) HM.out); have hsz4 := (HB3.out.trans hb4).size; clear hown4 hb4))
  obtain ⟨A5, c5, hv5, _, _, hc5⟩ := own_slice HO4.out
  have hbl : (Bs ([] : List UInt8) ++ Bs (b.take K)).length = (b.take K).length := by simp [Bs]
  have hbs : Bs ([] : List UInt8) ++ Bs (b.take K) = Bs (b.take K) := by simp [Bs]
  rw [hbl] at hv5
  rw [hbs] at hc5
  subst hv5
  have hbc := HB3.out.trans HB4.out
  clear e2 e3
  refine (HDECK _ A5 c5 (e4_below HE.out hbc) hc5).mono ?_
  rintro e w5 ⟨rfl, HB5⟩
  have hb5 := below_then hbc HB5.out
  have HB' := Go.Lib.hid (below_then HB.out hb5)
  have HXR' := Go.Lib.hid (below_heap hb5 HXR.out)
  have HXA' := Go.Lib.hid (below_heap hb5 HXA.out)
  have HE' := Go.Lib.hid (e4_below HE.out hb5)
  have HM' := Go.Lib.hid (cells_below hb5 HM.out)
  have HCB' := Go.Lib.hid (cells_below hb5 HCB.out)
  clear HB HXR HXA HE HM HCB
  have HB := HB'
  have HXR := HXR'
  have HXA := HXA'
  have HE := HE'
  have HM := HM'
  have HCB := HCB'
  clear HB' HXR' HXA' HE' HM' HCB'
  clear hbl hbs hbc HO3 HB3 HC3 HM3 hsz3 hroom hroom2 HO4 HB4 HM4 hsz4 hb5 HB5 hc5
  have hb6 : Below w5.heap.size w5 (w5.alloc (.cells #[.int .i64 0, .string ⟨#[]⟩, .int .i64 0, .int .u64 0, .int .u64 0, .int .u64 0, .int .u64 0, .int .u64 0] 30)) := (Below.refl _ _).alloc (Nat.le_refl _) _
  have HZ := Go.Lib.hid (heap_here w5 (.cells #[.int .i64 0, .string ⟨#[]⟩, .int .i64 0, .int .u64 0, .int .u64 0, .int .u64 0, .int .u64 0, .int .u64 0] 30) w5.heap.size rfl)
  have HB' := Go.Lib.hid (below_then HB.out hb6)
  have HXR' := Go.Lib.hid (below_heap hb6 HXR.out)
  have HXA' := Go.Lib.hid (below_heap hb6 HXA.out)
  have HE' := Go.Lib.hid (e4_below HE.out hb6)
  have HM' := Go.Lib.hid (cells_below hb6 HM.out)
  have HCB' := Go.Lib.hid (cells_below hb6 HCB.out)
  clear HB HXR HXA HE HM HCB
  have HB := HB'
  have HXR := HXR'
  have HXA := HXA'
  have HE := HE'
  have HM := HM'
  have HCB := HCB'
  clear HB' HXR' HXA' HE' HM' HCB'
  clear hb6
  obtain ⟨u0, u1, u2, u3, u4, u5, u6, u7⟩ := box8 HZ.out
  have hfz := heap_frozen HZ.out
  have hlz := heap_lt HZ.out
  have e2 := HE.out 2 (by decide) (by decide)
  have e3 := HE.out 3 (by decide) (by decide)
  simp only [errG, errv] at e2 e3
  obtain ⟨x0, x1, x2, x3, x4, x5, x6, x7⟩ := box8 HXR.out
  obtain ⟨y0, y1, y2, y3, y4, y5, y6, y7, y8, y9, y10, y11⟩ := box12 HXA.out
  have zr := heap_frozen HXR.out
  have za := heap_frozen HXA.out
  have hsr := heap_lt HXR.out
  have hsa := heap_lt HXA.out
  go_wp2_with fail
  clear x0 x1 x2 x3 x4 x5 x6 x7 y0 y1 y2 y3 y4 y5 y6 y7 y8 y9 y10 y11 zr za hsr hsa
  clear e2 e3
  clear HZ hfz hlz u0 u1 u2 u3 u4 u5 u6 u7
  refine (HENA _ HE.out).mono ?_
  rintro e w8 ⟨A8, c8, rfl, HCC, hc8, HB2⟩
  have hb2 := HB2.out
  have HB' := Go.Lib.hid (below_then HB.out hb2)
  have HXR' := Go.Lib.hid (below_heap hb2 HXR.out)
  have HXA' := Go.Lib.hid (below_heap hb2 HXA.out)
  have HE' := Go.Lib.hid (e4_below HE.out hb2)
  have HM' := Go.Lib.hid (cells_below hb2 HM.out)
  have HCB' := Go.Lib.hid (cells_below hb2 HCB.out)
  clear HB HXR HXA HE HM HCB
  have HB := HB'
  have HXR := HXR'
  have HXA := HXA'
  have HE := HE'
  have HM := HM'
  have HCB := HCB'
  clear HB' HXR' HXA' HE' HM' HCB'
  clear hb2 HB2
  have e2 := HE.out 2 (by decide) (by decide)
  have e3 := HE.out 3 (by decide) (by decide)
  simp only [errG, errv] at e2 e3
  go_wp2
  go_ret
  exact ⟨rfl, HB.out⟩

set_option maxRecDepth 100000 in
set_option maxHeartbeats 6400000 in
theorem cuts_cut_m_err (op : Int) (key : List UInt8) (kind : Int) (gap slack limit span units : UInt64) (aop code : Int) (at_ retry : UInt64) (k : Int) (p1 p2 p3 p4 l1 l2 l3 : UInt64) (K : Nat) (M : Option Addr) (cm : Nat) (more : List UInt8) (p : Nat → Addr) (w : World) (hp : E4 w p) (hM : Cells w M (Bs more)) (hap : True) (ha3 : more.length ≤ 1048576) (hk : key.length ≤ 1048576) (b : List UInt8) (hb256 : b.length ≤ 256) (hs : encS ⟨op, key, ⟨kind, gap, slack, limit, span⟩, units⟩ = (b, 0)) (hKb : K < b.length) (hcut : decS (b.take K) = (reqZ, 2)) (hmore : decS (b ++ more) = (reqZ, 3)) (hm0 : 0 < more.length) (hsa : encR ⟨aop, ⟨code, at_, retry, ⟨k, p1, p2, p3, p4⟩, ⟨l1, l2, l3⟩⟩⟩ = ([], 1)) :
    Calls Tryd.prog 7 #[.agg (reqA ⟨op, key, ⟨kind, gap, slack, limit, span⟩, units⟩), .agg (ansA ⟨aop, ⟨code, at_, retry, ⟨k, p1, p2, p3, p4⟩, ⟨l1, l2, l3⟩⟩⟩), .int .i64 (K : Int), .slice M more.length cm] w fun e w' => e = .returned (.bool true) ∧ Below w.heap.size w w' := by
  clear hap
  have hap : True := trivial
  have HENC := fun V hV => enc_okc ⟨op, key, ⟨kind, gap, slack, limit, span⟩, units⟩ b p V hV (by simp; omega) hs
  clear hs
  have hKl : (b.take K).length ≤ 256 := by rw [List.length_take]; omega
  have HDECK := fun V A c hV hA => dec_err (b.take K) 2 p (p 2) rfl V A c hV (by omega) hA hcut
  clear hcut
  have hKi : (K : Int) < (b.length : Int) := by omega
  have hml : (b ++ more).length ≤ 2000000 := by rw [List.length_append]; omega
  have HDECM := fun V A c hV hA => dec_err (b ++ more) 3 p (p 3) rfl V A c hV (by omega) hA hmore
  clear hmore
  have hmi : (0 : Int) < (more.length : Int) := by omega
  have hmz : ((more.length : Int) == 0) = false := by rw [beq_eq_false_iff_ne]; omega
  have HENA := fun V hV => encR_err ⟨aop, ⟨code, at_, retry, ⟨k, p1, p2, p3, p4⟩, ⟨l1, l2, l3⟩⟩⟩ 1 p (p 1) rfl V hV hsa
  clear hsa
  have s2 := fun V : World => neq_same V (p 2)
  have s3 := fun V : World => neq_same V (p 3)
  have r3 := fun V : World => eql_same V (p 3)
  have hqr : ∀ V : World, (binOp .neq 30 (.agg #[.int .i64 0, .string ⟨#[]⟩, .int .i64 0, .int .u64 0, .int .u64 0, .int .u64 0, .int .u64 0, .int .u64 0]) (.agg #[.int .i64 0, .string ⟨#[]⟩, .int .i64 0, .int .u64 0, .int .u64 0, .int .u64 0, .int .u64 0, .int .u64 0])).run Tryd.prog V = .ok (.bool false) V := fun V => by have h := neq_req reqZ reqZ V; rwa [beq_self_eq_true, Bool.not_true] at h
  have hqa : ∀ V : World, (binOp .eql 36 (.agg #[.int .i64 0, .int .i64 0, .int .u64 0, .int .u64 0, .int .i64 0, .int .u64 0, .int .u64 0, .int .u64 0, .int .u64 0, .int .u64 0, .int .u64 0, .int .u64 0]) (.agg #[.int .i64 0, .int .i64 0, .int .u64 0, .int .u64 0, .int .i64 0, .int .u64 0, .int .u64 0, .int .u64 0, .int .u64 0, .int .u64 0, .int .u64 0, .int .u64 0])).run Tryd.prog V = .ok (.bool true) V := fun V => by have h := eql_ans ansZ ansZ V; rwa [beq_self_eq_true] at h
  have hqn : ∀ V : World, (binOp .neq 36 (.agg #[.int .i64 0, .int .i64 0, .int .u64 0, .int .u64 0, .int .i64 0, .int .u64 0, .int .u64 0, .int .u64 0, .int .u64 0, .int .u64 0, .int .u64 0, .int .u64 0]) (.agg #[.int .i64 0, .int .i64 0, .int .u64 0, .int .u64 0, .int .i64 0, .int .u64 0, .int .u64 0, .int .u64 0, .int .u64 0, .int .u64 0, .int .u64 0, .int .u64 0])).run Tryd.prog V = .ok (.bool false) V := fun V => by have h := neq_ans ansZ ansZ V; rwa [beq_self_eq_true, Bool.not_true] at h
  have n20 : ¬ ((1048576 : Int) < (more.length : Int)) := by omega
  have nk : ¬ ((1048576 : Int) < (key.length : Int)) := by omega
  have hK0 : (0 : Int) ≤ (K : Int) := Int.natCast_nonneg _
  have hbx : Below w.heap.size w ((w.alloc (.cells #[.int .i64 op, .string ⟨key.toArray⟩, .int .i64 kind, .int .u64 (n64 gap), .int .u64 (n64 slack), .int .u64 (n64 limit), .int .u64 (n64 span), .int .u64 (n64 units)] 30)).alloc (.cells #[.int .i64 aop, .int .i64 code, .int .u64 (n64 at_), .int .u64 (n64 retry), .int .i64 k, .int .u64 (n64 p1), .int .u64 (n64 p2), .int .u64 (n64 p3), .int .u64 (n64 p4), .int .u64 (n64 l1), .int .u64 (n64 l2), .int .u64 (n64 l3)] 36)) := ((Below.refl _ _).alloc (Nat.le_refl _) _).alloc (by simp) _
  have HB := Go.Lib.hid hbx
  have HXR := Go.Lib.hid (heap_before (w.alloc (.cells #[.int .i64 op, .string ⟨key.toArray⟩, .int .i64 kind, .int .u64 (n64 gap), .int .u64 (n64 slack), .int .u64 (n64 limit), .int .u64 (n64 span), .int .u64 (n64 units)] 30)) (.cells #[.int .i64 aop, .int .i64 code, .int .u64 (n64 at_), .int .u64 (n64 retry), .int .i64 k, .int .u64 (n64 p1), .int .u64 (n64 p2), .int .u64 (n64 p3), .int .u64 (n64 p4), .int .u64 (n64 l1), .int .u64 (n64 l2), .int .u64 (n64 l3)] 36) w.heap.size _ (by simp) (heap_here w (.cells #[.int .i64 op, .string ⟨key.toArray⟩, .int .i64 kind, .int .u64 (n64 gap), .int .u64 (n64 slack), .int .u64 (n64 limit), .int .u64 (n64 span), .int .u64 (n64 units)] 30) w.heap.size rfl))
  have HXA := Go.Lib.hid (heap_here (w.alloc (.cells #[.int .i64 op, .string ⟨key.toArray⟩, .int .i64 kind, .int .u64 (n64 gap), .int .u64 (n64 slack), .int .u64 (n64 limit), .int .u64 (n64 span), .int .u64 (n64 units)] 30)) (.cells #[.int .i64 aop, .int .i64 code, .int .u64 (n64 at_), .int .u64 (n64 retry), .int .i64 k, .int .u64 (n64 p1), .int .u64 (n64 p2), .int .u64 (n64 p3), .int .u64 (n64 p4), .int .u64 (n64 l1), .int .u64 (n64 l2), .int .u64 (n64 l3)] 36) (w.heap.size + 1) (by simp))
  have HE := Go.Lib.hid (e4_below hp hbx)
  have HM := Go.Lib.hid (cells_below hbx hM)
  obtain ⟨W, hW⟩ : ∃ W, W = (w.alloc (.cells #[.int .i64 op, .string ⟨key.toArray⟩, .int .i64 kind, .int .u64 (n64 gap), .int .u64 (n64 slack), .int .u64 (n64 limit), .int .u64 (n64 span), .int .u64 (n64 units)] 30)).alloc (.cells #[.int .i64 aop, .int .i64 code, .int .u64 (n64 at_), .int .u64 (n64 retry), .int .i64 k, .int .u64 (n64 p1), .int .u64 (n64 p2), .int .u64 (n64 p3), .int .u64 (n64 p4), .int .u64 (n64 l1), .int .u64 (n64 l2), .int .u64 (n64 l3)] 36) := ⟨_, rfl⟩
  simp only [reqA, ansA]
  go_enter Tryd.func7, Tryd.ntmps7
  go_wp2_with fail
  rw [← hW] at HB HXR HXA HE HM ⊢
  clear hW hbx hp hM
  refine (awake_calls p W HE.out).mono ?_
  rintro e w1 ⟨rfl, hb1⟩
  have HB' := Go.Lib.hid (below_then HB.out hb1)
  have HXR' := Go.Lib.hid (below_heap hb1 HXR.out)
  have HXA' := Go.Lib.hid (below_heap hb1 HXA.out)
  have HE' := Go.Lib.hid (e4_below HE.out hb1)
  have HM' := Go.Lib.hid (cells_below hb1 HM.out)
  clear HB HXR HXA HE HM
  have HB := HB'
  have HXR := HXR'
  have HXA := HXA'
  have HE := HE'
  have HM := HM'
  clear HB' HXR' HXA' HE' HM'
  clear hb1
  obtain ⟨x0, x1, x2, x3, x4, x5, x6, x7⟩ := box8 HXR.out
  obtain ⟨y0, y1, y2, y3, y4, y5, y6, y7, y8, y9, y10, y11⟩ := box12 HXA.out
  have zr := heap_frozen HXR.out
  have za := heap_frozen HXA.out
  have hsr := heap_lt HXR.out
  have hsa := heap_lt HXA.out
  go_wp2_with fail
  clear x0 x1 x2 x3 x4 x5 x6 x7 y0 y1 y2 y3 y4 y5 y6 y7 y8 y9 y10 y11 zr za hsr hsa
  refine (HENC _ HE.out).mono ?_
  rintro e w2 ⟨A2, c2, rfl, HCB, hc2, HB2⟩
  have hb2 := HB2.out
  have HB' := Go.Lib.hid (below_then HB.out hb2)
  have HXR' := Go.Lib.hid (below_heap hb2 HXR.out)
  have HXA' := Go.Lib.hid (below_heap hb2 HXA.out)
  have HE' := Go.Lib.hid (e4_below HE.out hb2)
  have HM' := Go.Lib.hid (cells_below hb2 HM.out)
  clear HB HXR HXA HE HM
  have HB := HB'
  have HXR := HXR'
  have HXA := HXA'
  have HE := HE'
  have HM := HM'
  clear HB' HXR' HXA' HE' HM'
  clear hb2 HB2
  have hKc : (K : Int) ≤ (c2 : Int) := by omega
  have e2 := HE.out 2 (by decide) (by decide)
  have e3 := HE.out 3 (by decide) (by decide)
  simp only [errG, errv] at e2 e3
  have hbn : Below (w2).heap.size (w2) ((w2).alloc (.cells #[] 5)) := (Below.refl _ _).alloc (Nat.le_refl _) _
  have HO3 := Go.Lib.hid (own_fresh (w := (w2).alloc (.cells #[] 5)) (b := (w2).heap.size) (g := w2.heap.size) (e := 5) (l := []) (heap_here (w2) (.cells #[] 5) (w2.heap.size) (by simp)) (by simp) 0 rfl (by decide))
  have HB3 := Go.Lib.hid hbn
  have HC3 := Go.Lib.hid (cells_below hbn (cells_takeB HCB.out K))
  have HM3 := Go.Lib.hid (cells_below hbn HM.out)
  have hsz3 : (w2).heap.size ≤ ((w2).alloc (.cells #[] 5)).heap.size := by simp
  have hroom : (Bs ([] : List UInt8)).length + (b.take K).length ≤ 140737488355328 := by simp [Bs]; omega
  have hroom2 : (Bs ([] : List UInt8) ++ Bs (b.take K)).length + more.length ≤ 140737488355328 := by simp [Bs]; omega
  clear hbn
  go_wp2_with (first
    | (at_builtin; (with_reducible refine wpList_append_allN (s := .tmp 54) (x := .tmp 57) (t := 37) (e := 5) (z := .int .u8 0) (ht := Tryd.underlying37) (hinfo := info8) (base := (w2).heap.size) (v := .slice (some ⟨w2.heap.size, 0, none⟩) 0 0) (vs := Bs []) (hown := HO3.out) (hbase := hsz3) (A := A2) (c := c2) (n := K) (l := b.take K) (hn := (by rw [List.length_take]; omega)) (hA := HC3.out) (hroom := hroom) (hgd := rfl) (hz := ?_) (ho := ?_) (hs := ?_) (hx := ?_) (h := ?_)); rfl; rfl; rfl; rfl; intro v4 w4 hown4 hb4; have HO4 := Go.Lib.hid hown4; have HB4 := Go.Lib.hid hb4; have HM4 := Go.Lib.hid (cells_below (HB3.out.trans hb4) HM.out); have hsz4 := (HB3.out.trans hb4).size; clear hown4 hb4))
  obtain ⟨A5, c5, hv5, _, _, hc5⟩ := own_slice HO4.out
  have hbl : (Bs ([] : List UInt8) ++ Bs (b.take K)).length = (b.take K).length := by simp [Bs]
  have hbs : Bs ([] : List UInt8) ++ Bs (b.take K) = Bs (b.take K) := by simp [Bs]
  rw [hbl] at hv5
  rw [hbs] at hc5
  subst hv5
  have hbc := HB3.out.trans HB4.out
  clear e2 e3
  refine (HDECK _ A5 c5 (e4_below HE.out hbc) hc5).mono ?_
  rintro e w5 ⟨rfl, HB5⟩
  have hb5 := below_then hbc HB5.out
  have HB' := Go.Lib.hid (below_then HB.out hb5)
  have HXR' := Go.Lib.hid (below_heap hb5 HXR.out)
  have HXA' := Go.Lib.hid (below_heap hb5 HXA.out)
  have HE' := Go.Lib.hid (e4_below HE.out hb5)
  have HM' := Go.Lib.hid (cells_below hb5 HM.out)
  have HCB' := Go.Lib.hid (cells_below hb5 HCB.out)
  clear HB HXR HXA HE HM HCB
  have HB := HB'
  have HXR := HXR'
  have HXA := HXA'
  have HE := HE'
  have HM := HM'
  have HCB := HCB'
  clear HB' HXR' HXA' HE' HM' HCB'
  clear hbl hbs hbc HO3 HB3 HC3 HM3 hsz3 hroom hroom2 HO4 HB4 HM4 hsz4 hb5 HB5 hc5
  have hb6 : Below w5.heap.size w5 (w5.alloc (.cells #[.int .i64 0, .string ⟨#[]⟩, .int .i64 0, .int .u64 0, .int .u64 0, .int .u64 0, .int .u64 0, .int .u64 0] 30)) := (Below.refl _ _).alloc (Nat.le_refl _) _
  have HZ := Go.Lib.hid (heap_here w5 (.cells #[.int .i64 0, .string ⟨#[]⟩, .int .i64 0, .int .u64 0, .int .u64 0, .int .u64 0, .int .u64 0, .int .u64 0] 30) w5.heap.size rfl)
  have HB' := Go.Lib.hid (below_then HB.out hb6)
  have HXR' := Go.Lib.hid (below_heap hb6 HXR.out)
  have HXA' := Go.Lib.hid (below_heap hb6 HXA.out)
  have HE' := Go.Lib.hid (e4_below HE.out hb6)
  have HM' := Go.Lib.hid (cells_below hb6 HM.out)
  have HCB' := Go.Lib.hid (cells_below hb6 HCB.out)
  clear HB HXR HXA HE HM HCB
  have HB := HB'
  have HXR := HXR'
  have HXA := HXA'
  have HE := HE'
  have HM := HM'
  have HCB := HCB'
  clear HB' HXR' HXA' HE' HM' HCB'
  clear hb6
  obtain ⟨u0, u1, u2, u3, u4, u5, u6, u7⟩ := box8 HZ.out
  have hfz := heap_frozen HZ.out
  have hlz := heap_lt HZ.out
  have e2 := HE.out 2 (by decide) (by decide)
  have e3 := HE.out 3 (by decide) (by decide)
  simp only [errG, errv] at e2 e3
  have hbn : Below ((w5.alloc (.cells #[.int .i64 0, .string ⟨#[]⟩, .int .i64 0, .int .u64 0, .int .u64 0, .int .u64 0, .int .u64 0, .int .u64 0] 30))).heap.size ((w5.alloc (.cells #[.int .i64 0, .string ⟨#[]⟩, .int .i64 0, .int .u64 0, .int .u64 0, .int .u64 0, .int .u64 0, .int .u64 0] 30))) (((w5.alloc (.cells #[.int .i64 0, .string ⟨#[]⟩, .int .i64 0, .int .u64 0, .int .u64 0, .int .u64 0, .int .u64 0, .int .u64 0] 30))).alloc (.cells #[] 5)) := (Below.refl _ _).alloc (Nat.le_refl _) _
  have HO3 := Go.Lib.hid (own_fresh (w := ((w5.alloc (.cells #[.int .i64 0, .string ⟨#[]⟩, .int .i64 0, .int .u64 0, .int .u64 0, .int .u64 0, .int .u64 0, .int .u64 0] 30))).alloc (.cells #[] 5)) (b := ((w5.alloc (.cells #[.int .i64 0, .string ⟨#[]⟩, .int .i64 0, .int .u64 0, .int .u64 0, .int .u64 0, .int .u64 0, .int .u64 0] 30))).heap.size) (g := w5.heap.size + 1) (e := 5) (l := []) (heap_here ((w5.alloc (.cells #[.int .i64 0, .string ⟨#[]⟩, .int .i64 0, .int .u64 0, .int .u64 0, .int .u64 0, .int .u64 0, .int .u64 0] 30))) (.cells #[] 5) (w5.heap.size + 1) (by simp)) (by simp) 0 rfl (by decide))
  have HB3 := Go.Lib.hid hbn
  have HC3 := Go.Lib.hid (cells_below hbn HCB.out)
  have HM3 := Go.Lib.hid (cells_below hbn HM.out)
  have hsz3 : ((w5.alloc (.cells #[.int .i64 0, .string ⟨#[]⟩, .int .i64 0, .int .u64 0, .int .u64 0, .int .u64 0, .int .u64 0, .int .u64 0] 30))).heap.size ≤ (((w5.alloc (.cells #[.int .i64 0, .string ⟨#[]⟩, .int .i64 0, .int .u64 0, .int .u64 0, .int .u64 0, .int .u64 0, .int .u64 0] 30))).alloc (.cells #[] 5)).heap.size := by simp
  have hroom : (Bs ([] : List UInt8)).length + (b).length ≤ 140737488355328 := by simp [Bs]; omega
  have hroom2 : (Bs ([] : List UInt8) ++ Bs (b)).length + more.length ≤ 140737488355328 := by simp [Bs]; omega
  clear hbn
  go_wp2_with (first
    | (at_builtin; (with_reducible refine wpList_append_allN (s := .tmp 78) (x := .tmp 79) (t := 37) (e := 5) (z := .int .u8 0) (ht := Tryd.underlying37) (hinfo := info8) (base := ((w5.alloc (.cells #[.int .i64 0, .string ⟨#[]⟩, .int .i64 0, .int .u64 0, .int .u64 0, .int .u64 0, .int .u64 0, .int .u64 0] 30))).heap.size) (v := .slice (some ⟨w5.heap.size + 1, 0, none⟩) 0 0) (vs := Bs []) (hown := HO3.out) (hbase := hsz3) (A := A2) (c := c2) (n := b.length) (l := b) (hn := rfl) (hA := HC3.out) (hroom := hroom) (hgd := rfl) (hz := ?_) (ho := ?_) (hs := ?_) (hx := ?_) (h := ?_)); rfl; rfl; rfl; rfl; intro v4 w4 hown4 hb4; have HO4 := Go.Lib.hid hown4; have HB4 := Go.Lib.hid hb4; have HM4 := Go.Lib.hid (cells_below (HB3.out.trans hb4) HM.out); have hsz4 := (HB3.out.trans hb4).size; clear hown4 hb4)
    | (at_builtin; (with_reducible refine wpList_append_allN (s := .tmp 80) (x := .tmp 81) (t := 37) (e := 5) (z := .int .u8 0) (ht := Tryd.underlying37) (hinfo := info8) (base := ((w5.alloc (.cells #[.int .i64 0, .string ⟨#[]⟩, .int .i64 0, .int .u64 0, .int .u64 0, .int .u64 0, .int .u64 0, .int .u64 0] 30))).heap.size) (v := v4) (vs := Bs [] ++ Bs (b)) (hown := HO4.out) (hbase := hsz4) (A := M) (c := cm) (n := more.length) (l := more) (hn := rfl) (hA := HM4.out) (hroom := hroom2) (hgd := rfl) (hz := ?_) (ho := ?_) (hs := ?_) (hx := ?_) (h := ?_)); rfl; rfl; rfl; rfl; intro v6 w6 hown6 hb6; have HO6 := Go.Lib.hid hown6; have HB6 := Go.Lib.hid hb6; clear hown6 hb6))
  obtain ⟨A5, c5, hv5, _, _, hc5⟩ := own_slice HO6.out
  have hbl : (Bs ([] : List UInt8) ++ Bs (b) ++ Bs more).length = (b ++ more).length := by simp [Bs]
  have hbs : Bs ([] : List UInt8) ++ Bs (b) ++ Bs more = Bs (b ++ more) := by simp [Bs]
  rw [hbl] at hv5
  rw [hbs] at hc5
  subst hv5
  have hbc := (HB3.out.trans HB4.out).trans HB6.out
  clear e2 e3
  clear HZ hfz hlz u0 u1 u2 u3 u4 u5 u6 u7
  refine (HDECM _ A5 c5 (e4_below HE.out hbc) hc5).mono ?_
  rintro e w7 ⟨rfl, HB5⟩
  have hb5 := below_then hbc HB5.out
  have HB' := Go.Lib.hid (below_then HB.out hb5)
  have HXR' := Go.Lib.hid (below_heap hb5 HXR.out)
  have HXA' := Go.Lib.hid (below_heap hb5 HXA.out)
  have HE' := Go.Lib.hid (e4_below HE.out hb5)
  have HM' := Go.Lib.hid (cells_below hb5 HM.out)
  have HCB' := Go.Lib.hid (cells_below hb5 HCB.out)
  clear HB HXR HXA HE HM HCB
  have HB := HB'
  have HXR := HXR'
  have HXA := HXA'
  have HE := HE'
  have HM := HM'
  have HCB := HCB'
  clear HB' HXR' HXA' HE' HM' HCB'
  clear hbl hbs hbc HO3 HB3 HC3 HM3 hsz3 hroom hroom2 HO4 HB4 HM4 hsz4 hb5 HB5 hc5 HO6 HB6
  have hb6 : Below w7.heap.size w7 (w7.alloc (.cells #[.int .i64 0, .string ⟨#[]⟩, .int .i64 0, .int .u64 0, .int .u64 0, .int .u64 0, .int .u64 0, .int .u64 0] 30)) := (Below.refl _ _).alloc (Nat.le_refl _) _
  have HZ := Go.Lib.hid (heap_here w7 (.cells #[.int .i64 0, .string ⟨#[]⟩, .int .i64 0, .int .u64 0, .int .u64 0, .int .u64 0, .int .u64 0, .int .u64 0] 30) w7.heap.size rfl)
  have HB' := Go.Lib.hid (below_then HB.out hb6)
  have HXR' := Go.Lib.hid (below_heap hb6 HXR.out)
  have HXA' := Go.Lib.hid (below_heap hb6 HXA.out)
  have HE' := Go.Lib.hid (e4_below HE.out hb6)
  have HM' := Go.Lib.hid (cells_below hb6 HM.out)
  have HCB' := Go.Lib.hid (cells_below hb6 HCB.out)
  clear HB HXR HXA HE HM HCB
  have HB := HB'
  have HXR := HXR'
  have HXA := HXA'
  have HE := HE'
  have HM := HM'
  have HCB := HCB'
  clear HB' HXR' HXA' HE' HM' HCB'
  clear hb6
  obtain ⟨u0, u1, u2, u3, u4, u5, u6, u7⟩ := box8 HZ.out
  have hfz := heap_frozen HZ.out
  have hlz := heap_lt HZ.out
  have e2 := HE.out 2 (by decide) (by decide)
  have e3 := HE.out 3 (by decide) (by decide)
  simp only [errG, errv] at e2 e3
  obtain ⟨x0, x1, x2, x3, x4, x5, x6, x7⟩ := box8 HXR.out
  obtain ⟨y0, y1, y2, y3, y4, y5, y6, y7, y8, y9, y10, y11⟩ := box12 HXA.out
  have zr := heap_frozen HXR.out
  have za := heap_frozen HXA.out
  have hsr := heap_lt HXR.out
  have hsa := heap_lt HXA.out
  go_wp2_with fail
  clear x0 x1 x2 x3 x4 x5 x6 x7 y0 y1 y2 y3 y4 y5 y6 y7 y8 y9 y10 y11 zr za hsr hsa
  clear e2 e3
  clear HZ hfz hlz u0 u1 u2 u3 u4 u5 u6 u7
  refine (HENA _ HE.out).mono ?_
  rintro e w8 ⟨A8, c8, rfl, _, HB2⟩
  have hb2 := HB2.out
  have HB' := Go.Lib.hid (below_then HB.out hb2)
  have HXR' := Go.Lib.hid (below_heap hb2 HXR.out)
  have HXA' := Go.Lib.hid (below_heap hb2 HXA.out)
  have HE' := Go.Lib.hid (e4_below HE.out hb2)
  have HM' := Go.Lib.hid (cells_below hb2 HM.out)
  have HCB' := Go.Lib.hid (cells_below hb2 HCB.out)
  clear HB HXR HXA HE HM HCB
  have HB := HB'
  have HXR := HXR'
  have HXA := HXA'
  have HE := HE'
  have HM := HM'
  have HCB := HCB'
  clear HB' HXR' HXA' HE' HM' HCB'
  clear hb2 HB2
  have e2 := HE.out 2 (by decide) (by decide)
  have e3 := HE.out 3 (by decide) (by decide)
  simp only [errG, errv] at e2 e3
  go_wp2
  go_ret
  exact ⟨rfl, HB.out⟩

set_option maxRecDepth 100000 in
set_option maxHeartbeats 6400000 in
theorem cuts_cut_m_cut (op : Int) (key : List UInt8) (kind : Int) (gap slack limit span units : UInt64) (aop code : Int) (at_ retry : UInt64) (k : Int) (p1 p2 p3 p4 l1 l2 l3 : UInt64) (K : Nat) (M : Option Addr) (cm : Nat) (more : List UInt8) (p : Nat → Addr) (w : World) (hp : E4 w p) (hM : Cells w M (Bs more)) (hap : True) (ha3 : more.length ≤ 1048576) (hk : key.length ≤ 1048576) (b : List UInt8) (hb256 : b.length ≤ 256) (hs : encS ⟨op, key, ⟨kind, gap, slack, limit, span⟩, units⟩ = (b, 0)) (hKb : K < b.length) (hcut : decS (b.take K) = (reqZ, 2)) (hmore : decS (b ++ more) = (reqZ, 3)) (hm0 : 0 < more.length) (d : List UInt8) (hd256 : d.length ≤ 256) (hsa : encR ⟨aop, ⟨code, at_, retry, ⟨k, p1, p2, p3, p4⟩, ⟨l1, l2, l3⟩⟩⟩ = (d, 0)) (hKd : K < d.length) (hcuta : decR (d.take K) = (ansZ, 2)) (hmorea : decR (d ++ more) = (ansZ, 3)) :
    Calls Tryd.prog 7 #[.agg (reqA ⟨op, key, ⟨kind, gap, slack, limit, span⟩, units⟩), .agg (ansA ⟨aop, ⟨code, at_, retry, ⟨k, p1, p2, p3, p4⟩, ⟨l1, l2, l3⟩⟩⟩), .int .i64 (K : Int), .slice M more.length cm] w fun e w' => e = .returned (.bool true) ∧ Below w.heap.size w w' := by
  clear hap
  have hap : True := trivial
  have HENC := fun V hV => enc_okc ⟨op, key, ⟨kind, gap, slack, limit, span⟩, units⟩ b p V hV (by simp; omega) hs
  clear hs
  have hKl : (b.take K).length ≤ 256 := by rw [List.length_take]; omega
  have HDECK := fun V A c hV hA => dec_err (b.take K) 2 p (p 2) rfl V A c hV (by omega) hA hcut
  clear hcut
  have hKi : (K : Int) < (b.length : Int) := by omega
  have hml : (b ++ more).length ≤ 2000000 := by rw [List.length_append]; omega
  have HDECM := fun V A c hV hA => dec_err (b ++ more) 3 p (p 3) rfl V A c hV (by omega) hA hmore
  clear hmore
  have hmi : (0 : Int) < (more.length : Int) := by omega
  have hmz : ((more.length : Int) == 0) = false := by rw [beq_eq_false_iff_ne]; omega
  have HENA := fun V hV => encR_okc ⟨aop, ⟨code, at_, retry, ⟨k, p1, p2, p3, p4⟩, ⟨l1, l2, l3⟩⟩⟩ d p V hV hsa
  clear hsa
  have hKm : (d.take K).length ≤ 256 := by rw [List.length_take]; omega
  have HDEAK := fun V A c hV hA => decR_err (d.take K) 2 p (p 2) rfl V A c hV (by omega) hA hcuta
  clear hcuta
  have hKj : (K : Int) < (d.length : Int) := by omega
  have hmm : (d ++ more).length ≤ 2000000 := by rw [List.length_append]; omega
  have HDEAM := fun V A c hV hA => decR_err (d ++ more) 3 p (p 3) rfl V A c hV (by omega) hA hmorea
  clear hmorea
  have s2 := fun V : World => neq_same V (p 2)
  have s3 := fun V : World => neq_same V (p 3)
  have r3 := fun V : World => eql_same V (p 3)
  have hqr : ∀ V : World, (binOp .neq 30 (.agg #[.int .i64 0, .string ⟨#[]⟩, .int .i64 0, .int .u64 0, .int .u64 0, .int .u64 0, .int .u64 0, .int .u64 0]) (.agg #[.int .i64 0, .string ⟨#[]⟩, .int .i64 0, .int .u64 0, .int .u64 0, .int .u64 0, .int .u64 0, .int .u64 0])).run Tryd.prog V = .ok (.bool false) V := fun V => by have h := neq_req reqZ reqZ V; rwa [beq_self_eq_true, Bool.not_true] at h
  have hqa : ∀ V : World, (binOp .eql 36 (.agg #[.int .i64 0, .int .i64 0, .int .u64 0, .int .u64 0, .int .i64 0, .int .u64 0, .int .u64 0, .int .u64 0, .int .u64 0, .int .u64 0, .int .u64 0, .int .u64 0]) (.agg #[.int .i64 0, .int .i64 0, .int .u64 0, .int .u64 0, .int .i64 0, .int .u64 0, .int .u64 0, .int .u64 0, .int .u64 0, .int .u64 0, .int .u64 0, .int .u64 0])).run Tryd.prog V = .ok (.bool true) V := fun V => by have h := eql_ans ansZ ansZ V; rwa [beq_self_eq_true] at h
  have hqn : ∀ V : World, (binOp .neq 36 (.agg #[.int .i64 0, .int .i64 0, .int .u64 0, .int .u64 0, .int .i64 0, .int .u64 0, .int .u64 0, .int .u64 0, .int .u64 0, .int .u64 0, .int .u64 0, .int .u64 0]) (.agg #[.int .i64 0, .int .i64 0, .int .u64 0, .int .u64 0, .int .i64 0, .int .u64 0, .int .u64 0, .int .u64 0, .int .u64 0, .int .u64 0, .int .u64 0, .int .u64 0])).run Tryd.prog V = .ok (.bool false) V := fun V => by have h := neq_ans ansZ ansZ V; rwa [beq_self_eq_true, Bool.not_true] at h
  have n20 : ¬ ((1048576 : Int) < (more.length : Int)) := by omega
  have nk : ¬ ((1048576 : Int) < (key.length : Int)) := by omega
  have hK0 : (0 : Int) ≤ (K : Int) := Int.natCast_nonneg _
  have hbx : Below w.heap.size w ((w.alloc (.cells #[.int .i64 op, .string ⟨key.toArray⟩, .int .i64 kind, .int .u64 (n64 gap), .int .u64 (n64 slack), .int .u64 (n64 limit), .int .u64 (n64 span), .int .u64 (n64 units)] 30)).alloc (.cells #[.int .i64 aop, .int .i64 code, .int .u64 (n64 at_), .int .u64 (n64 retry), .int .i64 k, .int .u64 (n64 p1), .int .u64 (n64 p2), .int .u64 (n64 p3), .int .u64 (n64 p4), .int .u64 (n64 l1), .int .u64 (n64 l2), .int .u64 (n64 l3)] 36)) := ((Below.refl _ _).alloc (Nat.le_refl _) _).alloc (by simp) _
  have HB := Go.Lib.hid hbx
  have HXR := Go.Lib.hid (heap_before (w.alloc (.cells #[.int .i64 op, .string ⟨key.toArray⟩, .int .i64 kind, .int .u64 (n64 gap), .int .u64 (n64 slack), .int .u64 (n64 limit), .int .u64 (n64 span), .int .u64 (n64 units)] 30)) (.cells #[.int .i64 aop, .int .i64 code, .int .u64 (n64 at_), .int .u64 (n64 retry), .int .i64 k, .int .u64 (n64 p1), .int .u64 (n64 p2), .int .u64 (n64 p3), .int .u64 (n64 p4), .int .u64 (n64 l1), .int .u64 (n64 l2), .int .u64 (n64 l3)] 36) w.heap.size _ (by simp) (heap_here w (.cells #[.int .i64 op, .string ⟨key.toArray⟩, .int .i64 kind, .int .u64 (n64 gap), .int .u64 (n64 slack), .int .u64 (n64 limit), .int .u64 (n64 span), .int .u64 (n64 units)] 30) w.heap.size rfl))
  have HXA := Go.Lib.hid (heap_here (w.alloc (.cells #[.int .i64 op, .string ⟨key.toArray⟩, .int .i64 kind, .int .u64 (n64 gap), .int .u64 (n64 slack), .int .u64 (n64 limit), .int .u64 (n64 span), .int .u64 (n64 units)] 30)) (.cells #[.int .i64 aop, .int .i64 code, .int .u64 (n64 at_), .int .u64 (n64 retry), .int .i64 k, .int .u64 (n64 p1), .int .u64 (n64 p2), .int .u64 (n64 p3), .int .u64 (n64 p4), .int .u64 (n64 l1), .int .u64 (n64 l2), .int .u64 (n64 l3)] 36) (w.heap.size + 1) (by simp))
  have HE := Go.Lib.hid (e4_below hp hbx)
  have HM := Go.Lib.hid (cells_below hbx hM)
  obtain ⟨W, hW⟩ : ∃ W, W = (w.alloc (.cells #[.int .i64 op, .string ⟨key.toArray⟩, .int .i64 kind, .int .u64 (n64 gap), .int .u64 (n64 slack), .int .u64 (n64 limit), .int .u64 (n64 span), .int .u64 (n64 units)] 30)).alloc (.cells #[.int .i64 aop, .int .i64 code, .int .u64 (n64 at_), .int .u64 (n64 retry), .int .i64 k, .int .u64 (n64 p1), .int .u64 (n64 p2), .int .u64 (n64 p3), .int .u64 (n64 p4), .int .u64 (n64 l1), .int .u64 (n64 l2), .int .u64 (n64 l3)] 36) := ⟨_, rfl⟩
  simp only [reqA, ansA]
  go_enter Tryd.func7, Tryd.ntmps7
  go_wp2_with fail
  rw [← hW] at HB HXR HXA HE HM ⊢
  clear hW hbx hp hM
  refine (awake_calls p W HE.out).mono ?_
  rintro e w1 ⟨rfl, hb1⟩
  have HB' := Go.Lib.hid (below_then HB.out hb1)
  have HXR' := Go.Lib.hid (below_heap hb1 HXR.out)
  have HXA' := Go.Lib.hid (below_heap hb1 HXA.out)
  have HE' := Go.Lib.hid (e4_below HE.out hb1)
  have HM' := Go.Lib.hid (cells_below hb1 HM.out)
  clear HB HXR HXA HE HM
  have HB := HB'
  have HXR := HXR'
  have HXA := HXA'
  have HE := HE'
  have HM := HM'
  clear HB' HXR' HXA' HE' HM'
  clear hb1
  obtain ⟨x0, x1, x2, x3, x4, x5, x6, x7⟩ := box8 HXR.out
  obtain ⟨y0, y1, y2, y3, y4, y5, y6, y7, y8, y9, y10, y11⟩ := box12 HXA.out
  have zr := heap_frozen HXR.out
  have za := heap_frozen HXA.out
  have hsr := heap_lt HXR.out
  have hsa := heap_lt HXA.out
  go_wp2_with fail
  clear x0 x1 x2 x3 x4 x5 x6 x7 y0 y1 y2 y3 y4 y5 y6 y7 y8 y9 y10 y11 zr za hsr hsa
  refine (HENC _ HE.out).mono ?_
  rintro e w2 ⟨A2, c2, rfl, HCB, hc2, HB2⟩
  have hb2 := HB2.out
  have HB' := Go.Lib.hid (below_then HB.out hb2)
  have HXR' := Go.Lib.hid (below_heap hb2 HXR.out)
  have HXA' := Go.Lib.hid (below_heap hb2 HXA.out)
  have HE' := Go.Lib.hid (e4_below HE.out hb2)
  have HM' := Go.Lib.hid (cells_below hb2 HM.out)
  clear HB HXR HXA HE HM
  have HB := HB'
  have HXR := HXR'
  have HXA := HXA'
  have HE := HE'
  have HM := HM'
  clear HB' HXR' HXA' HE' HM'
  clear hb2 HB2
  have hKc : (K : Int) ≤ (c2 : Int) := by omega
  have e2 := HE.out 2 (by decide) (by decide)
  have e3 := HE.out 3 (by decide) (by decide)
  simp only [errG, errv] at e2 e3
  have hbn : Below (w2).heap.size (w2) ((w2).alloc (.cells #[] 5)) := (Below.refl _ _).alloc (Nat.le_refl _) _
  have HO3 := Go.Lib.hid (own_fresh (w := (w2).alloc (.cells #[] 5)) (b := (w2).heap.size) (g := w2.heap.size) (e := 5) (l := []) (heap_here (w2) (.cells #[] 5) (w2.heap.size) (by simp)) (by simp) 0 rfl (by decide))
  have HB3 := Go.Lib.hid hbn
  have HC3 := Go.Lib.hid (cells_below hbn (cells_takeB HCB.out K))
  have HM3 := Go.Lib.hid (cells_below hbn HM.out)
  have hsz3 : (w2).heap.size ≤ ((w2).alloc (.cells #[] 5)).heap.size := by simp
  have hroom : (Bs ([] : List UInt8)).length + (b.take K).length ≤ 140737488355328 := by simp [Bs]; omega
  have hroom2 : (Bs ([] : List UInt8) ++ Bs (b.take K)).length + more.length ≤ 140737488355328 := by simp [Bs]; omega
  clear hbn
  go_wp2_with (first
    | (at_builtin; (with_reducible refine wpList_append_allN (s := .tmp 54) (x := .tmp 57) (t := 37) (e := 5) (z := .int .u8 0) (ht := Tryd.underlying37) (hinfo := info8) (base := (w2).heap.size) (v := .slice (some ⟨w2.heap.size, 0, none⟩) 0 0) (vs := Bs []) (hown := HO3.out) (hbase := hsz3) (A := A2) (c := c2) (n := K) (l := b.take K) (hn := (by rw [List.length_take]; omega)) (hA := HC3.out) (hroom := hroom) (hgd := rfl) (hz := ?_) (ho := ?_) (hs := ?_) (hx := ?_) (h := ?_)); rfl; rfl; rfl; rfl; intro v4 w4 hown4 hb4; have HO4 := Go.Lib.hid hown4; have HB4 := Go.Lib.hid hb4; have HM4 := Go.Lib.hid (cells_below (HB3.out.trans hb4) HM.out); have hsz4 := (HB3.out.trans hb4).size; clear hown4 hb4))
  obtain ⟨A5, c5, hv5, _, _, hc5⟩ := own_slice HO4.out
  have hbl : (Bs ([] : List UInt8) ++ Bs (b.take K)).length = (b.take K).length := by simp [Bs]
  have hbs : Bs ([] : List UInt8) ++ Bs (b.take K) = Bs (b.take K) := by simp [Bs]
  rw [hbl] at hv5
  rw [hbs] at hc5
  subst hv5
  have hbc := HB3.out.trans HB4.out
  clear e2 e3
  refine (HDECK _ A5 c5 (e4_below HE.out hbc) hc5).mono ?_
  rintro e w5 ⟨rfl, HB5⟩
  have hb5 := below_then hbc HB5.out
  have HB' := Go.Lib.hid (below_then HB.out hb5)
  have HXR' := Go.Lib.hid (below_heap hb5 HXR.out)
  have HXA' := Go.Lib.hid (below_heap hb5 HXA.out)
  have HE' := Go.Lib.hid (e4_below HE.out hb5)
  have HM' := Go.Lib.hid (cells_below hb5 HM.out)
  have HCB' := Go.Lib.hid (cells_below hb5 HCB.out)
  clear HB HXR HXA HE HM HCB
  have HB := HB'
  have HXR := HXR'
  have HXA := HXA'
  have HE := HE'
  have HM := HM'
  have HCB := HCB'
  clear HB' HXR' HXA' HE' HM' HCB'
  clear hbl hbs hbc HO3 HB3 HC3 HM3 hsz3 hroom hroom2 HO4 HB4 HM4 hsz4 hb5 HB5 hc5
  have hb6 : Below w5.heap.size w5 (w5.alloc (.cells #[.int .i64 0, .string ⟨#[]⟩, .int .i64 0, .int .u64 0, .int .u64 0, .int .u64 0, .int .u64 0, .int .u64 0] 30)) := (Below.refl _ _).alloc (Nat.le_refl _) _
  have HZ := Go.Lib.hid (heap_here w5 (.cells #[.int .i64 0, .string ⟨#[]⟩, .int .i64 0, .int .u64 0, .int .u64 0, .int .u64 0, .int .u64 0, .int .u64 0] 30) w5.heap.size rfl)
  have HB' := Go.Lib.hid (below_then HB.out hb6)
  have HXR' := Go.Lib.hid (below_heap hb6 HXR.out)
  have HXA' := Go.Lib.hid (below_heap hb6 HXA.out)
  have HE' := Go.Lib.hid (e4_below HE.out hb6)
  have HM' := Go.Lib.hid (cells_below hb6 HM.out)
  have HCB' := Go.Lib.hid (cells_below hb6 HCB.out)
  clear HB HXR HXA HE HM HCB
  have HB := HB'
  have HXR := HXR'
  have HXA := HXA'
  have HE := HE'
  have HM := HM'
  have HCB := HCB'
  clear HB' HXR' HXA' HE' HM' HCB'
  clear hb6
  obtain ⟨u0, u1, u2, u3, u4, u5, u6, u7⟩ := box8 HZ.out
  have hfz := heap_frozen HZ.out
  have hlz := heap_lt HZ.out
  have e2 := HE.out 2 (by decide) (by decide)
  have e3 := HE.out 3 (by decide) (by decide)
  simp only [errG, errv] at e2 e3
  have hbn : Below ((w5.alloc (.cells #[.int .i64 0, .string ⟨#[]⟩, .int .i64 0, .int .u64 0, .int .u64 0, .int .u64 0, .int .u64 0, .int .u64 0] 30))).heap.size ((w5.alloc (.cells #[.int .i64 0, .string ⟨#[]⟩, .int .i64 0, .int .u64 0, .int .u64 0, .int .u64 0, .int .u64 0, .int .u64 0] 30))) (((w5.alloc (.cells #[.int .i64 0, .string ⟨#[]⟩, .int .i64 0, .int .u64 0, .int .u64 0, .int .u64 0, .int .u64 0, .int .u64 0] 30))).alloc (.cells #[] 5)) := (Below.refl _ _).alloc (Nat.le_refl _) _
  have HO3 := Go.Lib.hid (own_fresh (w := ((w5.alloc (.cells #[.int .i64 0, .string ⟨#[]⟩, .int .i64 0, .int .u64 0, .int .u64 0, .int .u64 0, .int .u64 0, .int .u64 0] 30))).alloc (.cells #[] 5)) (b := ((w5.alloc (.cells #[.int .i64 0, .string ⟨#[]⟩, .int .i64 0, .int .u64 0, .int .u64 0, .int .u64 0, .int .u64 0, .int .u64 0] 30))).heap.size) (g := w5.heap.size + 1) (e := 5) (l := []) (heap_here ((w5.alloc (.cells #[.int .i64 0, .string ⟨#[]⟩, .int .i64 0, .int .u64 0, .int .u64 0, .int .u64 0, .int .u64 0, .int .u64 0] 30))) (.cells #[] 5) (w5.heap.size + 1) (by simp)) (by simp) 0 rfl (by decide))
  have HB3 := Go.Lib.hid hbn
  have HC3 := Go.Lib.hid (cells_below hbn HCB.out)
  have HM3 := Go.Lib.hid (cells_below hbn HM.out)
  have hsz3 : ((w5.alloc (.cells #[.int .i64 0, .string ⟨#[]⟩, .int .i64 0, .int .u64 0, .int .u64 0, .int .u64 0, .int .u64 0, .int .u64 0] 30))).heap.size ≤ (((w5.alloc (.cells #[.int .i64 0, .string ⟨#[]⟩, .int .i64 0, .int .u64 0, .int .u64 0, .int .u64 0, .int .u64 0, .int .u64 0] 30))).alloc (.cells #[] 5)).heap.size := by simp
  have hroom : (Bs ([] : List UInt8)).length + (b).length ≤ 140737488355328 := by simp [Bs]; omega
  have hroom2 : (Bs ([] : List UInt8) ++ Bs (b)).length + more.length ≤ 140737488355328 := by simp [Bs]; omega
  clear hbn
  go_wp2_with (first
    | (at_builtin; (with_reducible refine wpList_append_allN (s := .tmp 78) (x := .tmp 79) (t := 37) (e := 5) (z := .int .u8 0) (ht := Tryd.underlying37) (hinfo := info8) (base := ((w5.alloc (.cells #[.int .i64 0, .string ⟨#[]⟩, .int .i64 0, .int .u64 0, .int .u64 0, .int .u64 0, .int .u64 0, .int .u64 0] 30))).heap.size) (v := .slice (some ⟨w5.heap.size + 1, 0, none⟩) 0 0) (vs := Bs []) (hown := HO3.out) (hbase := hsz3) (A := A2) (c := c2) (n := b.length) (l := b) (hn := rfl) (hA := HC3.out) (hroom := hroom) (hgd := rfl) (hz := ?_) (ho := ?_) (hs := ?_) (hx := ?_) (h := ?_)); rfl; rfl; rfl; rfl; intro v4 w4 hown4 hb4; have HO4 := Go.Lib.hid hown4; have HB4 := Go.Lib.hid hb4; have HM4 := Go.Lib.hid (cells_below (HB3.out.trans hb4) HM.out); have hsz4 := (HB3.out.trans hb4).size; clear hown4 hb4)
    | (at_builtin; (with_reducible refine wpList_append_allN (s := .tmp 80) (x := .tmp 81) (t := 37) (e := 5) (z := .int .u8 0) (ht := Tryd.underlying37) (hinfo := info8) (base := ((w5.alloc (.cells #[.int .i64 0, .string ⟨#[]⟩, .int .i64 0, .int .u64 0, .int .u64 0, .int .u64 0, .int .u64 0, .int .u64 0] 30))).heap.size) (v := v4) (vs := Bs [] ++ Bs (b)) (hown := HO4.out) (hbase := hsz4) (A := M) (c := cm) (n := more.length) (l := more) (hn := rfl) (hA := HM4.out) (hroom := hroom2) (hgd := rfl) (hz := ?_) (ho := ?_) (hs := ?_) (hx := ?_) (h := ?_)); rfl; rfl; rfl; rfl; intro v6 w6 hown6 hb6; have HO6 := Go.Lib.hid hown6; have HB6 := Go.Lib.hid hb6; clear hown6 hb6))
  obtain ⟨A5, c5, hv5, _, _, hc5⟩ := own_slice HO6.out
  have hbl : (Bs ([] : List UInt8) ++ Bs (b) ++ Bs more).length = (b ++ more).length := by simp [Bs]
  have hbs : Bs ([] : List UInt8) ++ Bs (b) ++ Bs more = Bs (b ++ more) := by simp [Bs]
  rw [hbl] at hv5
  rw [hbs] at hc5
  subst hv5
  have hbc := (HB3.out.trans HB4.out).trans HB6.out
  clear e2 e3
  clear HZ hfz hlz u0 u1 u2 u3 u4 u5 u6 u7
  refine (HDECM _ A5 c5 (e4_below HE.out hbc) hc5).mono ?_
  rintro e w7 ⟨rfl, HB5⟩
  have hb5 := below_then hbc HB5.out
  have HB' := Go.Lib.hid (below_then HB.out hb5)
  have HXR' := Go.Lib.hid (below_heap hb5 HXR.out)
  have HXA' := Go.Lib.hid (below_heap hb5 HXA.out)
  have HE' := Go.Lib.hid (e4_below HE.out hb5)
  have HM' := Go.Lib.hid (cells_below hb5 HM.out)
  have HCB' := Go.Lib.hid (cells_below hb5 HCB.out)
  clear HB HXR HXA HE HM HCB
  have HB := HB'
  have HXR := HXR'
  have HXA := HXA'
  have HE := HE'
  have HM := HM'
  have HCB := HCB'
  clear HB' HXR' HXA' HE' HM' HCB'
  clear hbl hbs hbc HO3 HB3 HC3 HM3 hsz3 hroom hroom2 HO4 HB4 HM4 hsz4 hb5 HB5 hc5 HO6 HB6
  have hb6 : Below w7.heap.size w7 (w7.alloc (.cells #[.int .i64 0, .string ⟨#[]⟩, .int .i64 0, .int .u64 0, .int .u64 0, .int .u64 0, .int .u64 0, .int .u64 0] 30)) := (Below.refl _ _).alloc (Nat.le_refl _) _
  have HZ := Go.Lib.hid (heap_here w7 (.cells #[.int .i64 0, .string ⟨#[]⟩, .int .i64 0, .int .u64 0, .int .u64 0, .int .u64 0, .int .u64 0, .int .u64 0] 30) w7.heap.size rfl)
  have HB' := Go.Lib.hid (below_then HB.out hb6)
  have HXR' := Go.Lib.hid (below_heap hb6 HXR.out)
  have HXA' := Go.Lib.hid (below_heap hb6 HXA.out)
  have HE' := Go.Lib.hid (e4_below HE.out hb6)
  have HM' := Go.Lib.hid (cells_below hb6 HM.out)
  have HCB' := Go.Lib.hid (cells_below hb6 HCB.out)
  clear HB HXR HXA HE HM HCB
  have HB := HB'
  have HXR := HXR'
  have HXA := HXA'
  have HE := HE'
  have HM := HM'
  have HCB := HCB'
  clear HB' HXR' HXA' HE' HM' HCB'
  clear hb6
  obtain ⟨u0, u1, u2, u3, u4, u5, u6, u7⟩ := box8 HZ.out
  have hfz := heap_frozen HZ.out
  have hlz := heap_lt HZ.out
  have e2 := HE.out 2 (by decide) (by decide)
  have e3 := HE.out 3 (by decide) (by decide)
  simp only [errG, errv] at e2 e3
  obtain ⟨x0, x1, x2, x3, x4, x5, x6, x7⟩ := box8 HXR.out
  obtain ⟨y0, y1, y2, y3, y4, y5, y6, y7, y8, y9, y10, y11⟩ := box12 HXA.out
  have zr := heap_frozen HXR.out
  have za := heap_frozen HXA.out
  have hsr := heap_lt HXR.out
  have hsa := heap_lt HXA.out
  go_wp2_with fail
  clear x0 x1 x2 x3 x4 x5 x6 x7 y0 y1 y2 y3 y4 y5 y6 y7 y8 y9 y10 y11 zr za hsr hsa
  clear e2 e3
  clear HZ hfz hlz u0 u1 u2 u3 u4 u5 u6 u7
  refine (HENA _ HE.out).mono ?_
  rintro e w8 ⟨A8, c8, rfl, HCC, hc8, HB2⟩
  have hb2 := HB2.out
  have HB' := Go.Lib.hid (below_then HB.out hb2)
  have HXR' := Go.Lib.hid (below_heap hb2 HXR.out)
  have HXA' := Go.Lib.hid (below_heap hb2 HXA.out)
  have HE' := Go.Lib.hid (e4_below HE.out hb2)
  have HM' := Go.Lib.hid (cells_below hb2 HM.out)
  have HCB' := Go.Lib.hid (cells_below hb2 HCB.out)
  clear HB HXR HXA HE HM HCB
  have HB := HB'
  have HXR := HXR'
  have HXA := HXA'
  have HE := HE'
  have HM := HM'
  have HCB := HCB'
  clear HB' HXR' HXA' HE' HM' HCB'
  clear hb2 HB2
  have hKe : (K : Int) ≤ (c8 : Int) := by omega
  have e2 := HE.out 2 (by decide) (by decide)
  have e3 := HE.out 3 (by decide) (by decide)
  simp only [errG, errv] at e2 e3
  have hbn : Below (w8).heap.size (w8) ((w8).alloc (.cells #[] 5)) := (Below.refl _ _).alloc (Nat.le_refl _) _
  have HO3 := Go.Lib.hid (own_fresh (w := (w8).alloc (.cells #[] 5)) (b := (w8).heap.size) (g := w8.heap.size) (e := 5) (l := []) (heap_here (w8) (.cells #[] 5) (w8.heap.size) (by simp)) (by simp) 0 rfl (by decide))
  have HB3 := Go.Lib.hid hbn
  have HC3 := Go.Lib.hid (cells_below hbn (cells_takeB HCC.out K))
  have HM3 := Go.Lib.hid (cells_below hbn HM.out)
  have hsz3 : (w8).heap.size ≤ ((w8).alloc (.cells #[] 5)).heap.size := by simp
  have hroom : (Bs ([] : List UInt8)).length + (d.take K).length ≤ 140737488355328 := by simp [Bs]; omega
  have hroom2 : (Bs ([] : List UInt8) ++ Bs (d.take K)).length + more.length ≤ 140737488355328 := by simp [Bs]; omega
  clear hbn
  go_wp2_with (first
    | (at_builtin; (with_reducible refine wpList_append_allN (s := .tmp 108) (x := .tmp 111) (t := 37) (e := 5) (z := .int .u8 0) (ht := Tryd.underlying37) (hinfo := info8) (base := (w8).heap.size) (v := .slice (some ⟨w8.heap.size, 0, none⟩) 0 0) (vs := Bs []) (hown := HO3.out) (hbase := hsz3) (A := A8) (c := c8) (n := K) (l := d.take K) (hn := (by rw [List.length_take]; omega)) (hA := HC3.out) (hroom := hroom) (hgd := rfl) (hz := ?_) (ho := ?_) (hs := ?_) (hx := ?_) (h := ?_)); rfl; rfl; rfl; rfl; intro v4 w4 hown4 hb4; have HO4 := Go.Lib.hid hown4; have HB4 := Go.Lib.hid hb4; have HM4 := Go.Lib.hid (cells_below (HB3.out.trans hb4) HM.out); have hsz4 := (HB3.out.trans hb4).size; clear hown4 hb4))
  obtain ⟨A5, c5, hv5, _, _, hc5⟩ := own_slice HO4.out
  have hbl : (Bs ([] : List UInt8) ++ Bs (d.take K)).length = (d.take K).length := by simp [Bs]
  have hbs : Bs ([] : List UInt8) ++ Bs (d.take K) = Bs (d.take K) := by simp [Bs]
  rw [hbl] at hv5
  rw [hbs] at hc5
  subst hv5
  have hbc := HB3.out.trans HB4.out
  clear e2 e3
  refine (HDEAK _ A5 c5 (e4_below HE.out hbc) hc5).mono ?_
  rintro e w9 ⟨rfl, HB5⟩
  have hb5 := below_then hbc HB5.out
  have HB' := Go.Lib.hid (below_then HB.out hb5)
  have HXR' := Go.Lib.hid (below_heap hb5 HXR.out)
  have HXA' := Go.Lib.hid (below_heap hb5 HXA.out)
  have HE' := Go.Lib.hid (e4_below HE.out hb5)
  have HM' := Go.Lib.hid (cells_below hb5 HM.out)
  have HCC' := Go.Lib.hid (cells_below hb5 HCC.out)
  clear HB HXR HXA HE HM HCC
  have HB := HB'
  have HXR := HXR'
  have HXA := HXA'
  have HE := HE'
  have HM := HM'
  have HCC := HCC'
  clear HB' HXR' HXA' HE' HM' HCC'
  clear hbl hbs hbc HO3 HB3 HC3 HM3 hsz3 hroom hroom2 HO4 HB4 HM4 hsz4 hb5 HB5 hc5
  have hb6 : Below w9.heap.size w9 (w9.alloc (.cells #[.int .i64 0, .int .i64 0, .int .u64 0, .int .u64 0, .int .i64 0, .int .u64 0, .int .u64 0, .int .u64 0, .int .u64 0, .int .u64 0, .int .u64 0, .int .u64 0] 36)) := (Below.refl _ _).alloc (Nat.le_refl _) _
  have HZ := Go.Lib.hid (heap_here w9 (.cells #[.int .i64 0, .int .i64 0, .int .u64 0, .int .u64 0, .int .i64 0, .int .u64 0, .int .u64 0, .int .u64 0, .int .u64 0, .int .u64 0, .int .u64 0, .int .u64 0] 36) w9.heap.size rfl)
  have HB' := Go.Lib.hid (below_then HB.out hb6)
  have HXR' := Go.Lib.hid (below_heap hb6 HXR.out)
  have HXA' := Go.Lib.hid (below_heap hb6 HXA.out)
  have HE' := Go.Lib.hid (e4_below HE.out hb6)
  have HM' := Go.Lib.hid (cells_below hb6 HM.out)
  have HCC' := Go.Lib.hid (cells_below hb6 HCC.out)
  clear HB HXR HXA HE HM HCC
  have HB := HB'
  have HXR := HXR'
  have HXA := HXA'
  have HE := HE'
  have HM := HM'
  have HCC := HCC'
  clear HB' HXR' HXA' HE' HM' HCC'
  clear hb6
  obtain ⟨u0, u1, u2, u3, u4, u5, u6, u7, u8, u9, u10, u11⟩ := box12 HZ.out
  have hfz := heap_frozen HZ.out
  have hlz := heap_lt HZ.out
  have e2 := HE.out 2 (by decide) (by decide)
  have e3 := HE.out 3 (by decide) (by decide)
  simp only [errG, errv] at e2 e3
  have hbn : Below ((w9.alloc (.cells #[.int .i64 0, .int .i64 0, .int .u64 0, .int .u64 0, .int .i64 0, .int .u64 0, .int .u64 0, .int .u64 0, .int .u64 0, .int .u64 0, .int .u64 0, .int .u64 0] 36))).heap.size ((w9.alloc (.cells #[.int .i64 0, .int .i64 0, .int .u64 0, .int .u64 0, .int .i64 0, .int .u64 0, .int .u64 0, .int .u64 0, .int .u64 0, .int .u64 0, .int .u64 0, .int .u64 0] 36))) (((w9.alloc (.cells #[.int .i64 0, .int .i64 0, .int .u64 0, .int .u64 0, .int .i64 0, .int .u64 0, .int .u64 0, .int .u64 0, .int .u64 0, .int .u64 0, .int .u64 0, .int .u64 0] 36))).alloc (.cells #[] 5)) := (Below.refl _ _).alloc (Nat.le_refl _) _
  have HO3 := Go.Lib.hid (own_fresh (w := ((w9.alloc (.cells #[.int .i64 0, .int .i64 0, .int .u64 0, .int .u64 0, .int .i64 0, .int .u64 0, .int .u64 0, .int .u64 0, .int .u64 0, .int .u64 0, .int .u64 0, .int .u64 0] 36))).alloc (.cells #[] 5)) (b := ((w9.alloc (.cells #[.int .i64 0, .int .i64 0, .int .u64 0, .int .u64 0, .int .i64 0, .int .u64 0, .int .u64 0, .int .u64 0, .int .u64 0, .int .u64 0, .int .u64 0, .int .u64 0] 36))).heap.size) (g := w9.heap.size + 1) (e := 5) (l := []) (heap_here ((w9.alloc (.cells #[.int .i64 0, .int .i64 0, .int .u64 0, .int .u64 0, .int .i64 0, .int .u64 0, .int .u64 0, .int .u64 0, .int .u64 0, .int .u64 0, .int .u64 0, .int .u64 0] 36))) (.cells #[] 5) (w9.heap.size + 1) (by simp)) (by simp) 0 rfl (by decide))
  have HB3 := Go.Lib.hid hbn
  have HC3 := Go.Lib.hid (cells_below hbn HCC.out)
  have HM3 := Go.Lib.hid (cells_below hbn HM.out)
  have hsz3 : ((w9.alloc (.cells #[.int .i64 0, .int .i64 0, .int .u64 0, .int .u64 0, .int .i64 0, .int .u64 0, .int .u64 0, .int .u64 0, .int .u64 0, .int .u64 0, .int .u64 0, .int .u64 0] 36))).heap.size ≤ (((w9.alloc (.cells #[.int .i64 0, .int .i64 0, .int .u64 0, .int .u64 0, .int .i64 0, .int .u64 0, .int .u64 0, .int .u64 0, .int .u64 0, .int .u64 0, .int .u64 0, .int .u64 0] 36))).alloc (.cells #[] 5)).heap.size := by simp
  have hroom : (Bs ([] : List UInt8)).length + (d).length ≤ 140737488355328 := by simp [Bs]; omega
  have hroom2 : (Bs ([] : List UInt8) ++ Bs (d)).length + more.length ≤ 140737488355328 := by simp [Bs]; omega
  clear hbn
  go_wp2_with (first
    | (at_builtin; (with_reducible refine wpList_append_allN (s := .tmp 132) (x := .tmp 133) (t := 37) (e := 5) (z := .int .u8 0) (ht := Tryd.underlying37) (hinfo := info8) (base := ((w9.alloc (.cells #[.int .i64 0, .int .i64 0, .int .u64 0, .int .u64 0, .int .i64 0, .int .u64 0, .int .u64 0, .int .u64 0, .int .u64 0, .int .u64 0, .int .u64 0, .int .u64 0] 36))).heap.size) (v := .slice (some ⟨w9.heap.size + 1, 0, none⟩) 0 0) (vs := Bs []) (hown := HO3.out) (hbase := hsz3) (A := A8) (c := c8) (n := d.length) (l := d) (hn := rfl) (hA := HC3.out) (hroom := hroom) (hgd := rfl) (hz := ?_) (ho := ?_) (hs := ?_) (hx := ?_) (h := ?_)); rfl; rfl; rfl; rfl; intro v4 w4 hown4 hb4; have HO4 := Go.Lib.hid hown4; have HB4 := Go.Lib.hid hb4; have HM4 := Go.Lib.hid (cells_below (HB3.out.trans hb4) HM.out); have hsz4 := (HB3.out.trans hb4).size; clear hown4 hb4)
    | (at_builtin; (with_reducible refine wpList_append_allN (s := .tmp 134) (x := .tmp 135) (t := 37) (e := 5) (z := .int .u8 0) (ht := Tryd.underlying37) (hinfo := info8) (base := ((w9.alloc (.cells #[.int .i64 0, .int .i64 0, .int .u64 0, .int .u64 0, .int .i64 0, .int .u64 0, .int .u64 0, .int .u64 0, .int .u64 0, .int .u64 0, .int .u64 0, .int .u64 0] 36))).heap.size) (v := v4) (vs := Bs [] ++ Bs (d)) (hown := HO4.out) (hbase := hsz4) (A := M) (c := cm) (n := more.length) (l := more) (hn := rfl) (hA := HM4.out) (hroom := hroom2) (hgd := rfl) (hz := ?_) (ho := ?_) (hs := ?_) (hx := ?_) (h := ?_)); rfl; rfl; rfl; rfl; intro v6 w6 hown6 hb6; have HO6 := Go.Lib.hid hown6; have HB6 := Go.Lib.hid hb6; clear hown6 hb6))
  obtain ⟨A5, c5, hv5, _, _, hc5⟩ := own_slice HO6.out
  have hbl : (Bs ([] : List UInt8) ++ Bs (d) ++ Bs more).length = (d ++ more).length := by simp [Bs]
  have hbs : Bs ([] : List UInt8) ++ Bs (d) ++ Bs more = Bs (d ++ more) := by simp [Bs]
  rw [hbl] at hv5
  rw [hbs] at hc5
  subst hv5
  have hbc := (HB3.out.trans HB4.out).trans HB6.out
  clear e2 e3
  clear HZ hfz hlz u0 u1 u2 u3 u4 u5 u6 u7 u8 u9 u10 u11
  refine (HDEAM _ A5 c5 (e4_below HE.out hbc) hc5).mono ?_
  rintro e w10 ⟨rfl, HB5⟩
  have hb5 := below_then hbc HB5.out
  have HB' := Go.Lib.hid (below_then HB.out hb5)
  have HXR' := Go.Lib.hid (below_heap hb5 HXR.out)
  have HXA' := Go.Lib.hid (below_heap hb5 HXA.out)
  have HE' := Go.Lib.hid (e4_below HE.out hb5)
  have HM' := Go.Lib.hid (cells_below hb5 HM.out)
  have HCC' := Go.Lib.hid (cells_below hb5 HCC.out)
  clear HB HXR HXA HE HM HCC
  have HB := HB'
  have HXR := HXR'
  have HXA := HXA'
  have HE := HE'
  have HM := HM'
  have HCC := HCC'
  clear HB' HXR' HXA' HE' HM' HCC'
  clear hbl hbs hbc HO3 HB3 HC3 HM3 hsz3 hroom hroom2 HO4 HB4 HM4 hsz4 hb5 HB5 hc5 HO6 HB6
  have hb6 : Below w10.heap.size w10 (w10.alloc (.cells #[.int .i64 0, .int .i64 0, .int .u64 0, .int .u64 0, .int .i64 0, .int .u64 0, .int .u64 0, .int .u64 0, .int .u64 0, .int .u64 0, .int .u64 0, .int .u64 0] 36)) := (Below.refl _ _).alloc (Nat.le_refl _) _
  have HZ := Go.Lib.hid (heap_here w10 (.cells #[.int .i64 0, .int .i64 0, .int .u64 0, .int .u64 0, .int .i64 0, .int .u64 0, .int .u64 0, .int .u64 0, .int .u64 0, .int .u64 0, .int .u64 0, .int .u64 0] 36) w10.heap.size rfl)
  have HB' := Go.Lib.hid (below_then HB.out hb6)
  have HXR' := Go.Lib.hid (below_heap hb6 HXR.out)
  have HXA' := Go.Lib.hid (below_heap hb6 HXA.out)
  have HE' := Go.Lib.hid (e4_below HE.out hb6)
  have HM' := Go.Lib.hid (cells_below hb6 HM.out)
  have HCC' := Go.Lib.hid (cells_below hb6 HCC.out)
  clear HB HXR HXA HE HM HCC
  have HB := HB'
  have HXR := HXR'
  have HXA := HXA'
  have HE := HE'
  have HM := HM'
  have HCC := HCC'
  clear HB' HXR' HXA' HE' HM' HCC'
  clear hb6
  obtain ⟨u0, u1, u2, u3, u4, u5, u6, u7, u8, u9, u10, u11⟩ := box12 HZ.out
  have hfz := heap_frozen HZ.out
  have hlz := heap_lt HZ.out
  have e2 := HE.out 2 (by decide) (by decide)
  have e3 := HE.out 3 (by decide) (by decide)
  simp only [errG, errv] at e2 e3
  go_wp2
  go_ret
  exact ⟨rfl, HB.out⟩

set_option maxRecDepth 100000 in
set_option maxHeartbeats 6400000 in
theorem cuts_cut_m_all (op : Int) (key : List UInt8) (kind : Int) (gap slack limit span units : UInt64) (aop code : Int) (at_ retry : UInt64) (k : Int) (p1 p2 p3 p4 l1 l2 l3 : UInt64) (K : Nat) (M : Option Addr) (cm : Nat) (more : List UInt8) (p : Nat → Addr) (w : World) (hp : E4 w p) (hM : Cells w M (Bs more)) (hap : True) (ha3 : more.length ≤ 1048576) (hk : key.length ≤ 1048576) (b : List UInt8) (hb256 : b.length ≤ 256) (hs : encS ⟨op, key, ⟨kind, gap, slack, limit, span⟩, units⟩ = (b, 0)) (hKb : K < b.length) (hcut : decS (b.take K) = (reqZ, 2)) (hmore : decS (b ++ more) = (reqZ, 3)) (hm0 : 0 < more.length) (d : List UInt8) (hd256 : d.length ≤ 256) (hsa : encR ⟨aop, ⟨code, at_, retry, ⟨k, p1, p2, p3, p4⟩, ⟨l1, l2, l3⟩⟩⟩ = (d, 0)) (hKd : ¬ K < d.length) (hmorea : decR (d ++ more) = (ansZ, 3)) :
    Calls Tryd.prog 7 #[.agg (reqA ⟨op, key, ⟨kind, gap, slack, limit, span⟩, units⟩), .agg (ansA ⟨aop, ⟨code, at_, retry, ⟨k, p1, p2, p3, p4⟩, ⟨l1, l2, l3⟩⟩⟩), .int .i64 (K : Int), .slice M more.length cm] w fun e w' => e = .returned (.bool true) ∧ Below w.heap.size w w' := by
  clear hap
  have hap : True := trivial
  have HENC := fun V hV => enc_okc ⟨op, key, ⟨kind, gap, slack, limit, span⟩, units⟩ b p V hV (by simp; omega) hs
  clear hs
  have hKl : (b.take K).length ≤ 256 := by rw [List.length_take]; omega
  have HDECK := fun V A c hV hA => dec_err (b.take K) 2 p (p 2) rfl V A c hV (by omega) hA hcut
  clear hcut
  have hKi : (K : Int) < (b.length : Int) := by omega
  have hml : (b ++ more).length ≤ 2000000 := by rw [List.length_append]; omega
  have HDECM := fun V A c hV hA => dec_err (b ++ more) 3 p (p 3) rfl V A c hV (by omega) hA hmore
  clear hmore
  have hmi : (0 : Int) < (more.length : Int) := by omega
  have hmz : ((more.length : Int) == 0) = false := by rw [beq_eq_false_iff_ne]; omega
  have HENA := fun V hV => encR_okc ⟨aop, ⟨code, at_, retry, ⟨k, p1, p2, p3, p4⟩, ⟨l1, l2, l3⟩⟩⟩ d p V hV hsa
  clear hsa
  have hKj : ¬ ((K : Int) < (d.length : Int)) := by omega
  have hmm : (d ++ more).length ≤ 2000000 := by rw [List.length_append]; omega
  have HDEAM := fun V A c hV hA => decR_err (d ++ more) 3 p (p 3) rfl V A c hV (by omega) hA hmorea
  clear hmorea
  have s2 := fun V : World => neq_same V (p 2)
  have s3 := fun V : World => neq_same V (p 3)
  have r3 := fun V : World => eql_same V (p 3)
  have hqr : ∀ V : World, (binOp .neq 30 (.agg #[.int .i64 0, .string ⟨#[]⟩, .int .i64 0, .int .u64 0, .int .u64 0, .int .u64 0, .int .u64 0, .int .u64 0]) (.agg #[.int .i64 0, .string ⟨#[]⟩, .int .i64 0, .int .u64 0, .int .u64 0, .int .u64 0, .int .u64 0, .int .u64 0])).run Tryd.prog V = .ok (.bool false) V := fun V => by have h := neq_req reqZ reqZ V; rwa [beq_self_eq_true, Bool.not_true] at h
  have hqa : ∀ V : World, (binOp .eql 36 (.agg #[.int .i64 0, .int .i64 0, .int .u64 0, .int .u64 0, .int .i64 0, .int .u64 0, .int .u64 0, .int .u64 0, .int .u64 0, .int .u64 0, .int .u64 0, .int .u64 0]) (.agg #[.int .i64 0, .int .i64 0, .int .u64 0, .int .u64 0, .int .i64 0, .int .u64 0, .int .u64 0, .int .u64 0, .int .u64 0, .int .u64 0, .int .u64 0, .int .u64 0])).run Tryd.prog V = .ok (.bool true) V := fun V => by have h := eql_ans ansZ ansZ V; rwa [beq_self_eq_true] at h
  have hqn : ∀ V : World, (binOp .neq 36 (.agg #[.int .i64 0, .int .i64 0, .int .u64 0, .int .u64 0, .int .i64 0, .int .u64 0, .int .u64 0, .int .u64 0, .int .u64 0, .int .u64 0, .int .u64 0, .int .u64 0]) (.agg #[.int .i64 0, .int .i64 0, .int .u64 0, .int .u64 0, .int .i64 0, .int .u64 0, .int .u64 0, .int .u64 0, .int .u64 0, .int .u64 0, .int .u64 0, .int .u64 0])).run Tryd.prog V = .ok (.bool false) V := fun V => by have h := neq_ans ansZ ansZ V; rwa [beq_self_eq_true, Bool.not_true] at h
  have n20 : ¬ ((1048576 : Int) < (more.length : Int)) := by omega
  have nk : ¬ ((1048576 : Int) < (key.length : Int)) := by omega
  have hK0 : (0 : Int) ≤ (K : Int) := Int.natCast_nonneg _
  have hbx : Below w.heap.size w ((w.alloc (.cells #[.int .i64 op, .string ⟨key.toArray⟩, .int .i64 kind, .int .u64 (n64 gap), .int .u64 (n64 slack), .int .u64 (n64 limit), .int .u64 (n64 span), .int .u64 (n64 units)] 30)).alloc (.cells #[.int .i64 aop, .int .i64 code, .int .u64 (n64 at_), .int .u64 (n64 retry), .int .i64 k, .int .u64 (n64 p1), .int .u64 (n64 p2), .int .u64 (n64 p3), .int .u64 (n64 p4), .int .u64 (n64 l1), .int .u64 (n64 l2), .int .u64 (n64 l3)] 36)) := ((Below.refl _ _).alloc (Nat.le_refl _) _).alloc (by simp) _
  have HB := Go.Lib.hid hbx
  have HXR := Go.Lib.hid (heap_before (w.alloc (.cells #[.int .i64 op, .string ⟨key.toArray⟩, .int .i64 kind, .int .u64 (n64 gap), .int .u64 (n64 slack), .int .u64 (n64 limit), .int .u64 (n64 span), .int .u64 (n64 units)] 30)) (.cells #[.int .i64 aop, .int .i64 code, .int .u64 (n64 at_), .int .u64 (n64 retry), .int .i64 k, .int .u64 (n64 p1), .int .u64 (n64 p2), .int .u64 (n64 p3), .int .u64 (n64 p4), .int .u64 (n64 l1), .int .u64 (n64 l2), .int .u64 (n64 l3)] 36) w.heap.size _ (by simp) (heap_here w (.cells #[.int .i64 op, .string ⟨key.toArray⟩, .int .i64 kind, .int .u64 (n64 gap), .int .u64 (n64 slack), .int .u64 (n64 limit), .int .u64 (n64 span), .int .u64 (n64 units)] 30) w.heap.size rfl))
  have HXA := Go.Lib.hid (heap_here (w.alloc (.cells #[.int .i64 op, .string ⟨key.toArray⟩, .int .i64 kind, .int .u64 (n64 gap), .int .u64 (n64 slack), .int .u64 (n64 limit), .int .u64 (n64 span), .int .u64 (n64 units)] 30)) (.cells #[.int .i64 aop, .int .i64 code, .int .u64 (n64 at_), .int .u64 (n64 retry), .int .i64 k, .int .u64 (n64 p1), .int .u64 (n64 p2), .int .u64 (n64 p3), .int .u64 (n64 p4), .int .u64 (n64 l1), .int .u64 (n64 l2), .int .u64 (n64 l3)] 36) (w.heap.size + 1) (by simp))
  have HE := Go.Lib.hid (e4_below hp hbx)
  have HM := Go.Lib.hid (cells_below hbx hM)
  obtain ⟨W, hW⟩ : ∃ W, W = (w.alloc (.cells #[.int .i64 op, .string ⟨key.toArray⟩, .int .i64 kind, .int .u64 (n64 gap), .int .u64 (n64 slack), .int .u64 (n64 limit), .int .u64 (n64 span), .int .u64 (n64 units)] 30)).alloc (.cells #[.int .i64 aop, .int .i64 code, .int .u64 (n64 at_), .int .u64 (n64 retry), .int .i64 k, .int .u64 (n64 p1), .int .u64 (n64 p2), .int .u64 (n64 p3), .int .u64 (n64 p4), .int .u64 (n64 l1), .int .u64 (n64 l2), .int .u64 (n64 l3)] 36) := ⟨_, rfl⟩
  simp only [reqA, ansA]
  go_enter Tryd.func7, Tryd.ntmps7
  go_wp2_with fail
  rw [← hW] at HB HXR HXA HE HM ⊢
  clear hW hbx hp hM
  refine (awake_calls p W HE.out).mono ?_
  rintro e w1 ⟨rfl, hb1⟩
  have HB' := Go.Lib.hid (below_then HB.out hb1)
  have HXR' := Go.Lib.hid (below_heap hb1 HXR.out)
  have HXA' := Go.Lib.hid (below_heap hb1 HXA.out)
  have HE' := Go.Lib.hid (e4_below HE.out hb1)
  have HM' := Go.Lib.hid (cells_below hb1 HM.out)
  clear HB HXR HXA HE HM
  have HB := HB'
  have HXR := HXR'
  have HXA := HXA'
  have HE := HE'
  have HM := HM'
  clear HB' HXR' HXA' HE' HM'
  clear hb1
  obtain ⟨x0, x1, x2, x3, x4, x5, x6, x7⟩ := box8 HXR.out
  obtain ⟨y0, y1, y2, y3, y4, y5, y6, y7, y8, y9, y10, y11⟩ := box12 HXA.out
  have zr := heap_frozen HXR.out
  have za := heap_frozen HXA.out
  have hsr := heap_lt HXR.out
  have hsa := heap_lt HXA.out
  go_wp2_with fail
  clear x0 x1 x2 x3 x4 x5 x6 x7 y0 y1 y2 y3 y4 y5 y6 y7 y8 y9 y10 y11 zr za hsr hsa
  refine (HENC _ HE.out).mono ?_
  rintro e w2 ⟨A2, c2, rfl, HCB, hc2, HB2⟩
  have hb2 := HB2.out
  have HB' := Go.Lib.hid (below_then HB.out hb2)
  have HXR' := Go.Lib.hid (below_heap hb2 HXR.out)
  have HXA' := Go.Lib.hid (below_heap hb2 HXA.out)
  have HE' := Go.Lib.hid (e4_below HE.out hb2)
  have HM' := Go.Lib.hid (cells_below hb2 HM.out)
  clear HB HXR HXA HE HM
  have HB := HB'
  have HXR := HXR'
  have HXA := HXA'
  have HE := HE'
  have HM := HM'
  clear HB' HXR' HXA' HE' HM'
  clear hb2 HB2
  have hKc : (K : Int) ≤ (c2 : Int) := by omega
  have e2 := HE.out 2 (by decide) (by decide)
  have e3 := HE.out 3 (by decide) (by decide)
  simp only [errG, errv] at e2 e3
  have hbn : Below (w2).heap.size (w2) ((w2).alloc (.cells #[] 5)) := (Below.refl _ _).alloc (Nat.le_refl _) _
  have HO3 := Go.Lib.hid (own_fresh (w := (w2).alloc (.cells #[] 5)) (b := (w2).heap.size) (g := w2.heap.size) (e := 5) (l := []) (heap_here (w2) (.cells #[] 5) (w2.heap.size) (by simp)) (by simp) 0 rfl (by decide))
  have HB3 := Go.Lib.hid hbn
  have HC3 := Go.Lib.hid (cells_below hbn (cells_takeB HCB.out K))
  have HM3 := Go.Lib.hid (cells_below hbn HM.out)
  have hsz3 : (w2).heap.size ≤ ((w2).alloc (.cells #[] 5)).heap.size := by simp
  have hroom : (Bs ([] : List UInt8)).length + (b.take K).length ≤ 140737488355328 := by simp [Bs]; omega
  have hroom2 : (Bs ([] : List UInt8) ++ Bs (b.take K)).length + more.length ≤ 140737488355328 := by simp [Bs]; omega
  clear hbn
  go_wp2_with (first
    | (at_builtin; (with_reducible refine wpList_append_allN (s := .tmp 54) (x := .tmp 57) (t := 37) (e := 5) (z := .int .u8 0) (ht := Tryd.underlying37) (hinfo := info8) (base := (w2).heap.size) (v := .slice (some ⟨w2.heap.size, 0, none⟩) 0 0) (vs := Bs []) (hown := HO3.out) (hbase := hsz3) (A := A2) (c := c2) (n := K) (l := b.take K) (hn := (by rw [List.length_take]; omega)) (hA := HC3.out) (hroom := hroom) (hgd := rfl) (hz := ?_) (ho := ?_) (hs := ?_) (hx := ?_) (h := ?_)); rfl; rfl; rfl; rfl; intro v4 w4 hown4 hb4; have HO4 := Go.Lib.hid hown4; have HB4 := Go.Lib.hid hb4; have HM4 := Go.Lib.hid (cells_below (HB3.out.trans hb4) HM.out); have hsz4 := (HB3.out.trans hb4).size; clear hown4 hb4))
  obtain ⟨A5, c5, hv5, _, _, hc5⟩ := own_slice HO4.out
  have hbl : (Bs ([] : List UInt8) ++ Bs (b.take K)).length = (b.take K).length := by simp [Bs]
  have hbs : Bs ([] : List UInt8) ++ Bs (b.take K) = Bs (b.take K) := by simp [Bs]
  rw [hbl] at hv5
  rw [hbs] at hc5
  subst hv5
  have hbc := HB3.out.trans HB4.out
  clear e2 e3
  refine (HDECK _ A5 c5 (e4_below HE.out hbc) hc5).mono ?_
  rintro e w5 ⟨rfl, HB5⟩
  have hb5 := below_then hbc HB5.out
  have HB' := Go.Lib.hid (below_then HB.out hb5)
  have HXR' := Go.Lib.hid (below_heap hb5 HXR.out)
  have HXA' := Go.Lib.hid (below_heap hb5 HXA.out)
  have HE' := Go.Lib.hid (e4_below HE.out hb5)
  have HM' := Go.Lib.hid (cells_below hb5 HM.out)
  have HCB' := Go.Lib.hid (cells_below hb5 HCB.out)
  clear HB HXR HXA HE HM HCB
  have HB := HB'
  have HXR := HXR'
  have HXA := HXA'
  have HE := HE'
  have HM := HM'
  have HCB := HCB'
  clear HB' HXR' HXA' HE' HM' HCB'
  clear hbl hbs hbc HO3 HB3 HC3 HM3 hsz3 hroom hroom2 HO4 HB4 HM4 hsz4 hb5 HB5 hc5
  have hb6 : Below w5.heap.size w5 (w5.alloc (.cells #[.int .i64 0, .string ⟨#[]⟩, .int .i64 0, .int .u64 0, .int .u64 0, .int .u64 0, .int .u64 0, .int .u64 0] 30)) := (Below.refl _ _).alloc (Nat.le_refl _) _
  have HZ := Go.Lib.hid (heap_here w5 (.cells #[.int .i64 0, .string ⟨#[]⟩, .int .i64 0, .int .u64 0, .int .u64 0, .int .u64 0, .int .u64 0, .int .u64 0] 30) w5.heap.size rfl)
  have HB' := Go.Lib.hid (below_then HB.out hb6)
  have HXR' := Go.Lib.hid (below_heap hb6 HXR.out)
  have HXA' := Go.Lib.hid (below_heap hb6 HXA.out)
  have HE' := Go.Lib.hid (e4_below HE.out hb6)
  have HM' := Go.Lib.hid (cells_below hb6 HM.out)
  have HCB' := Go.Lib.hid (cells_below hb6 HCB.out)
  clear HB HXR HXA HE HM HCB
  have HB := HB'
  have HXR := HXR'
  have HXA := HXA'
  have HE := HE'
  have HM := HM'
  have HCB := HCB'
  clear HB' HXR' HXA' HE' HM' HCB'
  clear hb6
  obtain ⟨u0, u1, u2, u3, u4, u5, u6, u7⟩ := box8 HZ.out
  have hfz := heap_frozen HZ.out
  have hlz := heap_lt HZ.out
  have e2 := HE.out 2 (by decide) (by decide)
  have e3 := HE.out 3 (by decide) (by decide)
  simp only [errG, errv] at e2 e3
  have hbn : Below ((w5.alloc (.cells #[.int .i64 0, .string ⟨#[]⟩, .int .i64 0, .int .u64 0, .int .u64 0, .int .u64 0, .int .u64 0, .int .u64 0] 30))).heap.size ((w5.alloc (.cells #[.int .i64 0, .string ⟨#[]⟩, .int .i64 0, .int .u64 0, .int .u64 0, .int .u64 0, .int .u64 0, .int .u64 0] 30))) (((w5.alloc (.cells #[.int .i64 0, .string ⟨#[]⟩, .int .i64 0, .int .u64 0, .int .u64 0, .int .u64 0, .int .u64 0, .int .u64 0] 30))).alloc (.cells #[] 5)) := (Below.refl _ _).alloc (Nat.le_refl _) _
  have HO3 := Go.Lib.hid (own_fresh (w := ((w5.alloc (.cells #[.int .i64 0, .string ⟨#[]⟩, .int .i64 0, .int .u64 0, .int .u64 0, .int .u64 0, .int .u64 0, .int .u64 0] 30))).alloc (.cells #[] 5)) (b := ((w5.alloc (.cells #[.int .i64 0, .string ⟨#[]⟩, .int .i64 0, .int .u64 0, .int .u64 0, .int .u64 0, .int .u64 0, .int .u64 0] 30))).heap.size) (g := w5.heap.size + 1) (e := 5) (l := []) (heap_here ((w5.alloc (.cells #[.int .i64 0, .string ⟨#[]⟩, .int .i64 0, .int .u64 0, .int .u64 0, .int .u64 0, .int .u64 0, .int .u64 0] 30))) (.cells #[] 5) (w5.heap.size + 1) (by simp)) (by simp) 0 rfl (by decide))
  have HB3 := Go.Lib.hid hbn
  have HC3 := Go.Lib.hid (cells_below hbn HCB.out)
  have HM3 := Go.Lib.hid (cells_below hbn HM.out)
  have hsz3 : ((w5.alloc (.cells #[.int .i64 0, .string ⟨#[]⟩, .int .i64 0, .int .u64 0, .int .u64 0, .int .u64 0, .int .u64 0, .int .u64 0] 30))).heap.size ≤ (((w5.alloc (.cells #[.int .i64 0, .string ⟨#[]⟩, .int .i64 0, .int .u64 0, .int .u64 0, .int .u64 0, .int .u64 0, .int .u64 0] 30))).alloc (.cells #[] 5)).heap.size := by simp
  have hroom : (Bs ([] : List UInt8)).length + (b).length ≤ 140737488355328 := by simp [Bs]; omega
  have hroom2 : (Bs ([] : List UInt8) ++ Bs (b)).length + more.length ≤ 140737488355328 := by simp [Bs]; omega
  clear hbn
  go_wp2_with (first
    | (at_builtin; (with_reducible refine wpList_append_allN (s := .tmp 78) (x := .tmp 79) (t := 37) (e := 5) (z := .int .u8 0) (ht := Tryd.underlying37) (hinfo := info8) (base := ((w5.alloc (.cells #[.int .i64 0, .string ⟨#[]⟩, .int .i64 0, .int .u64 0, .int .u64 0, .int .u64 0, .int .u64 0, .int .u64 0] 30))).heap.size) (v := .slice (some ⟨w5.heap.size + 1, 0, none⟩) 0 0) (vs := Bs []) (hown := HO3.out) (hbase := hsz3) (A := A2) (c := c2) (n := b.length) (l := b) (hn := rfl) (hA := HC3.out) (hroom := hroom) (hgd := rfl) (hz := ?_) (ho := ?_) (hs := ?_) (hx := ?_) (h := ?_)); rfl; rfl; rfl; rfl; intro v4 w4 hown4 hb4; have HO4 := Go.Lib.hid hown4; have HB4 := Go.Lib.hid hb4; have HM4 := Go.Lib.hid (cells_below (HB3.out.trans hb4) HM.out); have hsz4 := (HB3.out.trans hb4).size; clear hown4 hb4)
    | (at_builtin; (with_reducible refine wpList_append_allN (s := .tmp 80) (x := .tmp 81) (t := 37) (e := 5) (z := .int .u8 0) (ht := Tryd.underlying37) (hinfo := info8) (base := ((w5.alloc (.cells #[.int .i64 0, .string ⟨#[]⟩, .int .i64 0, .int .u64 0, .int .u64 0, .int .u64 0, .int .u64 0, .int .u64 0] 30))).heap.size) (v := v4) (vs := Bs [] ++ Bs (b)) (hown := HO4.out) (hbase := hsz4) (A := M) (c := cm) (n := more.length) (l := more) (hn := rfl) (hA := HM4.out) (hroom := hroom2) (hgd := rfl) (hz := ?_) (ho := ?_) (hs := ?_) (hx := ?_) (h := ?_)); rfl; rfl; rfl; rfl; intro v6 w6 hown6 hb6; have HO6 := Go.Lib.hid hown6; have HB6 := Go.Lib.hid hb6; clear hown6 hb6))
  obtain ⟨A5, c5, hv5, _, _, hc5⟩ := own_slice HO6.out
  have hbl : (Bs ([] : List UInt8) ++ Bs (b) ++ Bs more).length = (b ++ more).length := by simp [Bs]
  have hbs : Bs ([] : List UInt8) ++ Bs (b) ++ Bs more = Bs (b ++ more) := by simp [Bs]
  rw [hbl] at hv5
  rw [hbs] at hc5
  subst hv5
  have hbc := (HB3.out.trans HB4.out).trans HB6.out
  clear e2 e3
  clear HZ hfz hlz u0 u1 u2 u3 u4 u5 u6 u7
  refine (HDECM _ A5 c5 (e4_below HE.out hbc) hc5).mono ?_
  rintro e w7 ⟨rfl, HB5⟩
  have hb5 := below_then hbc HB5.out
  have HB' := Go.Lib.hid (below_then HB.out hb5)
  have HXR' := Go.Lib.hid (below_heap hb5 HXR.out)
  have HXA' := Go.Lib.hid (below_heap hb5 HXA.out)
  have HE' := Go.Lib.hid (e4_below HE.out hb5)
  have HM' := Go.Lib.hid (cells_below hb5 HM.out)
  have HCB' := Go.Lib.hid (cells_below hb5 HCB.out)
  clear HB HXR HXA HE HM HCB
  have HB := HB'
  have HXR := HXR'
  have HXA := HXA'
  have HE := HE'
  have HM := HM'
  have HCB := HCB'
  clear HB' HXR' HXA' HE' HM' HCB'
  clear hbl hbs hbc HO3 HB3 HC3 HM3 hsz3 hroom hroom2 HO4 HB4 HM4 hsz4 hb5 HB5 hc5 HO6 HB6
  have hb6 : Below w7.heap.size w7 (w7.alloc (.cells #[.int .i64 0, .string ⟨#[]⟩, .int .i64 0, .int .u64 0, .int .u64 0, .int .u64 0, .int .u64 0, .int .u64 0] 30)) := (Below.refl _ _).alloc (Nat.le_refl _) _
  have HZ := Go.Lib.hid (heap_here w7 (.cells #[.int .i64 0, .string ⟨#[]⟩, .int .i64 0, .int .u64 0, .int .u64 0, .int .u64 0, .int .u64 0, .int .u64 0] 30) w7.heap.size rfl)
  have HB' := Go.Lib.hid (below_then HB.out hb6)
  have HXR' := Go.Lib.hid (below_heap hb6 HXR.out)
  have HXA' := Go.Lib.hid (below_heap hb6 HXA.out)
  have HE' := Go.Lib.hid (e4_below HE.out hb6)
  have HM' := Go.Lib.hid (cells_below hb6 HM.out)
  have HCB' := Go.Lib.hid (cells_below hb6 HCB.out)
  clear HB HXR HXA HE HM HCB
  have HB := HB'
  have HXR := HXR'
  have HXA := HXA'
  have HE := HE'
  have HM := HM'
  have HCB := HCB'
  clear HB' HXR' HXA' HE' HM' HCB'
  clear hb6
  obtain ⟨u0, u1, u2, u3, u4, u5, u6, u7⟩ := box8 HZ.out
  have hfz := heap_frozen HZ.out
  have hlz := heap_lt HZ.out
  have e2 := HE.out 2 (by decide) (by decide)
  have e3 := HE.out 3 (by decide) (by decide)
  simp only [errG, errv] at e2 e3
  obtain ⟨x0, x1, x2, x3, x4, x5, x6, x7⟩ := box8 HXR.out
  obtain ⟨y0, y1, y2, y3, y4, y5, y6, y7, y8, y9, y10, y11⟩ := box12 HXA.out
  have zr := heap_frozen HXR.out
  have za := heap_frozen HXA.out
  have hsr := heap_lt HXR.out
  have hsa := heap_lt HXA.out
  go_wp2_with fail
  clear x0 x1 x2 x3 x4 x5 x6 x7 y0 y1 y2 y3 y4 y5 y6 y7 y8 y9 y10 y11 zr za hsr hsa
  clear e2 e3
  clear HZ hfz hlz u0 u1 u2 u3 u4 u5 u6 u7
  refine (HENA _ HE.out).mono ?_
  rintro e w8 ⟨A8, c8, rfl, HCC, hc8, HB2⟩
  have hb2 := HB2.out
  have HB' := Go.Lib.hid (below_then HB.out hb2)
  have HXR' := Go.Lib.hid (below_heap hb2 HXR.out)
  have HXA' := Go.Lib.hid (below_heap hb2 HXA.out)
  have HE' := Go.Lib.hid (e4_below HE.out hb2)
  have HM' := Go.Lib.hid (cells_below hb2 HM.out)
  have HCB' := Go.Lib.hid (cells_below hb2 HCB.out)
  clear HB HXR HXA HE HM HCB
  have HB := HB'
  have HXR := HXR'
  have HXA := HXA'
  have HE := HE'
  have HM := HM'
  have HCB := HCB'
  clear HB' HXR' HXA' HE' HM' HCB'
  clear hb2 HB2
  have e2 := HE.out 2 (by decide) (by decide)
  have e3 := HE.out 3 (by decide) (by decide)
  simp only [errG, errv] at e2 e3
  have hbn : Below (w8).heap.size (w8) ((w8).alloc (.cells #[] 5)) := (Below.refl _ _).alloc (Nat.le_refl _) _
  have HO3 := Go.Lib.hid (own_fresh (w := (w8).alloc (.cells #[] 5)) (b := (w8).heap.size) (g := w8.heap.size) (e := 5) (l := []) (heap_here (w8) (.cells #[] 5) (w8.heap.size) (by simp)) (by simp) 0 rfl (by decide))
  have HB3 := Go.Lib.hid hbn
  have HC3 := Go.Lib.hid (cells_below hbn HCC.out)
  have HM3 := Go.Lib.hid (cells_below hbn HM.out)
  have hsz3 : (w8).heap.size ≤ ((w8).alloc (.cells #[] 5)).heap.size := by simp
  have hroom : (Bs ([] : List UInt8)).length + (d).length ≤ 140737488355328 := by simp [Bs]; omega
  have hroom2 : (Bs ([] : List UInt8) ++ Bs (d)).length + more.length ≤ 140737488355328 := by simp [Bs]; omega
  clear hbn
  go_wp2_with (first
    | (at_builtin; (with_reducible refine wpList_append_allN (s := .tmp 132) (x := .tmp 133) (t := 37) (e := 5) (z := .int .u8 0) (ht := Tryd.underlying37) (hinfo := info8) (base := (w8).heap.size) (v := .slice (some ⟨w8.heap.size, 0, none⟩) 0 0) (vs := Bs []) (hown := HO3.out) (hbase := hsz3) (A := A8) (c := c8) (n := d.length) (l := d) (hn := rfl) (hA := HC3.out) (hroom := hroom) (hgd := rfl) (hz := ?_) (ho := ?_) (hs := ?_) (hx := ?_) (h := ?_)); rfl; rfl; rfl; rfl; intro v4 w4 hown4 hb4; have HO4 := Go.Lib.hid hown4; have HB4 := Go.Lib.hid hb4; have HM4 := Go.Lib.hid (cells_below (HB3.out.trans hb4) HM.out); have hsz4 := (HB3.out.trans hb4).size; clear hown4 hb4)
    | (at_builtin; (with_reducible refine wpList_append_allN (s := .tmp 134) (x := .tmp 135) (t := 37) (e := 5) (z := .int .u8 0) (ht := Tryd.underlying37) (hinfo := info8) (base := (w8).heap.size) (v := v4) (vs := Bs [] ++ Bs (d)) (hown := HO4.out) (hbase := hsz4) (A := M) (c := cm) (n := more.length) (l := more) (hn := rfl) (hA := HM4.out) (hroom := hroom2) (hgd := rfl) (hz := ?_) (ho := ?_) (hs := ?_) (hx := ?_) (h := ?_)); rfl; rfl; rfl; rfl; intro v6 w6 hown6 hb6; have HO6 := Go.Lib.hid hown6; have HB6 := Go.Lib.hid hb6; clear hown6 hb6))
  obtain ⟨A5, c5, hv5, _, _, hc5⟩ := own_slice HO6.out
  have hbl : (Bs ([] : List UInt8) ++ Bs (d) ++ Bs more).length = (d ++ more).length := by simp [Bs]
  have hbs : Bs ([] : List UInt8) ++ Bs (d) ++ Bs more = Bs (d ++ more) := by simp [Bs]
  rw [hbl] at hv5
  rw [hbs] at hc5
  subst hv5
  have hbc := (HB3.out.trans HB4.out).trans HB6.out
  clear e2 e3
  refine (HDEAM _ A5 c5 (e4_below HE.out hbc) hc5).mono ?_
  rintro e w10 ⟨rfl, HB5⟩
  have hb5 := below_then hbc HB5.out
  have HB' := Go.Lib.hid (below_then HB.out hb5)
  have HXR' := Go.Lib.hid (below_heap hb5 HXR.out)
  have HXA' := Go.Lib.hid (below_heap hb5 HXA.out)
  have HE' := Go.Lib.hid (e4_below HE.out hb5)
  have HM' := Go.Lib.hid (cells_below hb5 HM.out)
  have HCC' := Go.Lib.hid (cells_below hb5 HCC.out)
  clear HB HXR HXA HE HM HCC
  have HB := HB'
  have HXR := HXR'
  have HXA := HXA'
  have HE := HE'
  have HM := HM'
  have HCC := HCC'
  clear HB' HXR' HXA' HE' HM' HCC'
  clear hbl hbs hbc HO3 HB3 HC3 HM3 hsz3 hroom hroom2 HO4 HB4 HM4 hsz4 hb5 HB5 hc5 HO6 HB6
  have hb6 : Below w10.heap.size w10 (w10.alloc (.cells #[.int .i64 0, .int .i64 0, .int .u64 0, .int .u64 0, .int .i64 0, .int .u64 0, .int .u64 0, .int .u64 0, .int .u64 0, .int .u64 0, .int .u64 0, .int .u64 0] 36)) := (Below.refl _ _).alloc (Nat.le_refl _) _
  have HZ := Go.Lib.hid (heap_here w10 (.cells #[.int .i64 0, .int .i64 0, .int .u64 0, .int .u64 0, .int .i64 0, .int .u64 0, .int .u64 0, .int .u64 0, .int .u64 0, .int .u64 0, .int .u64 0, .int .u64 0] 36) w10.heap.size rfl)
  have HB' := Go.Lib.hid (below_then HB.out hb6)
  have HXR' := Go.Lib.hid (below_heap hb6 HXR.out)
  have HXA' := Go.Lib.hid (below_heap hb6 HXA.out)
  have HE' := Go.Lib.hid (e4_below HE.out hb6)
  have HM' := Go.Lib.hid (cells_below hb6 HM.out)
  have HCC' := Go.Lib.hid (cells_below hb6 HCC.out)
  clear HB HXR HXA HE HM HCC
  have HB := HB'
  have HXR := HXR'
  have HXA := HXA'
  have HE := HE'
  have HM := HM'
  have HCC := HCC'
  clear HB' HXR' HXA' HE' HM' HCC'
  clear hb6
  obtain ⟨u0, u1, u2, u3, u4, u5, u6, u7, u8, u9, u10, u11⟩ := box12 HZ.out
  have hfz := heap_frozen HZ.out
  have hlz := heap_lt HZ.out
  have e2 := HE.out 2 (by decide) (by decide)
  have e3 := HE.out 3 (by decide) (by decide)
  simp only [errG, errv] at e2 e3
  go_wp2
  go_ret
  exact ⟨rfl, HB.out⟩
end Go.Proofs.YtonfeppenhebjaaDoor

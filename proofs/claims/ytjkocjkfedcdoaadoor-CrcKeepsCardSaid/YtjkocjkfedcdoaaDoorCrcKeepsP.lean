/- Plain facts for the law CrcKeeps: rows of slices, each with a block of its own. -/
import Derived.Test.YtjkocjkfedcdoaaDoorCrcCutsL
namespace Go.Proofs.YtjkocjkfedcdoaaDoor
open Go Go.RowKit

def nilS : Value := .slice none 0 0
/-- a piece with eight places behind it -/
def filled (p : List UInt8) : List UInt8 := p ++ List.replicate 8 0xa7
def fullV (g : Nat) (p : List UInt8) : Value := .slice (some ⟨g, 0, none⟩) (p.length + 8) (p.length + 8)
def givenV (g : Nat) (p : List UInt8) : Value := .slice (some ⟨g, 0, none⟩) p.length (p.length + 8)
def fullVs (gs : List Nat) (ps : List (List UInt8)) : List Value := List.zipWith fullV gs ps
def givenVs (gs : List Nat) (ps : List (List UInt8)) : List Value := List.zipWith givenV gs ps

/-- the blocks gs, from B on and rising, hold the bytes cs -/
def Laid (w : World) (B : Nat) (gs : List Nat) (cs : List (List UInt8)) : Prop :=
  gs.length = cs.length ∧ gs.Pairwise (· < ·) ∧ (∀ g ∈ gs, B ≤ g ∧ g < w.heap.size) ∧ ∀ i, (h1 : i < gs.length) → (h2 : i < cs.length) → w.heap[gs[i]]? = some (.cells (Bs cs[i]).toArray 5 (0, 0))
theorem laid_nil (w : World) (B : Nat) : Laid w B [] [] := ⟨rfl, .nil, fun g h => by simp at h, fun i h => absurd h (by simp)⟩
theorem laid_snoc {w : World} {B g : Nat} {gs : List Nat} {cs : List (List UInt8)} {c : List UInt8} (h : Laid w B gs cs) (hB : B ≤ g) (hg : ∀ x ∈ gs, x < g) (hh : w.heap[g]? = some (.cells (Bs c).toArray 5 (0, 0))) : Laid w B (gs ++ [g]) (cs ++ [c]) := by
  obtain ⟨h1, h2, h3, h4⟩ := h
  refine ⟨by simp [h1], ?_, ?_, ?_⟩
  · rw [List.pairwise_append]
    exact ⟨h2, List.pairwise_singleton _ _, fun a ha b hb => by simp at hb; subst hb; exact hg a ha⟩
  · intro x hx
    rcases List.mem_append.1 hx with hx | hx
    · exact h3 x hx
    · simp at hx; subst hx; exact ⟨hB, heap_lt hh⟩
  · intro i hi hj
    by_cases hlt : i < gs.length
    · rw [List.getElem_append_left hlt, List.getElem_append_left (by omega)]
      exact h4 i hlt (by omega)
    · have : i = gs.length := by simp at hi; omega
      subst this
      have e : (cs ++ [c])[gs.length] = c := by simp [h1]
      rw [e]
      simpa using hh
theorem laid_keep {w w1 : World} {B : Nat} {gs : List Nat} {cs : List (List UInt8)} (h : Laid w B gs cs) (hsz : w.heap.size ≤ w1.heap.size) (hk : ∀ g ∈ gs, w1.heap[g]? = w.heap[g]?) : Laid w1 B gs cs := by
  obtain ⟨h1, h2, h3, h4⟩ := h
  refine ⟨h1, h2, fun g hg => ⟨(h3 g hg).1, Nat.lt_of_lt_of_le (h3 g hg).2 hsz⟩, fun i hi hj => ?_⟩
  rw [hk _ (List.getElem_mem hi), h4 i hi hj]
/-- one block of them is written anew -/
theorem laid_set {w w1 : World} {B : Nat} {gs : List Nat} {cs : List (List UInt8)} {c : List UInt8} {i : Nat} (h : Laid w B gs cs) (hi : i < gs.length) (hsz : w.heap.size ≤ w1.heap.size) (hk : ∀ g, g ≠ gs[i] → w1.heap[g]? = w.heap[g]?)
    (hh : w1.heap[gs[i]]? = some (.cells (Bs c).toArray 5 (0, 0))) : Laid w1 B gs (cs.set i c) := by
  obtain ⟨h1, h2, h3, h4⟩ := h
  refine ⟨by simp [h1], h2, fun g hg => ⟨(h3 g hg).1, Nat.lt_of_lt_of_le (h3 g hg).2 hsz⟩, fun j hj hj' => ?_⟩
  by_cases he : i = j
  · subst he
    rw [List.getElem_set_self]
    exact hh
  · rw [List.getElem_set_ne he]
    have hne : gs[j] ≠ gs[i] := by
      rcases Nat.lt_or_gt_of_ne he with hlt | hlt
      · exact Nat.ne_of_gt (List.pairwise_iff_getElem.1 h2 i j hi hj hlt)
      · exact Nat.ne_of_lt (List.pairwise_iff_getElem.1 h2 j i hj hi hlt)
    rw [hk _ hne, h4 j hj (by simpa using hj')]

theorem zip_snoc {f : Nat → List UInt8 → Value} {gs : List Nat} {ps : List (List UInt8)} (g : Nat) (h : gs.length < ps.length) :
    List.zipWith f (gs ++ [g]) ps = List.zipWith f gs ps ++ [f g ps[gs.length]] := by
  have e : ps = ps.take gs.length ++ ps.drop gs.length := (List.take_append_drop _ _).symm
  have h1 : List.zipWith f (gs ++ [g]) ps = List.zipWith f (gs ++ [g]) (ps.take gs.length ++ ps.drop gs.length) := by rw [← e]
  have h2 : List.zipWith f gs ps = List.zipWith f gs (ps.take gs.length) := by
    conv => lhs; rw [e, show gs = gs ++ [] from (List.append_nil gs).symm]
    rw [List.zipWith_append (by simp; omega)]
    simp
  rw [h1, List.zipWith_append (by simp; omega), h2, List.drop_eq_getElem_cons h]
  simp only [List.zipWith_cons_cons, List.zipWith_nil_left]
theorem row_next {f : Nat → List UInt8 → Value} {gs : List Nat} {ps : List (List UInt8)} (g : Nat) (h : gs.length < ps.length) :
    (List.zipWith f gs ps ++ List.replicate (ps.length - gs.length) nilS).toArray.setIfInBounds gs.length (f g ps[gs.length]) = (List.zipWith f (gs ++ [g]) ps ++ List.replicate (ps.length - (gs ++ [g]).length) nilS).toArray := by
  have hl : (List.zipWith f gs ps).length = gs.length := by simp; omega
  have hd : ps.length - gs.length = (ps.length - (gs ++ [g]).length) + 1 := by simp; omega
  rw [zip_snoc g h, hd, List.replicate_succ, List.setIfInBounds_toArray, List.set_append_right _ _ (by omega), hl, Nat.sub_self, List.set_cons_zero, List.append_assoc]
  rfl
theorem fill_step (p : List UInt8) (m : Nat) (hm : m < 8) : (Bs (p ++ List.replicate m 0xa7 ++ List.replicate (8 - m) 0)).toArray.setIfInBounds (p.length + m) (.int .u8 167) = (Bs (p ++ List.replicate (m + 1) 0xa7 ++ List.replicate (8 - (m + 1)) 0)).toArray := by
  have hd : 8 - m = (8 - (m + 1)) + 1 := by omega
  have e : (p ++ List.replicate m 0xa7 ++ List.replicate (8 - m) 0).set (p.length + m) (0xa7 : UInt8) = p ++ List.replicate (m + 1) 0xa7 ++ List.replicate (8 - (m + 1)) 0 := by
    rw [hd, List.replicate_succ, List.set_append_right _ _ (by simp)]
    simp [List.replicate_succ']
  rw [← e]
  unfold Bs
  rw [List.map_set]
  simp
  rfl
theorem zeros_cell (p : List UInt8) (m : Nat) (hm : m < 8) : (Bs (p ++ List.replicate m 0xa7 ++ List.replicate (8 - m) 0)).toArray[p.length + m]? = some (.int .u8 0) := by
  have hl : (p ++ List.replicate m 0xa7).length = p.length + m := by simp
  have e : (Bs (p ++ List.replicate m 0xa7 ++ List.replicate (8 - m) 0))[p.length + m]? = some (.int .u8 (n8 0)) := by
    unfold Bs
    rw [List.getElem?_map, List.getElem?_append_right (by omega), hl, Nat.sub_self, List.getElem?_replicate, if_pos (by omega)]
    rfl
  rw [List.getElem?_toArray, e]
  rfl
theorem zip_nil {f : Nat → List UInt8 → Value} {gs : List Nat} {ps : List (List UInt8)} (h : gs.length < ps.length) : (List.zipWith f gs ps ++ List.replicate (ps.length - gs.length) nilS)[gs.length]? = some nilS := by
  have e : gs.length - (List.zipWith f gs ps).length = 0 := by simp; omega
  rw [List.getElem?_append_right (by simp; omega), e, List.getElem?_replicate, if_pos (by omega)]
theorem zip_get {f : Nat → List UInt8 → Value} {gs : List Nat} {ps : List (List UInt8)} {rest : List Value} (i : Nat) (h1 : i < gs.length) (h2 : i < ps.length) : (List.zipWith f gs ps ++ rest)[i]? = some (f gs[i] ps[i]) := by
  rw [List.getElem?_append_left (by simp; omega), List.getElem?_eq_getElem (by simp; omega)]
  simp

/-- the given slices read as the pieces -/
theorem given_rows {w : World} {G t B : Nat} {gs : List Nat} {ps cs : List (List UInt8)} (hG : w.heap[G]? = some (.cells (givenVs gs ps).toArray t (0, 0))) (hL : Laid w B gs cs) (hn : gs.length = ps.length) (hs : ∀ p ∈ ps, p.length ≤ 140737488351232)
    (rs : List (List UInt8)) (hr : rs.length = ps.length) (hrs : ∀ i, (h1 : i < rs.length) → (h2 : i < ps.length) → (h3 : i < cs.length) → rs[i].length = ps[i].length ∧ ∃ tl, cs[i] = rs[i] ++ tl) : RowsB w (some ⟨G, 0, none⟩) rs := by
  obtain ⟨h1, h2, h3, h4⟩ := hL
  refine ⟨givenVs gs ps, by simp [givenVs]; omega, cells_at hG, fun i hi hj => ?_⟩
  have hig : i < gs.length := by simp [givenVs] at hi; omega
  have hip : i < ps.length := by omega
  have hic : i < cs.length := by omega
  obtain ⟨e1, tl, e2⟩ := hrs i hj hip hic
  have e : (givenVs gs ps)[i] = givenV gs[i] ps[i] := by simp [givenVs]
  rw [e]
  have hle := hs _ (List.getElem_mem hip)
  refine ⟨some ⟨gs[i], 0, none⟩, ps[i].length + 8, by rw [e1]; rfl, by omega, by omega, fun h0 => ⟨gs[i], 0, rfl, fun j hj' => ?_⟩⟩
  have hb := h4 i hig hic
  rw [Nat.zero_add, cell_of_row w _ _ _ _ _ hb]
  have : (Bs cs[i])[j]? = some (Bs rs[i])[j] := by rw [e2, Bs_append, List.getElem?_append_left hj', List.getElem?_eq_getElem hj']
  simpa using this

/-- a piece with every byte turned -/
def xs (p : List UInt8) : List UInt8 := p.map (· ^^^ 0x5c)
def mixed (p : List UInt8) : List UInt8 := xs p ++ List.replicate 8 0xa7
def mixTo (p : List UInt8) (m : Nat) : List UInt8 := xs (p.take m) ++ (p.drop m ++ List.replicate 8 0xa7)
def mixAt (ps : List (List UInt8)) (k : Nat) : List (List UInt8) := (ps.take k).map mixed ++ (ps.drop k).map filled
theorem xs_length (p : List UInt8) : (xs p).length = p.length := by simp [xs]
theorem mix_none (p : List UInt8) : mixTo p 0 = filled p := by simp [mixTo, filled, xs]
theorem mix_all (p : List UInt8) : mixTo p p.length = mixed p := by simp [mixTo, mixed]
theorem mix_get (p : List UInt8) (m : Nat) (hm : m < p.length) : (mixTo p m)[m]? = some p[m] := by
  unfold mixTo
  rw [List.getElem?_append_right (by rw [xs_length, List.length_take]; omega), xs_length, List.length_take, Nat.min_eq_left (by omega), Nat.sub_self, List.getElem?_append_left (by simp; omega), List.getElem?_drop]
  simp [hm]
theorem mix_set (p : List UInt8) (m : Nat) (hm : m < p.length) : (Bs (mixTo p m)).toArray.setIfInBounds m (.int .u8 (n8 (p[m] ^^^ 0x5c))) = (Bs (mixTo p (m + 1))).toArray := by
  have e : (mixTo p m).set m (p[m] ^^^ 0x5c) = mixTo p (m + 1) := by
    unfold mixTo
    rw [List.set_append_right _ _ (by rw [xs_length, List.length_take]; omega), xs_length, List.length_take, Nat.min_eq_left (by omega), Nat.sub_self, List.drop_eq_getElem_cons hm, List.cons_append, List.set_cons_zero,
      List.take_succ_eq_append_getElem hm]
    simp only [xs, List.map_append, List.map_cons, List.map_nil, List.append_assoc, List.cons_append, List.nil_append]
  rw [← e]
  unfold Bs
  rw [List.map_set]
  simp
theorem mix_at (p : List UInt8) (m : Nat) (hm : m < p.length) : (Bs (mixTo p m)).toArray[m]? = some (.int .u8 (n8 p[m])) := by
  rw [List.getElem?_toArray]
  unfold Bs
  rw [List.getElem?_map, mix_get p m hm]
  rfl
theorem mixAt_length (ps : List (List UInt8)) (k : Nat) : (mixAt ps k).length = ps.length := by simp [mixAt]; omega
theorem mixAt_none (ps : List (List UInt8)) : mixAt ps 0 = ps.map filled := by simp [mixAt]
theorem mixAt_all (ps : List (List UInt8)) : mixAt ps ps.length = ps.map mixed := by simp [mixAt]
theorem mixAt_get (ps : List (List UInt8)) (k : Nat) (hk : k < ps.length) (h : k < (mixAt ps k).length) : (mixAt ps k)[k] = filled ps[k] := by
  unfold mixAt at h ⊢
  rw [List.getElem_append_right (by simp; omega)]
  simp [Nat.min_eq_left (Nat.le_of_lt hk)]
theorem mixAt_set (ps : List (List UInt8)) (k : Nat) (hk : k < ps.length) : (mixAt ps k).set k (mixed ps[k]) = mixAt ps (k + 1) := by
  unfold mixAt
  have hl : ((ps.take k).map mixed).length = k := by simp; omega
  rw [List.set_append_right _ _ (by omega), hl, Nat.sub_self, List.drop_eq_getElem_cons hk, List.map_cons, List.set_cons_zero, List.take_succ_eq_append_getElem hk]
  simp only [List.map_append, List.map_cons, List.map_nil, List.append_assoc, List.cons_append, List.nil_append]
def lastR (ps : List (List UInt8)) (k : Nat) : UInt32 := sumOfR ((ps.take k).map xs)
theorem lastR_step (ps : List (List UInt8)) (k : Nat) (hk : k < ps.length) : addR (lastR ps k) (xs ps[k]) = lastR ps (k + 1) := by
  unfold lastR sumOfR
  rw [List.take_succ_eq_append_getElem hk, List.map_append, List.foldl_append]
  rfl
theorem lastR_all (ps : List (List UInt8)) : lastR ps ps.length = sumOfS (ps.map xs) := by
  rw [sumOfS_eq]
  unfold lastR
  rw [List.take_length]
end Go.Proofs.YtjkocjkfedcdoaaDoor

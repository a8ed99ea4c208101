/- Plain laws of frames: frames one behind the other, and the beginning of one more. No program here. -/
import Derived.Test.YtngmhkhncimknaaDoorStmFr
import Derived.Test.YtngmhkhncimknaaDoorStmPl
namespace Go.Proofs.YtngmhkhncimknaaDoor
open Go
set_option linter.unusedVariables false
set_option linter.unusedSimpArgs false

theorem frameB_three (p : List UInt8) (h : p.length ≤ 256) : ∃ a b, frameB p = 165 :: a :: b :: p ∧ lenN a b = p.length := by
  refine ⟨(UInt64.ofNat p.length).toUInt8, ((UInt64.ofNat p.length) >>> 8).toUInt8, ?_, ?_⟩
  · simp [frameB, leS]
  · unfold lenN
    have e : (UInt64.ofNat p.length).toNat = p.length := by rw [UInt64.toNat_ofNat', Nat.mod_eq_of_lt (by omega)]
    have e2 : ((UInt64.ofNat p.length) >>> 8).toNat = p.length / 256 := by
      rw [UInt64.toNat_shiftRight, e]
      simp [Nat.shiftRight_eq_div_pow]
    rw [UInt64.toNat_toUInt8, UInt64.toNat_toUInt8, e, e2]
    omega
theorem frameB_length (p : List UInt8) : (frameB p).length = p.length + 3 := by simp [frameB, leS_length]; omega

/-- a frame at the front comes out -/
theorem cut_frame (p m : List UInt8) (h1 : 1 ≤ p.length) (h2 : p.length ≤ 256) : cutS (frameB p ++ m) = (p :: (cutS m).1, (cutS m).2) := by
  obtain ⟨a, b, e, hl⟩ := frameB_three p h2
  have hok : frOK (frameB p ++ m) = true := by rw [e]; simp [frOK, hl, h1, h2]
  have hN : frN (frameB p ++ m) = 3 + p.length := by rw [e]; simp [frN, hl]
  have hlen := frameB_length p
  have h3 := cutS_more (l := frameB p ++ m) hok (by omega) (by rw [hN, List.length_append, hlen]; omega)
  rw [hN] at h3
  have ht : ((frameB p ++ m).take (3 + p.length)).drop 3 = p := by
    rw [List.take_append_of_le_length (by omega), List.take_of_length_le (by omega), e]
    rfl
  have hd : (frameB p ++ m).drop (3 + p.length) = m := by
    rw [List.drop_append_of_le_length (by omega), List.drop_eq_nil_of_le (by omega), List.nil_append]
  rw [ht, hd] at h3
  exact Prod.ext h3.1 h3.2

/-- frames one behind the other -/
def frames (ps : List (List UInt8)) : List UInt8 := (ps.map frameB).flatten
theorem frames_snoc (ps : List (List UInt8)) (p : List UInt8) : frames (ps ++ [p]) = frames ps ++ frameB p := by simp [frames]
theorem frames_length (ps : List (List UInt8)) : (frames ps).length = tot3 ps := by
  unfold frames tot3
  induction ps with
  | nil => rfl
  | cons p r ih => simp only [List.map_cons, List.flatten_cons, List.length_append, ih, frameB_length, List.sum_cons]
theorem cut_frames (m : List UInt8) : ∀ (ps : List (List UInt8)), (∀ p ∈ ps, 1 ≤ p.length ∧ p.length ≤ 256) → cutS (frames ps ++ m) = (ps ++ (cutS m).1, (cutS m).2)
  | [], _ => by simp [frames]
  | p :: r, h => by
    have h1 := h p List.mem_cons_self
    have e : frames (p :: r) ++ m = frameB p ++ (frames r ++ m) := by simp [frames]
    rw [e, cut_frame p _ h1.1 h1.2, cut_frames m r fun q hq => h q (List.mem_cons_of_mem _ hq)]
    rfl
/-- the beginning of a frame waits -/
theorem cut_front (p : List UInt8) (k : Nat) (h1 : 1 ≤ p.length) (h2 : p.length ≤ 256) (hk : k < p.length + 3) : cutS ((frameB p).take k) = ([], (frameB p).take k, false) := by
  obtain ⟨a, b, e, hl⟩ := frameB_three p h2
  have hlen : ((frameB p).take k).length = k := by rw [List.length_take, frameB_length]; omega
  have key : frOK ((frameB p).take k) = true ∧ (frN ((frameB p).take k) = 0 ∨ ((frameB p).take k).length < frN ((frameB p).take k)) := by
    rw [hlen]
    match k, hk with
    | 0, _ => rw [e]; exact ⟨rfl, .inl rfl⟩
    | 1, _ => rw [e]; exact ⟨rfl, .inl rfl⟩
    | 2, _ => rw [e]; exact ⟨by simp [frOK], .inl (by simp [frN])⟩
    | k + 3, hk =>
      rw [e]
      exact ⟨by simp [frOK, hl, h1, h2], .inr (by simp [frN, hl]; omega)⟩
  have h := cutS_rest key.1 key.2
  exact Prod.ext h.1 h.2
theorem tot3_le (ps : List (List UInt8)) : tot3 ps ≤ 3 * tot1 ps := by
  unfold tot3 tot1
  induction ps with
  | nil => simp
  | cons p r ih => simp only [List.map_cons, List.sum_cons]; omega
theorem len_le_tot1 (ps : List (List UInt8)) : ps.length ≤ tot1 ps := by
  unfold tot1
  induction ps with
  | nil => simp
  | cons p r ih => simp only [List.map_cons, List.sum_cons, List.length_cons]; omega
end Go.Proofs.YtngmhkhncimknaaDoor

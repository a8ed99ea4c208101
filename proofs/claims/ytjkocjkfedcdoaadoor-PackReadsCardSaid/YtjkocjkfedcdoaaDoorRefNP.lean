/- Plain link: the reference's Number and the groups of package pack. -/
import Derived.Test.YtjkocjkfedcdoaaDoorRefN
import Derived.Test.YtjkocjkfedcdoaaDoorPackNum
namespace Go.Proofs.YtjkocjkfedcdoaaDoor
open Go Go.RowKit

theorem grp_cnt_zero (l : List UInt8) : ∀ (i : Nat) (x : UInt64), i ≤ 9 → cntG i l = 0 → grp i x l = .inl (if i + l.length < 10 then 1 else 2) := by
  induction l with
  | nil => intro i x hi _; rw [grp, if_pos (by simp; omega)]
  | cons u l ih =>
    intro i x hi h
    rw [cntG, if_neg (by omega)] at h
    by_cases hu : n8 u < 128
    · rw [if_pos hu] at h; omega
    rw [if_neg hu] at h
    have hu' : ¬ u < 128 := fun h' => hu ((lt128 u).1 h')
    rw [grp]
    by_cases h9 : i = 9
    · rw [if_pos (.inl ⟨h9, by rw [gt1]; omega⟩), if_neg (by simp; omega)]
    · rw [if_neg (by rintro (⟨h, _⟩ | ⟨_, h⟩); · exact h9 h
                     · rw [eq0] at h; omega), if_neg hu', ih (i + 1) _ (by omega) h]
      congr 1
      simp only [List.length_cons]
      split <;> split <;> first | rfl | omega

/-- the number of a list of groups -/
def valG (l : List UInt8) : Nat := l.foldr (fun b a => a * 128 + b.toNat % 128) 0
theorem cntG_ge (l : List UInt8) : ∀ i, cntG i l = 0 ∨ (i < cntG i l ∧ cntG i l ≤ i + l.length ∧ cntG i l ≤ 10) := by
  induction l with
  | nil => intro i; exact .inl rfl
  | cons u l ih =>
    intro i
    rw [cntG]
    split
    · exact .inl rfl
    · split
      · right; simp; omega
      · rcases ih (i + 1) with h | h
        · exact .inl h
        · right; simp; omega
theorem grp_cnt_pos (l : List UInt8) : ∀ (i n : Nat) (x : UInt64), i ≤ 9 → x.toNat < 2 ^ (7 * i) → cntG i l = n + 1 →
    ∃ g, l[n - i]? = some g ∧ (((n = 9 ∧ 1 < g) ∨ (0 < n ∧ g = 0)) → grp i x l = .inl 2) ∧
      (¬ ((n = 9 ∧ 1 < g) ∨ (0 < n ∧ g = 0)) → ∃ y : UInt64, grp i x l = .inr (y, l.drop (n + 1 - i)) ∧ y.toNat = x.toNat + valG (l.take (n + 1 - i)) * 2 ^ (7 * i)) := by
  induction l with
  | nil => intro i n x _ _ h; cases h
  | cons u l ih =>
    intro i n x hi hx h
    have h' := h
    rw [cntG, if_neg (by omega)] at h
    by_cases hu : n8 u < 128
    · rw [if_pos hu] at h
      have hin : n = i := by omega
      subst hin
      refine ⟨u, by simp, fun hb => ?_, fun hb => ?_⟩
      · rw [grp, if_pos hb]
      · have h9 : n = 9 → u.toNat ≤ 1 := by
          intro h9
          have : ¬ 1 < u := fun h => hb (.inl ⟨h9, h⟩)
          rw [UInt8.lt_iff_toNat_lt, show (1 : UInt8).toNat = 1 by decide] at this
          omega
        refine ⟨x ||| shl (u.toUInt64 &&& 127) (7 * n), ?_, ?_⟩
        · rw [grp, if_neg hb, if_pos ((lt128 u).2 hu), show n + 1 - n = 1 by omega]
          rfl
        · rw [grp_add n x u hi hx h9, show n + 1 - n = 1 by omega]
          simp [valG]
    · rw [if_neg hu] at h
      have hge := cntG_ge l (i + 1)
      rw [h] at hge
      have hin : i + 1 ≤ n ∧ n ≤ 9 := by omega
      have hi8 : i ≤ 8 := by omega
      have hadd := grp_add i x u hi hx (fun h => by omega)
      obtain ⟨g, hg, hbad, hok⟩ := ih (i + 1) n (x ||| shl (u.toUInt64 &&& 127) (7 * i)) (by omega) (by rw [hadd]; exact grp_lt i _ _ hx (Nat.mod_lt _ (by decide))) h
      have hstep : grp i x (u :: l) = grp (i + 1) (x ||| shl (u.toUInt64 &&& 127) (7 * i)) l := by
        rw [grp, if_neg (by rintro (⟨h, _⟩ | ⟨_, h⟩); · omega
                            · rw [eq0] at h; omega), if_neg (fun h' => hu ((lt128 u).1 h'))]
      refine ⟨g, ?_, fun hb => by rw [hstep]; exact hbad hb, fun hb => ?_⟩
      · rw [show n - i = (n - (i + 1)) + 1 by omega]; exact hg
      · obtain ⟨y, hy, hyn⟩ := hok hb
        refine ⟨y, by rw [hstep, hy, show n + 1 - i = (n + 1 - (i + 1)) + 1 by omega]; rfl, ?_⟩
        have hp : 2 ^ (7 * (i + 1)) = 128 * 2 ^ (7 * i) := by rw [show 7 * (i + 1) = 7 + 7 * i by omega, Nat.pow_add]
        rw [hyn, hadd, show n + 1 - i = (n + 1 - (i + 1)) + 1 by omega, List.take_succ_cons]
        show _ = x.toNat + (valG (l.take (n + 1 - (i + 1))) * 128 + u.toNat % 128) * 2 ^ (7 * i)
        rw [hp, Nat.add_mul, Nat.mul_assoc, Nat.add_assoc]
        congr 1
        exact Nat.add_comm _ _
end Go.Proofs.YtjkocjkfedcdoaaDoor

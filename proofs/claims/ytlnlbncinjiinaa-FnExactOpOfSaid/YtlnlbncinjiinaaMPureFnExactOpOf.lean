/- Proved: the pure statement of the law FnExactOpOf (over numbers and lists); no condition beside those of the statement. -/
import Derived.Test.YtlnlbncinjiinaaGvOpOf
import Derived.Test.YtlnlbncinjiinaaM1
namespace Go.Proofs.Ytlnlbncinjiinaa.Pure
open Go.RowKit Go.Proofs.Ytlnlbncinjiinaa.M Go.Proofs.YtlnlbncinjiinaaW.PrintWords Go.Proofs.YtlnlbncinjiinaaW.PrintLast
-- BODY
set_option linter.unusedVariables false
set_option linter.unusedSimpArgs false
theorem opName_inj : ∀ i, i < 30 → ∀ j, j < 30 → opName i = opName j → i = j := by
  have h : ∀ i, i < 30 → ∀ j, j < 30 → (opName i).data = (opName j).data → i = j := by unfold opName; decide +kernel
  intro i hi j hj e
  exact h i hi j hj (by rw [e])
theorem opIdx_hit (s : ByteArray) (j : Nat) (hj : j < 30) (e : opName j = s) : ∀ n, j < n → n ≤ 30 → opIdx s n = (j : Int) + 1
  | 0, h, _ => absurd h (by omega)
  | n + 1, h, hn => by
    unfold opIdx
    by_cases hh : opName n = s
    · rw [if_pos hh]
      have := opName_inj n (by omega) j hj (by rw [hh, e])
      omega
    · rw [if_neg hh]
      have : j ≠ n := by rintro rfl; exact hh e
      exact opIdx_hit s j hj e n (by omega) (by omega)
theorem opIdx_miss (s : ByteArray) : ∀ n, (∀ j, j < n → opName j ≠ s) → opIdx s n = 0
  | 0, _ => rfl
  | n + 1, h => by
    unfold opIdx
    rw [if_neg (h n (by omega))]
    exact opIdx_miss s n (fun j hj => h j (by omega))
theorem bytes_toList {x y : ByteArray} : x.toList = y.toList ↔ x = y := by
  rw [ByteArray.toList_eq, ByteArray.toList_eq]
  exact ⟨fun h => ByteArray.ext (Array.toList_inj.mp h), fun h => by rw [h]⟩
theorem rows_name (rows : List S25) (hr : spec_l2Infos.f = some rows) : rows.length = 30 ∧ ∀ i : Nat, i < 30 → (rd_T25 rows (i : Int)).f0 = opName i := by
  unfold spec_l2Infos.f at hr
  obtain rfl := Option.some.inj hr
  refine ⟨rfl, ?_⟩
  intro i hi
  match i, hi with
  | 0, _ | 1, _ | 2, _ | 3, _ | 4, _ | 5, _ | 6, _ | 7, _ | 8, _ | 9, _ | 10, _ | 11, _ | 12, _ | 13, _ | 14, _ | 15, _ | 16, _ | 17, _ | 18, _ | 19, _ | 20, _ | 21, _ | 22, _ | 23, _ | 24, _ | 25, _ | 26, _ | 27, _ | 28, _ | 29, _ => rfl
  | i + 30, h => omega
theorem opof_l0 (s : ByteArray) (rows : List S25) (hl : rows.length = 30) (hn : ∀ i : Nat, i < 30 → (rd_T25 rows (i : Int)).f0 = opName i) (d : Nat) : ∀ (k i : Nat), i + d = 30 → d < k → (∀ j, j < i → opName j ≠ s) →
    spec_OpOf.l0 k s rows (i : Int) = some (opIdx s 30 - 1) := by
  induction d with
  | zero =>
    intro k i hi hk hm
    obtain ⟨k, rfl⟩ : ∃ m, k = m + 1 := ⟨k - 1, by omega⟩
    simp only [spec_OpOf.l0]; rw [if_neg (by omega), opIdx_miss s 30 (fun j hj => hm j (by omega))]; rfl
  | succ d ih =>
    intro k i hi hk hm
    obtain ⟨k, rfl⟩ : ∃ m, k = m + 1 := ⟨k - 1, by omega⟩
    simp only [spec_OpOf.l0]; rw [if_pos (by omega), if_pos (by omega), hn i (by omega)]
    by_cases h : opName i = s
    · rw [if_pos (bytes_toList.2 h), opIdx_hit s i (by omega) h 30 (by omega) (by omega)]
      congr 1
      omega
    · rw [if_neg (fun e => h (bytes_toList.1 e))]
      have : wrap64 ((i : Int) + 1) = ((i + 1 : Nat) : Int) := by unfold wrap64; omega
      rw [this]
      exact ih k (i + 1) (by omega) (by omega) (fun j hj => by
        rcases Nat.lt_or_ge j i with h1 | h1
        · exact hm j h1
        · obtain rfl : j = i := by omega
          exact h)
theorem spec_opof (s : ByteArray) : spec_OpOf.f 31 s = some (opIdx s 30 - 1) := by
  unfold spec_OpOf.f
  obtain ⟨rows, hr⟩ : ∃ rows, spec_l2Infos.f = some rows := ⟨_, rfl⟩
  obtain ⟨hl, hn⟩ := rows_name rows hr
  rw [hr]
  exact opof_l0 s rows hl hn 30 31 0 (by omega) (by omega) (fun j hj => absurd hj (by omega))
theorem FnExactOpOf : laws_FnExactOpOf.Pure := by
  intro a0 hs
  refine ⟨31, ?_⟩
  unfold laws_FnExactOpOf.f
  split
  · rfl
  · rw [spec_opof]
    simp [impl_OpOf.f, show a0.size ≤ 9223372036854775807 by omega]

end Go.Proofs.Ytlnlbncinjiinaa.Pure

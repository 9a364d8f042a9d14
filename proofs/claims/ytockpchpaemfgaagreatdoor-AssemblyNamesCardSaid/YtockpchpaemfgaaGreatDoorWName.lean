/- IsName and the verifier's isName, walked: both answer whether a string is a name. -/
import Derived.Test.YtockpchpaemfgaaGreatDoorChecked
import Derived.WalkKit
import Derived.WalkSpells
import Derived.WalkLawsBesides
import Derived.BigGuardPart
set_option linter.all false
namespace Go.Proofs.YtockpchpaemfgaaGreatDoor
open Go.RowKit

/-- A byte of a name at place i. -/
def okByte (i : Nat) (c : Int) : Bool := (decide (97 ≤ c) && decide (c ≤ 122)) || (!(i == 0) && ((decide (48 ≤ c) && decide (c ≤ 57)) || c == 45 || c == 95))
def okAt (s : ByteArray) (i : Nat) : Bool := okByte i ((s.data.toList.getD i 0).toNat : Int)
def isNm (s : ByteArray) : Bool := (List.range s.size).all (okAt s) && (decide (0 < s.size) && decide (s.size ≤ 40))

theorem isNm_bad {s : ByteArray} {k : Nat} (hk : k < s.size) (h : okAt s k = false) : isNm s = false := by
  unfold isNm
  have : (List.range s.size).all (okAt s) = false := by
    rw [List.all_eq_false]; exact ⟨k, List.mem_range.2 hk, by simp [h]⟩
  rw [this]; rfl
theorem isNm_good {s : ByteArray} (h : ∀ j, j < s.size → okAt s j = true) : isNm s = (decide (0 < s.size) && decide (s.size ≤ 40)) := by
  unfold isNm
  have : (List.range s.size).all (okAt s) = true := by
    rw [List.all_eq_true]; exact fun j hj => h j (List.mem_range.1 hj)
  rw [this]; rfl


theorem byteCases (k : Nat) (c : Int) : (97 ≤ c ∧ c ≤ 122) ∨ (k = 0 ∧ c < 97) ∨ (k = 0 ∧ 122 < c) ∨ (k ≠ 0 ∧ 48 ≤ c ∧ c ≤ 57) ∨ (k ≠ 0 ∧ c = 45) ∨ (k ≠ 0 ∧ c = 95) ∨ (k ≠ 0 ∧ c < 45) ∨ (k ≠ 0 ∧ 45 < c ∧ c < 48) ∨ (k ≠ 0 ∧ 57 < c ∧ c < 95) ∨ (k ≠ 0 ∧ c = 96) ∨ (k ≠ 0 ∧ 122 < c) := by omega
theorem okAt_eq {s : ByteArray} {k : Nat} (h : k < s.size) : okAt s k = okByte k ((s[k]'h).toNat : Int) := by
  unfold okAt
  congr 2
  have h' : k < s.data.toList.length := by simpa using h
  rw [List.getD_eq_getElem?_getD, List.getElem?_eq_getElem h']
  rfl
theorem okByte_yes {k : Nat} {c : Int} (h : (97 ≤ c ∧ c ≤ 122) ∨ (k ≠ 0 ∧ 48 ≤ c ∧ c ≤ 57) ∨ (k ≠ 0 ∧ c = 45) ∨ (k ≠ 0 ∧ c = 95)) : okByte k c = true := by
  unfold okByte
  simp only [Bool.or_eq_true, Bool.and_eq_true, decide_eq_true_eq, Bool.not_eq_true', beq_eq_false_iff_ne, beq_iff_eq]
  omega
theorem okByte_no {k : Nat} {c : Int} (h : ¬ (97 ≤ c ∧ c ≤ 122)) (h' : k = 0 ∨ (¬ (48 ≤ c ∧ c ≤ 57) ∧ c ≠ 45 ∧ c ≠ 95)) : okByte k c = false := by
  rw [Bool.eq_false_iff]
  unfold okByte
  simp only [ne_eq, Bool.or_eq_true, Bool.and_eq_true, decide_eq_true_eq, Bool.not_eq_true', beq_eq_false_iff_ne, beq_iff_eq]
  omega
theorem step_ok {s : ByteArray} {k : Nat} (HS : Hid (∀ j, j < k → okAt s j = true)) (h : okAt s k = true) : Hid (∀ j, j < k + 1 → okAt s j = true) := by
  intro j hj
  by_cases hjk : j = k
  · subst hjk; exact h
  · exact HS j (by omega)


set_option maxRecDepth 100000 in
set_option maxHeartbeats 4000000 in
theorem isName5 (s : ByteArray) (w : World) (hs : s.size ≤ 9223372036854775807) : Calls Tryz.prog 5 #[.string s] w fun e w' => e = .returned (.bool (isNm s)) ∧ w' = w := by
  go_enter Tryz.func5, Tryz.ntmps5
  go_wp2
  go_loop [8] (fun i => ∃ k : Nat, k ≤ s.size ∧ i = .int .i64 k ∧ Hid (∀ j, j < k → okAt s j = true)) (fun i => s.size - (intOf i).toNat)
  case atStart => exact ⟨0, Nat.zero_le _, rfl, fun j hj => absurd hj (Nat.not_lt_zero _)⟩
  case round =>
    obtain ⟨k, hk, rfl, HS⟩ := hrel
    by_cases hlt : k < s.size
    · have hok := okAt_eq hlt
      rcases byteCases k ((s[k]'hlt).toNat : Int) with ⟨h1, h2⟩ | ⟨rfl, h2⟩ | ⟨rfl, h2⟩ | ⟨h1, h2, h3⟩ | ⟨h1, h2⟩ | ⟨h1, h2⟩ | ⟨h1, h2⟩ | ⟨h1, h2, h3⟩ | ⟨h1, h2, h3⟩ | ⟨h1, h2⟩ | ⟨h1, h2⟩
      case inl =>
        have hy : Hid (okAt s k = true) := hok.trans (okByte_yes (by omega))
        clear hok
        go_wp2
        all_goals try (exfalso; simp_all; done)
        all_goals try (exfalso; simp_all; omega)
        go_round
        case rel => exact ⟨k + 1, by omega, by go_num, step_ok HS hy.out⟩
        case measure => simp [intOf]; omega
      case inr.inl =>
        have hy : Hid (isNm s = false) := isNm_bad hlt (hok.trans (okByte_no (by omega) (by omega)))
        clear hok
        go_wp2
        all_goals try (exfalso; simp_all; done)
        all_goals try (exfalso; simp_all; omega)
        go_ret
        exact ⟨by rw [hy.out]; rfl, rfl⟩
      case inr.inr.inl =>
        have hy : Hid (isNm s = false) := isNm_bad hlt (hok.trans (okByte_no (by omega) (by omega)))
        clear hok
        go_wp2
        all_goals try (exfalso; simp_all; done)
        all_goals try (exfalso; simp_all; omega)
        go_ret
        exact ⟨by rw [hy.out]; rfl, rfl⟩
      case inr.inr.inr.inl =>
        have hy : Hid (okAt s k = true) := hok.trans (okByte_yes (by omega))
        clear hok
        go_wp2
        all_goals try (exfalso; simp_all; done)
        all_goals try (exfalso; simp_all; omega)
        go_round
        case rel => exact ⟨k + 1, by omega, by go_num, step_ok HS hy.out⟩
        case measure => simp [intOf]; omega
      case inr.inr.inr.inr.inl =>
        have hy : Hid (okAt s k = true) := hok.trans (okByte_yes (by omega))
        clear hok
        go_wp2
        all_goals try (exfalso; simp_all; done)
        all_goals try (exfalso; simp_all; omega)
        go_round
        case rel => exact ⟨k + 1, by omega, by go_num, step_ok HS hy.out⟩
        case measure => simp [intOf]; omega
      case inr.inr.inr.inr.inr.inl =>
        have hy : Hid (okAt s k = true) := hok.trans (okByte_yes (by omega))
        clear hok
        go_wp2
        all_goals try (exfalso; simp_all; done)
        all_goals try (exfalso; simp_all; omega)
        go_round
        case rel => exact ⟨k + 1, by omega, by go_num, step_ok HS hy.out⟩
        case measure => simp [intOf]; omega
      case inr.inr.inr.inr.inr.inr.inl =>
        have hy : Hid (isNm s = false) := isNm_bad hlt (hok.trans (okByte_no (by omega) (by omega)))
        clear hok
        go_wp2
        all_goals try (exfalso; simp_all; done)
        all_goals try (exfalso; simp_all; omega)
        go_ret
        exact ⟨by rw [hy.out]; rfl, rfl⟩
      case inr.inr.inr.inr.inr.inr.inr.inl =>
        have hy : Hid (isNm s = false) := isNm_bad hlt (hok.trans (okByte_no (by omega) (by omega)))
        clear hok
        go_wp2
        all_goals try (exfalso; simp_all; done)
        all_goals try (exfalso; simp_all; omega)
        go_ret
        exact ⟨by rw [hy.out]; rfl, rfl⟩
      case inr.inr.inr.inr.inr.inr.inr.inr.inl =>
        have hy : Hid (isNm s = false) := isNm_bad hlt (hok.trans (okByte_no (by omega) (by omega)))
        clear hok
        go_wp2
        all_goals try (exfalso; simp_all; done)
        all_goals try (exfalso; simp_all; omega)
        go_ret
        exact ⟨by rw [hy.out]; rfl, rfl⟩
      case inr.inr.inr.inr.inr.inr.inr.inr.inr.inl =>
        have hy : Hid (isNm s = false) := isNm_bad hlt (hok.trans (okByte_no (by omega) (by omega)))
        clear hok
        go_wp2
        all_goals try (exfalso; simp_all; done)
        all_goals try (exfalso; simp_all; omega)
        go_ret
        exact ⟨by rw [hy.out]; rfl, rfl⟩
      case inr.inr.inr.inr.inr.inr.inr.inr.inr.inr =>
        have hy : Hid (isNm s = false) := isNm_bad hlt (hok.trans (okByte_no (by omega) (by omega)))
        clear hok
        go_wp2
        all_goals try (exfalso; simp_all; done)
        all_goals try (exfalso; simp_all; omega)
        go_ret
        exact ⟨by rw [hy.out]; rfl, rfl⟩
    · obtain rfl : k = s.size := by omega
      have hg : isNm s = (decide (0 < s.size) && decide (s.size ≤ 40)) := isNm_good HS.out
      rcases (by omega : s.size = 0 ∨ (0 < s.size ∧ s.size ≤ 40) ∨ 40 < s.size) with h0 | ⟨h0, h1⟩ | h0
      · have hv : Hid (isNm s = false) := hg.trans (by rw [h0]; rfl)
        clear hg
        go_wp2
        all_goals try (exfalso; simp_all; done)
        all_goals try (exfalso; simp_all; omega)
        all_goals
          go_ret
          refine ⟨?_, rfl⟩
          rw [hv.out]
          first | rfl | (congr 2; simp; omega)
      · have hv : Hid (isNm s = true) := hg.trans (by simp [h0, h1])
        clear hg
        go_wp2
        all_goals try (exfalso; simp_all; done)
        all_goals try (exfalso; simp_all; omega)
        all_goals
          go_ret
          refine ⟨?_, rfl⟩
          rw [hv.out]
          first | rfl | (congr 2; simp; omega)
      · have hv : Hid (isNm s = false) := hg.trans (by rw [decide_eq_false (show ¬ s.size ≤ 40 by omega), Bool.and_false])
        clear hg
        go_wp2
        all_goals try (exfalso; simp_all; done)
        all_goals try (exfalso; simp_all; omega)
        all_goals
          go_ret
          refine ⟨?_, rfl⟩
          rw [hv.out]
          first | rfl | (congr 2; simp; omega)

set_option maxRecDepth 100000 in
set_option maxHeartbeats 4000000 in
theorem isName6 (s : ByteArray) (w : World) (hs : s.size ≤ 9223372036854775807) : Calls Tryz.prog 6 #[.string s] w fun e w' => e = .returned (.bool (isNm s)) ∧ w' = w := by
  go_enter Tryz.func6, Tryz.ntmps6
  go_wp2
  go_loop [3] (fun i => ∃ k : Nat, k ≤ s.size ∧ i = .int .i64 k ∧ Hid (∀ j, j < k → okAt s j = true)) (fun i => s.size - (intOf i).toNat)
  case atStart => exact ⟨0, Nat.zero_le _, rfl, fun j hj => absurd hj (Nat.not_lt_zero _)⟩
  case round =>
    obtain ⟨k, hk, rfl, HS⟩ := hrel
    by_cases hlt : k < s.size
    · have hok := okAt_eq hlt
      rcases byteCases k ((s[k]'hlt).toNat : Int) with ⟨h1, h2⟩ | ⟨rfl, h2⟩ | ⟨rfl, h2⟩ | ⟨h1, h2, h3⟩ | ⟨h1, h2⟩ | ⟨h1, h2⟩ | ⟨h1, h2⟩ | ⟨h1, h2, h3⟩ | ⟨h1, h2, h3⟩ | ⟨h1, h2⟩ | ⟨h1, h2⟩
      case inl =>
        have hy : Hid (okAt s k = true) := hok.trans (okByte_yes (by omega))
        clear hok
        go_wp2
        all_goals try (exfalso; simp_all; done)
        all_goals try (exfalso; simp_all; omega)
        go_round
        case rel => exact ⟨k + 1, by omega, by go_num, step_ok HS hy.out⟩
        case measure => simp [intOf]; omega
      case inr.inl =>
        have hy : Hid (isNm s = false) := isNm_bad hlt (hok.trans (okByte_no (by omega) (by omega)))
        clear hok
        go_wp2
        all_goals try (exfalso; simp_all; done)
        all_goals try (exfalso; simp_all; omega)
        go_ret
        exact ⟨by rw [hy.out]; rfl, rfl⟩
      case inr.inr.inl =>
        have hy : Hid (isNm s = false) := isNm_bad hlt (hok.trans (okByte_no (by omega) (by omega)))
        clear hok
        go_wp2
        all_goals try (exfalso; simp_all; done)
        all_goals try (exfalso; simp_all; omega)
        go_ret
        exact ⟨by rw [hy.out]; rfl, rfl⟩
      case inr.inr.inr.inl =>
        have hy : Hid (okAt s k = true) := hok.trans (okByte_yes (by omega))
        clear hok
        go_wp2
        all_goals try (exfalso; simp_all; done)
        all_goals try (exfalso; simp_all; omega)
        go_round
        case rel => exact ⟨k + 1, by omega, by go_num, step_ok HS hy.out⟩
        case measure => simp [intOf]; omega
      case inr.inr.inr.inr.inl =>
        have hy : Hid (okAt s k = true) := hok.trans (okByte_yes (by omega))
        clear hok
        go_wp2
        all_goals try (exfalso; simp_all; done)
        all_goals try (exfalso; simp_all; omega)
        go_round
        case rel => exact ⟨k + 1, by omega, by go_num, step_ok HS hy.out⟩
        case measure => simp [intOf]; omega
      case inr.inr.inr.inr.inr.inl =>
        have hy : Hid (okAt s k = true) := hok.trans (okByte_yes (by omega))
        clear hok
        go_wp2
        all_goals try (exfalso; simp_all; done)
        all_goals try (exfalso; simp_all; omega)
        go_round
        case rel => exact ⟨k + 1, by omega, by go_num, step_ok HS hy.out⟩
        case measure => simp [intOf]; omega
      case inr.inr.inr.inr.inr.inr.inl =>
        have hy : Hid (isNm s = false) := isNm_bad hlt (hok.trans (okByte_no (by omega) (by omega)))
        clear hok
        go_wp2
        all_goals try (exfalso; simp_all; done)
        all_goals try (exfalso; simp_all; omega)
        go_ret
        exact ⟨by rw [hy.out]; rfl, rfl⟩
      case inr.inr.inr.inr.inr.inr.inr.inl =>
        have hy : Hid (isNm s = false) := isNm_bad hlt (hok.trans (okByte_no (by omega) (by omega)))
        clear hok
        go_wp2
        all_goals try (exfalso; simp_all; done)
        all_goals try (exfalso; simp_all; omega)
        go_ret
        exact ⟨by rw [hy.out]; rfl, rfl⟩
      case inr.inr.inr.inr.inr.inr.inr.inr.inl =>
        have hy : Hid (isNm s = false) := isNm_bad hlt (hok.trans (okByte_no (by omega) (by omega)))
        clear hok
        go_wp2
        all_goals try (exfalso; simp_all; done)
        all_goals try (exfalso; simp_all; omega)
        go_ret
        exact ⟨by rw [hy.out]; rfl, rfl⟩
      case inr.inr.inr.inr.inr.inr.inr.inr.inr.inl =>
        have hy : Hid (isNm s = false) := isNm_bad hlt (hok.trans (okByte_no (by omega) (by omega)))
        clear hok
        go_wp2
        all_goals try (exfalso; simp_all; done)
        all_goals try (exfalso; simp_all; omega)
        go_ret
        exact ⟨by rw [hy.out]; rfl, rfl⟩
      case inr.inr.inr.inr.inr.inr.inr.inr.inr.inr =>
        have hy : Hid (isNm s = false) := isNm_bad hlt (hok.trans (okByte_no (by omega) (by omega)))
        clear hok
        go_wp2
        all_goals try (exfalso; simp_all; done)
        all_goals try (exfalso; simp_all; omega)
        go_ret
        exact ⟨by rw [hy.out]; rfl, rfl⟩
    · obtain rfl : k = s.size := by omega
      have hg : isNm s = (decide (0 < s.size) && decide (s.size ≤ 40)) := isNm_good HS.out
      rcases (by omega : s.size = 0 ∨ (0 < s.size ∧ s.size ≤ 40) ∨ 40 < s.size) with h0 | ⟨h0, h1⟩ | h0
      · have hv : Hid (isNm s = false) := hg.trans (by rw [h0]; rfl)
        clear hg
        go_wp2
        all_goals try (exfalso; simp_all; done)
        all_goals try (exfalso; simp_all; omega)
        all_goals
          go_ret
          refine ⟨?_, rfl⟩
          rw [hv.out]
          first | rfl | (congr 2; simp; omega)
      · have hv : Hid (isNm s = true) := hg.trans (by simp [h0, h1])
        clear hg
        go_wp2
        all_goals try (exfalso; simp_all; done)
        all_goals try (exfalso; simp_all; omega)
        all_goals
          go_ret
          refine ⟨?_, rfl⟩
          rw [hv.out]
          first | rfl | (congr 2; simp; omega)
      · have hv : Hid (isNm s = false) := hg.trans (by rw [decide_eq_false (show ¬ s.size ≤ 40 by omega), Bool.and_false])
        clear hg
        go_wp2
        all_goals try (exfalso; simp_all; done)
        all_goals try (exfalso; simp_all; omega)
        all_goals
          go_ret
          refine ⟨?_, rfl⟩
          rw [hv.out]
          first | rfl | (congr 2; simp; omega)
end Go.Proofs.YtockpchpaemfgaaGreatDoor

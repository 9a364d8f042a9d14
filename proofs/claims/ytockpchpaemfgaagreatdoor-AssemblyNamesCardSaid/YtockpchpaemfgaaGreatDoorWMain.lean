/- AssemblyNames walked: whatever the string and the size, it answers true, given that known() does. -/
import Derived.Test.YtockpchpaemfgaaGreatDoorWName
import Derived.OwnWalk
import Derived.Laws.OwnMore
import Derived.Laws.BytesArg
import Derived.Below
set_option linter.all false
namespace Go.Proofs.YtockpchpaemfgaaGreatDoor
open Go.RowKit

theorem Tryz.info5 : (Tryz.prog.info? 5).map (fun i => (i.zero, i.size, i.bytes)) = some (some (.int .u8 0), 1, 1) := by kernel_rfl

def rowAt (n k : Nat) : List Value := List.replicate k (.int .u8 97) ++ List.replicate (n - k) (.int .u8 0)
theorem rowAt_cell {n k : Nat} (h : k < n) : (rowAt n k)[k]? = some (.int .u8 0) := by
  unfold rowAt
  rw [List.getElem?_append_right (by simp)]
  simp [List.getElem?_replicate]; omega
theorem rowAt_set {n k : Nat} (h : k < n) : (rowAt n k).set k (.int .u8 97) = rowAt n (k + 1) := by
  unfold rowAt
  rw [List.set_append, if_neg (by simp)]
  obtain ⟨m, hm⟩ : ∃ m, n - k = m + 1 := ⟨n - k - 1, by omega⟩
  have hm' : n - (k + 1) = m := by omega
  rw [hm, hm', List.replicate_succ, List.replicate_succ']
  simp
def manyA (n : Nat) : ByteArray := strOfNums (List.replicate n 97)
theorem manyA_ok (q : Int) (h : q = 0 ∨ q = 1) : isNm (manyA (40 + q.toNat)) = (q == 0) := by
  rcases h with rfl | rfl <;> kernel_rfl
theorem manyA_size (n : Nat) : (manyA n).size = n := by unfold manyA; rw [strOfNums_size]; simp

theorem conv_row {w : World} {B g n : Nat} (hown : w.ownsRow B 5 1 (.slice (some ⟨g, 0, none⟩) n n) n (rowAt n n)) : (convert 23 9 (.slice (some ⟨g, 0, none⟩) n n)).run Tryz.prog w = .ok (.string (manyA n)) w := by
  refine run_convert_bytes_arg w 23 5 Tryz.underlying23 Tryz.underlying5 g 0 n n (List.replicate n 97) (by simp) (fun i hi => ?_) 9 Tryz.underlying9
  rw [Nat.zero_add, hown.cellAt i (by omega)]
  unfold rowAt
  rw [List.getElem?_append_left (by simpa using hi)]
  simp [hi, List.getD]

theorem made_row (n : Nat) : (madeCells (Value.int .u8 0).cells (n * 1)).toList = rowAt n 0 := by
  have h0 : (Value.int IntKind.u8 0).cells = #[Value.int .u8 0] := rfl
  rw [h0, Nat.mul_one]
  unfold madeCells rowAt
  apply List.ext_getElem
  · simp
  · intro i h1 h2
    simp [Nat.mod_one]

theorem own_ge {w : World} {B g n : Nat} {xs : List Value} (hown : w.ownsRow B 5 1 (.slice (some ⟨g, 0, none⟩) n n) n xs) : B ≤ g := by
  rcases hown.2 with ⟨h', _⟩ | ⟨g', _, _, h', hb, _⟩
  · cases h'
  · cases h'; exact hb

set_option maxRecDepth 100000 in
set_option maxHeartbeats 4000000 in
theorem names3 (Laid : World → Prop) (KN : ∀ w, Laid w → Calls Tryz.prog 4 #[] w fun e w' => e = .returned (.bool true) ∧ Below w.heap.size w w' ∧ Laid w')
    (s : ByteArray) (q : Int) (w : World) (hs : s.size ≤ 9223372036854775807) (hq0 : 0 ≤ q) (hq1 : q ≤ 255) (hl0 : Laid w) :
    Calls Tryz.prog 3 #[.string s, .int .u8 q] w fun e w' => e = .returned (.bool true) ∧ Below w.heap.size w w' := by
  have KN' : ∀ w0, Laid w0 ∧ Below w.heap.size w w0 → Calls Tryz.prog 4 #[] w0 fun e w' => e = .returned (.bool true) ∧ Laid w' ∧ Below w.heap.size w w' := fun w0 h0 =>
    (KN w0 h0.1).mono fun e w' h => ⟨h.1, h.2.2, h0.2.trans (h.2.1.mono h0.2.size)⟩
  have hl : Laid w ∧ Below w.heap.size w w := ⟨hl0, Below.refl _ _⟩
  clear KN hl0
  by_cases h60 : 60 < s.size
  · go_enter Tryz.func3, Tryz.ntmps3
    go_wp2_with (first
      | (go_at_call 4; refine (KN' _ (by assumption)).mono ?_; rintro e w1 ⟨rfl, hl1⟩))
    go_ret
    exact ⟨rfl, hl1.2⟩
  · obtain ⟨r, hr⟩ : ∃ r, r = q % 2 := ⟨_, rfl⟩
    have hr01 : r = 0 ∨ r = 1 := by omega
    obtain ⟨n, hn⟩ : ∃ n : Nat, n = 40 + r.toNat := ⟨_, rfl⟩
    have hnm := manyA_ok r hr01
    rw [← hn] at hnm
    have hnz : (n : Int) = 40 + q % 2 := by omega
    have hn41 : n ≤ 41 := by omega
    have hqz : Hid ((r == 0) = (q % 2 == 0)) := by rw [hr]; rfl
    have HN : Hid (n = 40 + r.toNat ∧ r = q % 2) := ⟨hn, hr⟩
    have HM : Hid (isNm (manyA n) = (r == 0)) := hnm
    have HZ : Hid ((n : Int) = 40 + q % 2) := hnz
    clear hn hr hnm hnz
    obtain ⟨i0, hi, hz0, hz1, hz2⟩ := info_parts Tryz.info5
    go_enter Tryz.func3, Tryz.ntmps3
    go_wp2_with (first
      | (go_at_call 4; refine (KN' _ (by assumption)).mono ?_; rintro e w1 ⟨rfl, hl1⟩)
      | (at_make; refine wpList_make_full _ rfl _ _ 23 rfl w.heap.size 5 i0 (.int .u8 0) 1 Tryz.underlying23 hi hz0 hz1 .i64 .i64 _ _ n rfl rfl (by have := HZ.out; omega) (by have := HZ.out; omega) (by rw [hz2]; omega) (by unfold maxLen; omega) hl1.2.size ?_; intro w2 hown2 hgrow2))
    have hb2 : Below w.heap.size w w2 := hl1.2.grown hgrow2 hl1.2.size (fun k hk => by cases hk)
    have hz : (madeCells (Value.int .u8 0).cells (n * 1)).toList = rowAt n 0 := made_row n
    rw [hz] at hown2
    have hgB : w.heap.size ≤ w1.heap.size := hl1.2.size
    clear hgrow2 hz hl hl1 KN'
    go_loopw [6] (fun i wr => ∃ k : Nat, k ≤ n ∧ i = .int .i64 k ∧ wr.ownsRow w.heap.size 5 1 (.slice (some ⟨w1.heap.size, 0, none⟩) n n) n (rowAt n k) ∧ Below w.heap.size w wr) (fun i _ => n - (intOf i).toNat)
    case atStart => exact ⟨0, Nat.zero_le _, rfl, hown2, hb2⟩
    case round =>
      obtain ⟨k, hk, rfl, hown, hbw⟩ := hrel
      by_cases hlt : k < n
      · have hc := hown.cellAt k (by omega)
        rw [rowAt_cell hlt] at hc
        have hf := hown.frozenAt k
        have hst := hown.stored k (.int .u8 97)
        rw [rowAt_set hlt] at hst
        have hbw2 := hbw.grown hst.2 hbw.size (fun j hj => by cases hj; exact hgB)
        have HO : Hid ((wr.setCell ⟨w1.heap.size, k, none⟩ (.int .u8 97)).ownsRow w.heap.size 5 1 (.slice (some ⟨w1.heap.size, 0, none⟩) n n) n (rowAt n (k + 1))) := hst.1
        clear hst hown hown2 hb2 hbw
        go_wp2
        go_roundw
        case rel => exact ⟨k + 1, by omega, by go_num, HO.out, hbw2⟩
        case measure => simp [intOf]; omega
      · obtain rfl : k = n := by omega
        have hcv := conv_row hown
        have HE : Hid ((isNm (manyA k) == (q % 2 == 0)) = true) := by
          show _ = true
          rw [HM.out, hqz.out]; simp
        clear hown hown2 hb2
        go_wp2_with (first
          | (go_at_call 5; refine (isName5 _ _ (by first | exact hs | (rw [manyA_size]; omega))).mono ?_; rintro e w3 ⟨rfl, rfl⟩)
          | (go_at_call 6; refine (isName6 _ _ hs).mono ?_; rintro e w3 ⟨rfl, rfl⟩))
        go_ret
        refine ⟨?_, hbw⟩
        show Ending.returned (.bool _) = _
        rw [HE.out]
end Go.Proofs.YtockpchpaemfgaaGreatDoor

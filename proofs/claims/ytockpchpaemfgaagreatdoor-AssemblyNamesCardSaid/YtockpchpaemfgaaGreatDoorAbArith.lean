/- The fast arithmetic is the arithmetic. -/
import Derived.Test.YtockpchpaemfgaaGreatDoorAbMem
set_option linter.all false
namespace Go.Ab

theorem kind_eq {k k' : IntKind} (h : Nat.beq (kindN k) (kindN k') = true) : k = k' := by
  revert h; cases k <;> cases k' <;> decide

theorem wrapF_eq (k : IntKind) (n : Int) : wrapF k n = k.wrap n := by
  unfold wrapF
  have key : ∀ m : Int, k.min ≤ m → m ≤ k.max → k.wrap m = m := fun m h1 h2 => by
    cases k <;> simp [IntKind.wrap, IntKind.min, IntKind.max, IntKind.signed, IntKind.bits] at h1 h2 ⊢ <;> omega
  cases n with
  | ofNat a =>
    dsimp only
    cases hb : Nat.ble a (kindTop k) with
    | false => rfl
    | true =>
      have := of_nble hb
      refine (key _ ?_ ?_).symm <;> cases k <;> simp [kindTop, IntKind.min, IntKind.max, IntKind.signed, IntKind.bits] at this ⊢ <;> omega
  | negSucc a =>
    dsimp only
    cases hs : kindSigned k with
    | false => rfl
    | true =>
      dsimp only
      cases hb : Nat.ble a (kindTop k) with
      | false => rfl
      | true =>
        have := of_nble hb
        refine (key _ ?_ ?_).symm <;> cases k <;> simp [kindSigned, kindTop, IntKind.min, IntKind.max, IntKind.signed, IntKind.bits] at this hs ⊢ <;> omega
theorem intEq_eq (x y : Int) : intEq x y = (x == y) := by
  cases x <;> cases y <;> simp only [intEq] <;> rw [Bool.eq_iff_iff] <;> simp <;> omega
theorem intLe_eq (x y : Int) : intLe x y = decide (x ≤ y) := by
  cases x <;> cases y <;> simp only [intLe] <;> rw [Bool.eq_iff_iff] <;> simp <;> omega

theorem top_pow (k : IntKind) : kindTop k + 1 ≤ 2 ^ k.bits := by cases k <;> decide
theorem top_is (k : IntKind) : ∃ m, kindTop k + 1 = 2 ^ m := by
  cases k
  · exact ⟨7, rfl⟩
  · exact ⟨15, rfl⟩
  · exact ⟨31, rfl⟩
  · exact ⟨63, rfl⟩
  · exact ⟨8, rfl⟩
  · exact ⟨16, rfl⟩
  · exact ⟨32, rfl⟩
  · exact ⟨64, rfl⟩
theorem ofNat_bits (k : IntKind) {a : Nat} (h : a ≤ kindTop k) : (BitVec.ofInt k.bits (.ofNat a)).toNat = a := by
  have := top_pow k
  show (BitVec.ofInt k.bits ((a : Nat) : Int)).toNat = a
  rw [BitVec.ofInt_natCast, BitVec.toNat_ofNat, Nat.mod_eq_of_lt (by omega)]
theorem wrap_le (k : IntKind) {a : Nat} (h : a ≤ kindTop k) : k.wrap (a : Int) = .ofNat a := by
  have := wrapF_eq k (.ofNat a)
  unfold wrapF at this
  dsimp only at this
  rw [nble_t h] at this
  exact this.symm
theorem andF_eq (k : IntKind) (x y : Int) : andF k x y = k.wrap (BitVec.ofInt k.bits x &&& BitVec.ofInt k.bits y).toNat := by
  unfold andF
  split
  · rename_i a b
    cases h1 : Nat.ble a (kindTop k) <;> cases h2 : Nat.ble b (kindTop k) <;> simp only [Bool.and_true, Bool.and_false, Bool.true_and, cond_true, cond_false]
    have ha := of_nble h1
    have hb := of_nble h2
    rw [BitVec.toNat_and, ofNat_bits k ha, ofNat_bits k hb]
    exact (wrap_le k (Nat.le_trans Nat.and_le_left ha)).symm
  · rfl
theorem orF_eq (k : IntKind) (x y : Int) : orF k x y = k.wrap (BitVec.ofInt k.bits x ||| BitVec.ofInt k.bits y).toNat := by
  unfold orF
  split
  · rename_i a b
    cases h1 : Nat.ble a (kindTop k) <;> cases h2 : Nat.ble b (kindTop k) <;> simp only [Bool.and_true, Bool.and_false, Bool.true_and, cond_true, cond_false]
    have ha := of_nble h1
    have hb := of_nble h2
    rw [BitVec.toNat_or, ofNat_bits k ha, ofNat_bits k hb]
    obtain ⟨m, hm⟩ := top_is k
    have := Nat.or_lt_two_pow (x := a) (y := b) (n := m) (by omega) (by omega)
    exact (wrap_le k (show a ||| b ≤ _ by omega)).symm
  · rfl
theorem xorF_eq (k : IntKind) (x y : Int) : xorF k x y = k.wrap (BitVec.ofInt k.bits x ^^^ BitVec.ofInt k.bits y).toNat := by
  unfold xorF
  split
  · rename_i a b
    cases h1 : Nat.ble a (kindTop k) <;> cases h2 : Nat.ble b (kindTop k) <;> simp only [Bool.and_true, Bool.and_false, Bool.true_and, cond_true, cond_false]
    have ha := of_nble h1
    have hb := of_nble h2
    rw [BitVec.toNat_xor, ofNat_bits k ha, ofNat_bits k hb]
    obtain ⟨m, hm⟩ := top_is k
    have := Nat.xor_lt_two_pow (x := a) (y := b) (n := m) (by omega) (by omega)
    exact (wrap_le k (show a ^^^ b ≤ _ by omega)).symm
  · rfl
theorem quoF_eq (k : IntKind) (x y : Int) : quoF k x y = k.wrap (x.tdiv y) := by
  unfold quoF
  split
  · rw [wrapF_eq]; rfl
  · rw [wrapF_eq]
theorem remF_eq (x y : Int) : remF x y = x.tmod y := by
  unfold remF
  split <;> rfl
theorem isZ_eq (y : Int) : isZ y = decide (y = 0) := by
  unfold isZ
  split
  · rfl
  · rename_i h
    symm; rw [decide_eq_false_iff_not]
    intro e; subst e; exact h rfl
theorem min_eq (a b : Nat) : (bif Nat.ble a b then a else b) = min a b := by
  by_cases h : a ≤ b
  · rw [nble_t h, Nat.min_eq_left h]; rfl
  · rw [nble_f h, Nat.min_eq_right (by omega)]; rfl
theorem shlF_eq (k : IntKind) (a : Int) (b : Nat) : shlF k a b = k.wrap (a * 2 ^ (min b k.bits)) := by
  unfold shlF
  split
  · rename_i n
    rw [min_eq, wrapF_eq]
    congr 1
  · rfl
theorem shrF_eq (k : IntKind) (a : Int) (b : Nat) : shrF k a b = a.fdiv (2 ^ (min b k.bits)) := by
  unfold shrF
  split
  · rename_i n
    rw [min_eq]
    show ((n / 2 ^ min b k.bits : Nat) : Int) = Int.fdiv (n : Int) _
    have : (2 : Int) ^ min b k.bits = ((2 ^ min b k.bits : Nat) : Int) := by rw [Int.natCast_pow]; rfl
    rw [this, Int.fdiv_eq_ediv_of_nonneg _ (Int.natCast_nonneg _)]
    rfl
  · rfl

/-- The arithmetic as the model says it. -/
def intBinS (op : BinOp) (k : IntKind) (x y : Int) : Option Value :=
  match op with
  | .add => some (.int k (k.wrap (x + y)))
  | .sub => some (.int k (k.wrap (x - y)))
  | .mul => some (.int k (k.wrap (x * y)))
  | .quo => if y = 0 then none else some (.int k (k.wrap (x.tdiv y)))
  | .rem => if y = 0 then none else some (.int k (x.tmod y))
  | .and => some (.int k (k.wrap (BitVec.ofInt k.bits x &&& BitVec.ofInt k.bits y).toNat))
  | .or => some (.int k (k.wrap (BitVec.ofInt k.bits x ||| BitVec.ofInt k.bits y).toNat))
  | .xor => some (.int k (k.wrap (BitVec.ofInt k.bits x ^^^ BitVec.ofInt k.bits y).toNat))
  | .andNot => some (.int k (k.wrap (BitVec.ofInt k.bits x &&& ~~~ BitVec.ofInt k.bits y).toNat))
  | .eql => some (.bool (x == y))
  | .neq => some (.bool (x != y))
  | .lss => some (.bool (x < y))
  | .leq => some (.bool (x ≤ y))
  | .gtr => some (.bool (x > y))
  | .geq => some (.bool (x ≥ y))
  | _ => none
theorem intBin_eq (op : BinOp) (k : IntKind) (x y : Int) : intBin op k x y = intBinS op k x y := by
  have nle : ∀ a b : Int, (!decide (a ≤ b)) = decide (b < a) := fun a b => by
    rw [Bool.eq_iff_iff]; simp
  cases op <;> simp only [intBin, intBinS, wrapF_eq, andF_eq, orF_eq, xorF_eq, quoF_eq, remF_eq, isZ_eq, intEq_eq, intLe_eq, nle] <;> first | rfl | skip
  · by_cases h : y = 0 <;> simp [h]
  · by_cases h : y = 0 <;> simp [h]

theorem u8_eq (a b : UInt8) : u8Eq a b = (a == b) := by
  unfold u8Eq
  rw [Bool.eq_iff_iff]
  simp only [Nat.beq_eq, beq_iff_eq]
  exact UInt8.toNat_inj
theorem bytes_eq (x y : List UInt8) : bytesEq x y = (x == y) := by
  induction x generalizing y with
  | nil => cases y <;> rfl
  | cons a x ih => cases y with
    | nil => rfl
    | cons b y =>
      simp only [bytesEq, u8_eq, ih]
      show _ = ((a :: x) == (b :: y))
      rw [List.cons_beq_cons]
      cases a == b <;> rfl
end Go.Ab

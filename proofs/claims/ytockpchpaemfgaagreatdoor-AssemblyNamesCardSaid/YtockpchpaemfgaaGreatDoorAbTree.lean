/- Trees, lists and heaps. Laws of the abstract memory. -/
import Derived.Test.YtockpchpaemfgaaGreatDoorAbEval
set_option linter.all false
namespace Go.Ab

theorem nbeq_t {a b : Nat} (h : a = b) : Nat.beq a b = true := by rw [Nat.beq_eq]; exact h
theorem nbeq_f {a b : Nat} (h : a ≠ b) : Nat.beq a b = false := by rw [← Bool.not_eq_true, Nat.beq_eq]; exact h
theorem nble_t {a b : Nat} (h : a ≤ b) : Nat.ble a b = true := by rw [Nat.ble_eq]; exact h
theorem nble_f {a b : Nat} (h : ¬ a ≤ b) : Nat.ble a b = false := by rw [← Bool.not_eq_true, Nat.ble_eq]; exact h
theorem of_nbeq {a b : Nat} (h : Nat.beq a b = true) : a = b := by rw [Nat.beq_eq] at h; exact h
theorem of_nbeq_f {a b : Nat} (h : Nat.beq a b = false) : a ≠ b := by rw [← Bool.not_eq_true, Nat.beq_eq] at h; exact h
theorem of_nble {a b : Nat} (h : Nat.ble a b = true) : a ≤ b := by rw [Nat.ble_eq] at h; exact h
theorem of_nble_f {a b : Nat} (h : Nat.ble a b = false) : ¬ a ≤ b := by rw [← Bool.not_eq_true, Nat.ble_eq] at h; exact h

namespace T
variable {α : Type}
theorem get_set (t : T α) (i j : Nat) (v : α) : (t.set i v).get j = if i = j then (t.get i).map fun _ => v else t.get j := by
  induction t generalizing i j with
  | nil => simp [set, get]
  | one w =>
    by_cases hi : i = 0
    · subst hi
      by_cases hj : j = 0
      · subst hj; simp [set, get]
      · have : Nat.beq j 0 = false := nbeq_f hj
        simp [set, get, this, Ne.symm hj]
    · have h1 : Nat.beq i 0 = false := nbeq_f hi
      by_cases hj : i = j
      · subst hj; simp [set, get, h1]
      · simp [set, get, h1, hj]
  | node l r ihl ihr =>
    have key : ∀ a b : Nat, a % 2 = b % 2 → (a = b ↔ a / 2 = b / 2) := fun a b h => by omega
    by_cases hi : i % 2 = 0 <;> by_cases hj : j % 2 = 0
    · have h1 : Nat.beq (Nat.mod i 2) 0 = true := nbeq_t hi
      have h2 : Nat.beq (Nat.mod j 2) 0 = true := nbeq_t hj
      simp only [set, get, h1, h2]
      rw [ihl]
      have := key i j (by omega)
      by_cases hij : i = j
      · rw [if_pos hij, if_pos (show Nat.div i 2 = Nat.div j 2 from this.1 hij)]
      · rw [if_neg hij, if_neg (show ¬ Nat.div i 2 = Nat.div j 2 from fun h => hij (this.2 h))]
    · have h1 : Nat.beq (Nat.mod i 2) 0 = true := nbeq_t hi
      have h2 : Nat.beq (Nat.mod j 2) 0 = false := nbeq_f hj
      simp only [set, get, h1, h2]
      rw [if_neg (by omega)]
    · have h1 : Nat.beq (Nat.mod i 2) 0 = false := nbeq_f hi
      have h2 : Nat.beq (Nat.mod j 2) 0 = true := nbeq_t hj
      simp only [set, get, h1, h2]
      rw [if_neg (by omega)]
    · have h1 : Nat.beq (Nat.mod i 2) 0 = false := nbeq_f hi
      have h2 : Nat.beq (Nat.mod j 2) 0 = false := nbeq_f hj
      simp only [set, get, h1, h2]
      rw [ihr]
      have := key i j (by omega)
      by_cases hij : i = j
      · rw [if_pos hij, if_pos (show Nat.div i 2 = Nat.div j 2 from this.1 hij)]
      · rw [if_neg hij, if_neg (show ¬ Nat.div i 2 = Nat.div j 2 from fun h => hij (this.2 h))]

theorem set_comm (t : T α) {i j : Nat} (u v : α) (h : i ≠ j) : (t.set i u).set j v = (t.set j v).set i u := by
  induction t generalizing i j with
  | nil => rfl
  | one w =>
    by_cases hi : i = 0
    · have hj : Nat.beq j 0 = false := nbeq_f (by omega)
      subst hi; simp [set, hj]
    · have h1 : Nat.beq i 0 = false := nbeq_f hi
      by_cases hj : j = 0
      · subst hj; simp [set, h1]
      · have h2 : Nat.beq j 0 = false := nbeq_f hj
        simp [set, h1, h2]
  | node l r ihl ihr =>
    by_cases hi : i % 2 = 0 <;> by_cases hj : j % 2 = 0
    · have h1 : Nat.beq (Nat.mod i 2) 0 = true := nbeq_t hi
      have h2 : Nat.beq (Nat.mod j 2) 0 = true := nbeq_t hj
      simp only [set, h1, h2]
      rw [ihl (i := Nat.div i 2) (j := Nat.div j 2) (by show i / 2 ≠ j / 2; omega)]
    · have h1 : Nat.beq (Nat.mod i 2) 0 = true := nbeq_t hi
      have h2 : Nat.beq (Nat.mod j 2) 0 = false := nbeq_f hj
      simp only [set, h1, h2]
    · have h1 : Nat.beq (Nat.mod i 2) 0 = false := nbeq_f hi
      have h2 : Nat.beq (Nat.mod j 2) 0 = true := nbeq_t hj
      simp only [set, h1, h2]
    · have h1 : Nat.beq (Nat.mod i 2) 0 = false := nbeq_f hi
      have h2 : Nat.beq (Nat.mod j 2) 0 = false := nbeq_f hj
      simp only [set, h1, h2]
      rw [ihr (i := Nat.div i 2) (j := Nat.div j 2) (by show i / 2 ≠ j / 2; omega)]

theorem get_full (v : α) (d i : Nat) : (full v d).get i = if i < 2 ^ d then some v else none := by
  induction d generalizing i with
  | zero =>
    by_cases hi : i = 0
    · subst hi; rfl
    · have h1 : Nat.beq i 0 = false := nbeq_f hi
      simp only [full, get, h1]; rw [if_neg (by simp; omega)]
  | succ d ih =>
    simp only [full, get, ih]
    have e : (i / 2 < 2 ^ d) ↔ i < 2 ^ (d + 1) := by rw [Nat.pow_succ]; omega
    have e' : (Nat.div i 2 < 2 ^ d) = (i < 2 ^ (d + 1)) := propext e
    cases Nat.beq (Nat.mod i 2) 0 <;> dsimp only <;> simp only [e']

theorem get_mk (v : α) (d n i : Nat) (h : n ≤ 2 ^ d) : (mk v d n).get i = if i < n then some v else none := by
  induction d generalizing n i with
  | zero =>
    simp at h
    by_cases hn : n = 0
    · subst hn; simp [mk, get]
    · have : n = 1 := by omega
      subst this
      by_cases hi : i = 0
      · subst hi; rfl
      · have h1 : Nat.beq i 0 = false := nbeq_f hi
        simp only [mk, get, h1]; rw [if_neg (by omega)]
  | succ d ih =>
    rw [Nat.pow_succ] at h
    simp only [mk, get]
    rw [ih (Nat.div (Nat.succ n) 2) _ (by show (n + 1) / 2 ≤ _; omega), ih (Nat.div n 2) _ (by show n / 2 ≤ _; omega)]
    by_cases hi : i % 2 = 0
    · have h1 : Nat.beq (Nat.mod i 2) 0 = true := nbeq_t hi
      rw [h1]; dsimp only
      have e : (Nat.div i 2 < Nat.div (Nat.succ n) 2) = (i < n) := propext (by show (i / 2 < (n + 1) / 2) ↔ _; omega)
      simp only [e]
    · have h1 : Nat.beq (Nat.mod i 2) 0 = false := nbeq_f hi
      rw [h1]; dsimp only
      have e : (Nat.div i 2 < Nat.div n 2) = (i < n) := propext (by show (i / 2 < n / 2) ↔ _; omega)
      simp only [e]
theorem get_map {β : Type} (f : α → β) (t : T α) (i : Nat) : (t.map f).get i = (t.get i).map f := by
  induction t generalizing i with
  | nil => rfl
  | one v => simp only [map, get]; cases Nat.beq i 0 <;> rfl
  | node l r ihl ihr => simp only [map, get]; cases Nat.beq (Nat.mod i 2) 0 <;> simp only [ihl, ihr]
end T

section
variable {α : Type}
theorem nth_eq (l : List α) (n : Nat) : nth l n = l[n]? := by
  induction l generalizing n with
  | nil => rfl
  | cons a l ih => cases n with
    | zero => rfl
    | succ n => simp only [nth, ih, List.getElem?_cons_succ]
theorem setNth_get (f : α → α) (l : List α) (n m : Nat) : (setNth f l n)[m]? = if m = n then (l[m]?).map f else l[m]? := by
  induction l generalizing n m with
  | nil => simp [setNth]
  | cons a l ih =>
    cases n with
    | zero => cases m <;> simp [setNth]
    | succ n => cases m with
      | zero => simp [setNth]
      | succ m => simp only [setNth, List.getElem?_cons_succ, ih]; congr 1; simp
theorem setNth_len (f : α → α) (l : List α) (n : Nat) : (setNth f l n).length = l.length := by
  induction l generalizing n with
  | nil => rfl
  | cons a l ih => cases n <;> simp [setNth, ih]
theorem setNth_comm (f g : α → α) (l : List α) (n m : Nat) (h : n = m → ∀ a ∈ l, f (g a) = g (f a)) : setNth f (setNth g l n) m = setNth g (setNth f l m) n := by
  induction l generalizing n m with
  | nil => rfl
  | cons a l ih =>
    cases n with
    | zero => cases m with
      | zero => simp only [setNth]; rw [h rfl a (by simp)]
      | succ m => simp only [setNth]
    | succ n => cases m with
      | zero => simp only [setNth]
      | succ m => simp only [setNth]; rw [ih n m (fun e b hb => h (by rw [e]) b (by simp [hb]))]

theorem lenIs_eq (l : List α) (n : Nat) : lenIs l n = true ↔ l.length = n := by
  induction l generalizing n with
  | nil => simp [lenIs]; constructor <;> intro h <;> omega
  | cons a l ih =>
    simp only [lenIs, List.length_cons]
    by_cases hn : n = 0
    · subst hn; simp
    · have h1 : Nat.beq n 0 = false := nbeq_f hn
      rw [h1]; simp only [cond_false, ih]
      show l.length = n - 1 ↔ _
      omega

theorem front_eq (l : List α) (n : Nat) : front l n = if n ≤ l.length then some (l.take n) else none := by
  induction n generalizing l with
  | zero => cases l <;> simp [front]
  | succ n ih => cases l with
    | nil => simp [front]
    | cons a l =>
      simp only [front, ih, List.length_cons]
      by_cases h : n ≤ l.length
      · rw [if_pos h, if_pos (by omega)]; rfl
      · rw [if_neg h, if_neg (by omega)]
theorem skip_eq (l : List α) (n : Nat) : skip l n = if n ≤ l.length then some (l.drop n) else none := by
  induction n generalizing l with
  | zero => cases l <;> simp [skip]
  | succ n ih => cases l with
    | nil => simp [skip]
    | cons a l =>
      simp only [skip, ih, List.length_cons]
      by_cases h : n ≤ l.length
      · rw [if_pos h, if_pos (by omega)]; rfl
      · rw [if_neg h, if_neg (by omega)]
theorem cut_eq (l : List α) (off n : Nat) : cut l off n = if off + n ≤ l.length then some ((l.drop off).take n) else none := by
  unfold cut
  rw [skip_eq]
  by_cases h : off ≤ l.length
  · rw [if_pos h]; dsimp only; rw [front_eq, List.length_drop]
    by_cases h2 : off + n ≤ l.length
    · rw [if_pos (by omega), if_pos h2]
    · rw [if_neg (by omega), if_neg h2]
  · rw [if_neg h, if_neg (by omega)]
theorem over_eq (l vs : List α) : over l vs = if vs.length ≤ l.length then some (vs ++ l.drop vs.length) else none := by
  induction vs generalizing l with
  | nil => cases l <;> simp [over]
  | cons v vs ih => cases l with
    | nil => simp [over]
    | cons a l =>
      simp only [over, ih, List.length_cons]
      by_cases h : vs.length ≤ l.length
      · rw [if_pos h, if_pos (by omega)]; rfl
      · rw [if_neg h, if_neg (by omega)]
/-- New cells at 'off', where they fit. -/
def spl (cs : List α) (off : Nat) (new : List α) : List α := cs.take off ++ new ++ cs.drop (off + new.length)
theorem splice_eq (l vs : List α) (off : Nat) : splice l off vs = if off + vs.length ≤ l.length then some (spl l off vs) else none := by
  induction off generalizing l with
  | zero => cases l <;> simp [splice, over_eq, spl]
  | succ n ih => cases l with
    | nil => simp [splice]
    | cons a l =>
      simp only [splice, ih, List.length_cons]
      by_cases h : n + vs.length ≤ l.length
      · rw [if_pos h, if_pos (by omega)]; simp [spl]; rw [show n + 1 + vs.length = n + vs.length + 1 by omega]; simp
      · rw [if_neg h, if_neg (by omega)]
theorem cut_some {l r : List α} {off n : Nat} (h : cut l off n = some r) : off + n ≤ l.length ∧ r = (l.drop off).take n := by
  rw [cut_eq] at h; split at h
  · cases h; exact ⟨by assumption, rfl⟩
  · cases h
theorem splice_some {l vs r : List α} {off : Nat} (h : splice l off vs = some r) : off + vs.length ≤ l.length ∧ r = spl l off vs := by
  rw [splice_eq] at h; split at h
  · cases h; exact ⟨by assumption, rfl⟩
  · cases h
end
end Go.Ab
namespace Go.Ab
namespace Heap

structure WF (H : Heap) : Prop where
  lo : H.n ≤ 64 * H.cs.length
  hi : 64 * H.cs.length < H.n + 64
  slot : ∀ b, b < 64 * H.cs.length → ∃ x, H.raw b = some x ∧ (H.n ≤ b → x = .dead)

theorem raw_eq (H : Heap) (b : Nat) : H.raw b = (H.cs[b / 64]?).bind fun t => t.get (b % 64) := by
  unfold raw; rw [nth_eq]; show (match H.cs[b / 64]? with | some t => _ | none => _) = _
  cases H.cs[b / 64]? <;> rfl
theorem get_eq (H : Heap) (b : Nat) : H.get b = if H.n ≤ b then .dead else (H.raw b).getD .dead := by
  unfold get
  by_cases h : H.n ≤ b
  · rw [nble_t h, if_pos h]
  · rw [nble_f h, if_neg h]; dsimp only; cases H.raw b <;> rfl
theorem set_eq (H : Heap) (b : Nat) (x : Blk) : H.set b x = if H.n ≤ b then H else ⟨H.n, setNth (fun t => t.set (b % 64) x) H.cs (b / 64)⟩ := by
  unfold set
  by_cases h : H.n ≤ b
  · rw [nble_t h, if_pos h]
  · rw [nble_f h, if_neg h]; rfl
theorem grow_n (H : Heap) : H.grow.n = H.n + 1 := by
  unfold grow; cases Nat.beq (Nat.mod H.n 64) 0 <;> rfl
theorem grow_cs (H : Heap) : H.grow.cs = if H.n % 64 = 0 then H.cs ++ [T.full .dead 6] else H.cs := by
  unfold grow
  by_cases h : H.n % 64 = 0
  · rw [nbeq_t (show Nat.mod H.n 64 = 0 from h), if_pos h]
  · rw [nbeq_f (show ¬ Nat.mod H.n 64 = 0 from h), if_neg h]

theorem get_ge {H : Heap} {b : Nat} (h : H.n ≤ b) : H.get b = .dead := by rw [get_eq, if_pos h]
theorem n_set {H : Heap} {b : Nat} {x : Blk} : (H.set b x).n = H.n := by rw [set_eq]; split <;> rfl
theorem raw_set {H : Heap} {b c : Nat} {x : Blk} (h : b < H.n) : (H.set b x).raw c = if b = c then (H.raw b).map fun _ => x else H.raw c := by
  rw [set_eq, if_neg (by omega), raw_eq, raw_eq, raw_eq]
  dsimp only
  rw [setNth_get]
  by_cases hc : c / 64 = b / 64
  · rw [if_pos hc, hc]
    cases H.cs[b / 64]? with
    | none => split <;> rfl
    | some t =>
      simp only [Option.map_some, Option.bind_some, T.get_set]
      by_cases e : b = c
      · subst e; simp
      · rw [if_neg e, if_neg (by omega)]
  · rw [if_neg hc, if_neg (fun e => hc (by rw [e]))]
theorem get_set_ne {H : Heap} {b c : Nat} {x : Blk} (h : c ≠ b) : (H.set b x).get c = H.get c := by
  by_cases hb : b < H.n
  · rw [get_eq, get_eq, n_set, raw_set hb, if_neg (Ne.symm h)]
  · rw [set_eq, if_pos (by omega)]
theorem get_set_same {H : Heap} {b : Nat} {x : Blk} (wf : H.WF) (h : b < H.n) : (H.set b x).get b = x := by
  rw [get_eq, n_set, if_neg (by omega), raw_set h, if_pos rfl]
  obtain ⟨y, hy, _⟩ := wf.slot b (by have := wf.lo; omega)
  rw [hy]; rfl
theorem get_set_same' {H : Heap} {b : Nat} {x : Blk} (h : H.get b ≠ .dead) : (H.set b x).get b = x := by
  have hb : b < H.n := by
    apply Decidable.byContradiction
    intro hn; exact h (get_ge (by omega))
  rw [get_eq, if_neg (by omega)] at h
  rw [get_eq, n_set, if_neg (by omega), raw_set hb, if_pos rfl]
  cases hr : H.raw b with
  | none => rw [hr] at h; exact absurd rfl h
  | some y => rfl
theorem set_comm {H : Heap} {b c : Nat} {x y : Blk} (h : b ≠ c) : (H.set b x).set c y = (H.set c y).set b x := by
  by_cases hb : H.n ≤ b
  · rw [set_eq (H.set b x), set_eq H b, if_pos hb, set_eq (H.set c y) b, n_set, if_pos hb, set_eq H c]
  · by_cases hc : H.n ≤ c
    · rw [set_eq (H.set b x) c, n_set, if_pos hc, set_eq H c, if_pos hc]
    · rw [set_eq (H.set b x) c, n_set, if_neg hc, set_eq H b, if_neg hb, set_eq (H.set c y) b, n_set, if_neg hb, set_eq H c, if_neg hc]
      dsimp only
      rw [setNth_comm]
      intro e t _
      exact T.set_comm _ _ _ (by omega)
theorem wf_set {H : Heap} {b : Nat} {x : Blk} (wf : H.WF) : (H.set b x).WF := by
  by_cases hb : b < H.n
  · have hl : (H.set b x).cs.length = H.cs.length := by rw [set_eq, if_neg (by omega)]; exact setNth_len _ _ _
    refine ⟨by rw [hl, n_set]; exact wf.lo, by rw [hl, n_set]; exact wf.hi, fun c hc => ?_⟩
    rw [hl] at hc
    obtain ⟨y, hy, hd⟩ := wf.slot c hc
    rw [raw_set hb, n_set]
    by_cases e : b = c
    · subst e; rw [if_pos rfl, hy]; exact ⟨x, rfl, fun h => by omega⟩
    · rw [if_neg e]; exact ⟨y, hy, hd⟩
  · rw [set_eq, if_pos (by omega)]; exact wf

theorem raw_grow {H : Heap} (b : Nat) : H.grow.raw b = if H.n % 64 = 0 ∧ b / 64 = H.cs.length then some .dead else H.raw b := by
  rw [raw_eq, raw_eq, grow_cs]
  by_cases h : H.n % 64 = 0
  · rw [if_pos h]
    by_cases hb : b / 64 = H.cs.length
    · rw [if_pos ⟨h, hb⟩, hb, List.getElem?_append_right (Nat.le_refl _)]
      simp only [Nat.sub_self, List.getElem?_cons_zero, Option.bind_some, T.get_full]
      rw [if_pos (by have := Nat.mod_lt b (show 0 < 64 by omega); omega)]
    · rw [if_neg (fun e => hb e.2)]
      by_cases hlt : b / 64 < H.cs.length
      · rw [List.getElem?_append_left hlt]
      · rw [List.getElem?_append_right (by omega), List.getElem?_eq_none (l := H.cs) (by omega)]
        rw [List.getElem?_eq_none (by simp; omega)]
  · rw [if_neg h, if_neg (fun e => h e.1)]
theorem wf_grow {H : Heap} (wf : H.WF) : H.grow.WF := by
  have h1 := wf.lo
  have h2 := wf.hi
  have hl : H.grow.cs.length = if H.n % 64 = 0 then H.cs.length + 1 else H.cs.length := by rw [grow_cs]; split <;> simp
  refine ⟨?_, ?_, fun b hb => ?_⟩
  · rw [hl, grow_n]; split <;> omega
  · rw [hl, grow_n]; split <;> omega
  · rw [hl] at hb
    rw [raw_grow, grow_n]
    split
    · exact ⟨.dead, rfl, fun _ => rfl⟩
    · rename_i hn
      have hb' : b < 64 * H.cs.length := by
        split at hb
        · rename_i h0; have : ¬ b / 64 = H.cs.length := fun e => hn ⟨h0, e⟩; omega
        · exact hb
      obtain ⟨x, hx, hd⟩ := wf.slot b hb'
      exact ⟨x, hx, fun h => hd (by omega)⟩
theorem get_grow {H : Heap} (wf : H.WF) (b : Nat) : H.grow.get b = H.get b := by
  rw [get_eq, get_eq, grow_n, raw_grow]
  have h1 := wf.lo
  have h2 := wf.hi
  by_cases hb : H.n ≤ b
  · rw [if_pos hb]
    by_cases hb2 : H.n + 1 ≤ b
    · rw [if_pos hb2]
    · rw [if_neg hb2]
      split
      · rfl
      · rename_i hn
        have hb' : b < 64 * H.cs.length := by
          have : b = H.n := by omega
          subst this
          by_cases h0 : H.n % 64 = 0
          · have : ¬ H.n / 64 = H.cs.length := fun e => hn ⟨h0, e⟩
            omega
          · omega
        obtain ⟨x, hx, hd⟩ := wf.slot b hb'
        rw [hx, hd hb]; rfl
  · rw [if_neg hb, if_neg (by omega), if_neg (by omega)]

theorem n_push {H : Heap} {x : Blk} : (H.push x).n = H.n + 1 := by unfold push; rw [n_set, grow_n]
theorem wf_push {H : Heap} {x : Blk} (wf : H.WF) : (H.push x).WF := wf_set (wf_grow wf)
theorem get_push_same {H : Heap} {x : Blk} (wf : H.WF) : (H.push x).get H.n = x := by
  unfold push; exact get_set_same (wf_grow wf) (by rw [grow_n]; omega)
theorem get_push_ne {H : Heap} {x : Blk} {b : Nat} (wf : H.WF) (h : b ≠ H.n) : (H.push x).get b = H.get b := by
  unfold push; rw [get_set_ne h, get_grow wf]
theorem get_push_old {H : Heap} {x : Blk} {b : Nat} (wf : H.WF) (h : b < H.n) : (H.push x).get b = H.get b := get_push_ne wf (by omega)
theorem n_reserve (H : Heap) (k : Nat) : (H.reserve k).n = H.n + k := by
  induction k generalizing H with
  | zero => rfl
  | succ k ih => rw [reserve, ih, grow_n]; omega
theorem wf_reserve {H : Heap} (wf : H.WF) (k : Nat) : (H.reserve k).WF := by
  induction k generalizing H with
  | zero => exact wf
  | succ k ih => exact ih (wf_grow wf)
theorem get_reserve {H : Heap} (wf : H.WF) (b k : Nat) : (H.reserve k).get b = H.get b := by
  induction k generalizing H with
  | zero => rfl
  | succ k ih => rw [reserve, ih (wf_grow wf), get_grow wf]
theorem wf_empty : empty.WF := ⟨by simp [empty], by simp [empty], fun b hb => by simp [empty] at hb⟩
theorem get_empty (b : Nat) : empty.get b = .dead := get_ge (by simp [empty])
theorem set_other {H : Heap} {b : Nat} {x : Blk} (h : ¬ b < H.n) : H.set b x = H := by rw [set_eq, if_pos (by omega)]
end Heap
end Go.Ab

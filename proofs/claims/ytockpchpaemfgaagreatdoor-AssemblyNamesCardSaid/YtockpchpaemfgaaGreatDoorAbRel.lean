/- How the evaluator's abstract memory lies in the model's. -/
import Derived.Test.YtockpchpaemfgaaGreatDoorAbTree
import Derived.Test.YtockpchpaemfgaaGreatDoorAbAct
set_option linter.all false
namespace Go.Ab

abbrev Imm := Nat → Nat → Prop
abbrev Inj := Nat → Option (Nat × Nat × Nat)

/-- Immutable data as it lies in memory. -/
inductive DR (I : Imm) (w : World) : D → Value → Prop
  | leaf (v : Value) : DR I w (.leaf v) v
  | nil (base : Option Addr) (c : Nat) : DR I w (.lit 0 []) (.slice base 0 c)
  | lit (len : Nat) (cells : List D) (blk off c : Nat) (vs : List Value) (hc : len ≤ c) (hl : vs.length = cells.length)
      (hw : ∀ (i : Nat) v, vs[i]? = some v → w.cell? ⟨blk, off + i, none⟩ = some v ∧ I blk (off + i))
      (hv : ∀ (i : Nat) x v, cells[i]? = some x → vs[i]? = some v → DR I w x v) :
      DR I w (.lit len cells) (.slice (some ⟨blk, off, none⟩) len c)
  | fn (f : FuncId) (caps : List D) (vs : List Value) (hl : vs.length = caps.length)
      (hv : ∀ (i : Nat) x v, caps[i]? = some x → vs[i]? = some v → DR I w x v) :
      DR I w (.fn f caps) (.func (.func f) #[] vs.toArray)
  | ptr (cells : List D) (blk off : Nat) (vs : List Value) (hl : vs.length = cells.length)
      (hw : ∀ (i : Nat) v, vs[i]? = some v → w.cell? ⟨blk, off + i, none⟩ = some v ∧ I blk (off + i))
      (hv : ∀ (i : Nat) x v, cells[i]? = some x → vs[i]? = some v → DR I w x v) :
      DR I w (.ptr cells) (.pointer (some ⟨blk, off, none⟩))

theorem DR.mono {I I' : Imm} {w w' : World} (hI : ∀ b o, I b o → I' b o)
    (hw : ∀ b o v, I b o → w.cell? ⟨b, o, none⟩ = some v → w'.cell? ⟨b, o, none⟩ = some v) {x : D} {v : Value} (h : DR I w x v) : DR I' w' x v := by
  induction h with
  | leaf v => exact .leaf v
  | nil base c => exact .nil base c
  | lit len cells blk off c vs hc hl hcell _ ih =>
    exact .lit len cells blk off c vs hc hl (fun i v h => ⟨hw _ _ _ (hcell i v h).2 (hcell i v h).1, hI _ _ (hcell i v h).2⟩) ih
  | fn f caps vs hl _ ih => exact .fn f caps vs hl ih
  | ptr cells blk off vs hl hcell _ ih =>
    exact .ptr cells blk off vs hl (fun i v h => ⟨hw _ _ _ (hcell i v h).2 (hcell i v h).1, hI _ _ (hcell i v h).2⟩) ih

/-- The cells of immutable data, from an address on. -/
def CellsD (I : Imm) (w : World) (blk off : Nat) (ds : List D) : Prop :=
  ∀ (i : Nat) x, ds[i]? = some x → ∃ v, w.cell? ⟨blk, off + i, none⟩ = some v ∧ I blk (off + i) ∧ DR I w x v

/-- Abstract values as they stand in the model. -/
inductive VR (I : Imm) (ι : Inj) (w : World) : AV → Value → Prop
  | d {x : D} {v : Value} (h : DR I w x v) : VR I ι w (.d x) v
  | ptr {b off k o e : Nat} (h : ι b = some (k, o, e)) : VR I ι w (.ptr b off) (.pointer (some ⟨k, o + off, none⟩))
  | sl {b off len esz c k o e : Nat} {cap : Option Nat} {base : Option Addr} (h : ι b = some (k, o, e)) (hc : len ≤ c)
      (hk : ∀ m, cap = some m → c = m) (hb : c = 0 ∨ base = some ⟨k, o + off, none⟩) (he : cap = none → off + c * esz ≤ e) :
      VR I ι w (.sl b off len esz cap) (.slice base len c)
  | sl0 {b off esz : Nat} {base : Option Addr} : VR I ι w (.sl b off 0 esz (some 0)) (.slice base 0 0)
  | fn {f : FuncId} {caps : List AV} {vs : List Value} (hl : vs.length = caps.length)
      (hv : ∀ (i : Nat) x v, caps[i]? = some x → vs[i]? = some v → VR I ι w x v) : VR I ι w (.fn f caps) (.func (.func f) #[] vs.toArray)
  | yield {b k o e : Nat} (h : ι b = some (k, o, e)) : VR I ι w (.yield b) (.func (.yield k) #[] #[])
  | map {b k o e : Nat} (h : ι b = some (k, o, e)) : VR I ι w (.map b) (.map (some k))
  | agg {cells : List AV} {vs : List Value} (hl : vs.length = cells.length)
      (hv : ∀ (i : Nat) x v, cells[i]? = some x → vs[i]? = some v → VR I ι w x v) : VR I ι w (.agg cells) (.agg vs.toArray)
  | tup {cells : List AV} {vs : List Value} (hl : vs.length = cells.length)
      (hv : ∀ (i : Nat) x v, cells[i]? = some x → vs[i]? = some v → VR I ι w x v) : VR I ι w (.tup cells) (.tuple vs.toArray)

theorem CellsD.mono {I I' : Imm} {w w' : World} (hI : ∀ b o, I b o → I' b o)
    (hw : ∀ b o v, I b o → w.cell? ⟨b, o, none⟩ = some v → w'.cell? ⟨b, o, none⟩ = some v) {blk off : Nat} {ds : List D} (h : CellsD I w blk off ds) : CellsD I' w' blk off ds :=
  fun i x hx => let ⟨v, h1, h2, h3⟩ := h i x hx; ⟨v, hw _ _ _ h2 h1, hI _ _ h2, h3.mono hI hw⟩

theorem VR.mono {I I' : Imm} {ι ι' : Inj} {w w' : World} (hI : ∀ b o, I b o → I' b o)
    (hw : ∀ b o v, I b o → w.cell? ⟨b, o, none⟩ = some v → w'.cell? ⟨b, o, none⟩ = some v)
    (hι : ∀ b r, ι b = some r → ι' b = some r) {x : AV} {v : Value} (h : VR I ι w x v) : VR I' ι' w' x v := by
  induction h with
  | d h => exact .d (h.mono hI hw)
  | ptr h => exact .ptr (hι _ _ h)
  | sl h hc hk hb he => exact .sl (hι _ _ h) hc hk hb he
  | sl0 => exact .sl0
  | fn hl _ ih => exact .fn hl ih
  | yield h => exact .yield (hι _ _ h)
  | map h => exact .map (hι _ _ h)
  | agg hl _ ih => exact .agg hl ih
  | tup hl _ ih => exact .tup hl ih

/-- Lists of values. -/
structure VRs (I : Imm) (ι : Inj) (w : World) (xs : List AV) (vs : List Value) : Prop where
  len : vs.length = xs.length
  at_ : ∀ (i : Nat) x v, xs[i]? = some x → vs[i]? = some v → VR I ι w x v

namespace VRs
variable {I : Imm} {ι : Inj} {w : World}
theorem nil : VRs I ι w [] [] := ⟨rfl, by simp⟩
theorem cons {x : AV} {v : Value} {xs : List AV} {vs : List Value} (h : VR I ι w x v) (hs : VRs I ι w xs vs) : VRs I ι w (x :: xs) (v :: vs) :=
  ⟨by simp [hs.len], fun i y u h1 h2 => by
    cases i with
    | zero => simp at h1 h2; subst h1 h2; exact h
    | succ i => exact hs.at_ i y u (by simpa using h1) (by simpa using h2)⟩
theorem uncons {x : AV} {xs : List AV} {vs : List Value} (h : VRs I ι w (x :: xs) vs) : ∃ v vs', vs = v :: vs' ∧ VR I ι w x v ∧ VRs I ι w xs vs' := by
  cases vs with
  | nil => have := h.len; simp at this
  | cons v vs' =>
    refine ⟨v, vs', rfl, h.at_ 0 x v rfl rfl, by have := h.len; simpa using this, fun i y u h1 h2 => h.at_ (i + 1) y u (by simpa using h1) (by simpa using h2)⟩
theorem unnil {vs : List Value} (h : VRs I ι w [] vs) : vs = [] := List.eq_nil_of_length_eq_zero h.len
theorem append {xs ys : List AV} {us vs : List Value} (h : VRs I ι w xs us) (k : VRs I ι w ys vs) : VRs I ι w (xs ++ ys) (us ++ vs) := by
  induction xs generalizing us with
  | nil => rw [h.unnil]; simpa using k
  | cons x xs ih =>
    obtain ⟨v, us', rfl, h1, h2⟩ := h.uncons
    exact (ih h2).cons h1
theorem take {xs : List AV} {vs : List Value} (h : VRs I ι w xs vs) (n : Nat) : VRs I ι w (xs.take n) (vs.take n) :=
  ⟨by simp [h.len], fun i x v h1 h2 => by
    rw [List.getElem?_take] at h1 h2
    split at h1 <;> simp_all
    exact h.at_ i x v h1 h2⟩
theorem drop {xs : List AV} {vs : List Value} (h : VRs I ι w xs vs) (n : Nat) : VRs I ι w (xs.drop n) (vs.drop n) :=
  ⟨by simp [h.len], fun i x v h1 h2 => by
    rw [List.getElem?_drop] at h1 h2
    exact h.at_ _ x v h1 h2⟩
theorem set {xs : List AV} {vs : List Value} (h : VRs I ι w xs vs) {x : AV} {v : Value} (hx : VR I ι w x v) (n : Nat) : VRs I ι w (xs.set n x) (vs.set n v) :=
  ⟨by simp [h.len], fun i y u h1 h2 => by
    rw [List.getElem?_set] at h1 h2
    by_cases hn : n = i
    · rw [if_pos hn] at h1 h2
      split at h1
      · split at h2
        · cases h1; cases h2; exact hx
        · cases h2
      · cases h1
    · rw [if_neg hn] at h1 h2
      exact h.at_ i y u h1 h2⟩
theorem mono {I' : Imm} {ι' : Inj} {w' : World} (hI : ∀ b o, I b o → I' b o)
    (hw : ∀ b o v, I b o → w.cell? ⟨b, o, none⟩ = some v → w'.cell? ⟨b, o, none⟩ = some v)
    (hι : ∀ b r, ι b = some r → ι' b = some r) {xs : List AV} {vs : List Value} (h : VRs I ι w xs vs) : VRs I' ι' w' xs vs :=
  ⟨h.len, fun i x v h1 h2 => (h.at_ i x v h1 h2).mono hI hw hι⟩
theorem get {xs : List AV} {vs : List Value} (h : VRs I ι w xs vs) {i : Nat} {x : AV} (hx : xs[i]? = some x) : ∃ v, vs[i]? = some v ∧ VR I ι w x v := by
  have hi : i < vs.length := by rw [h.len]; exact (List.getElem?_eq_some_iff.1 hx).1
  exact ⟨vs[i], by simp [hi], h.at_ i x _ hx (by simp [hi])⟩
theorem leafs (vs : List Value) : VRs I ι w (vs.map leaf) vs :=
  ⟨by simp, fun i x v h1 h2 => by
    simp only [List.getElem?_map, h2, Option.map_some, Option.some.injEq] at h1
    subst h1; exact .d (.leaf v)⟩
theorem replicate {x : AV} {v : Value} (h : VR I ι w x v) (n : Nat) : VRs I ι w (List.replicate n x) (List.replicate n v) :=
  ⟨by simp, fun i y u h1 h2 => by
    simp only [List.getElem?_replicate] at h1 h2
    split at h1 <;> simp_all⟩
end VRs

/-- Temporaries. -/
structure TR (I : Imm) (ι : Inj) (w : World) (t : Tm) (tm : List Value) : Prop where
  len : ∀ i, (T.get t i).isSome = true ↔ i < tm.length
  at_ : ∀ (i : Nat) x v, T.get t i = some x → tm[i]? = some v → VR I ι w x v

namespace TR
variable {I : Imm} {ι : Inj} {w : World}
theorem set {t : Tm} {tm : List Value} (h : TR I ι w t tm) {x : AV} {v : Value} (hx : VR I ι w x v) (n : Nat) : TR I ι w (T.set t n x) (tm.set n v) :=
  ⟨fun i => by
    rw [T.get_set, List.length_set]
    by_cases hn : n = i
    · subst hn; rw [if_pos rfl, Option.isSome_map]; exact h.len n
    · rw [if_neg hn]; exact h.len i, fun i y u h1 h2 => by
    rw [T.get_set] at h1
    by_cases hn : n = i
    · subst hn
      rw [if_pos rfl] at h1
      have h3 := List.getElem?_eq_some_iff.1 h2
      obtain ⟨hlt, h3⟩ := h3
      rw [List.getElem_set_self] at h3
      cases hg : T.get t n with
      | none => rw [hg] at h1; cases h1
      | some z => rw [hg] at h1; cases h1; rw [← h3]; exact hx
    · rw [if_neg hn] at h1
      rw [List.getElem?_set_ne hn] at h2
      exact h.at_ i y u h1 h2⟩
theorem mono {I' : Imm} {ι' : Inj} {w' : World} (hI : ∀ b o, I b o → I' b o)
    (hw : ∀ b o v, I b o → w.cell? ⟨b, o, none⟩ = some v → w'.cell? ⟨b, o, none⟩ = some v)
    (hι : ∀ b r, ι b = some r → ι' b = some r) {t : Tm} {tm : List Value} (h : TR I ι w t tm) : TR I' ι' w' t tm :=
  ⟨h.len, fun i x v h1 h2 => (h.at_ i x v h1 h2).mono hI hw hι⟩
/-- What a temporary holds. -/
theorem get {t : Tm} {tm : List Value} (h : TR I ι w t tm) (i : Nat) : VR I ι w (Tm.get t i) ((tm[i]?).getD undef) := by
  unfold Tm.get
  cases hg : T.get t i with
  | none =>
    have : ¬ i < tm.length := fun hl => by have := (h.len i).2 hl; rw [hg] at this; cases this
    rw [List.getElem?_eq_none (by omega)]
    exact .d (.leaf undef)
  | some x =>
    have hl : i < tm.length := (h.len i).1 (by rw [hg]; rfl)
    have hv : tm[i]? = some tm[i] := by simp [hl]
    rw [hv]; exact h.at_ i x _ hg hv
end TR

theorem VR.agg' {I : Imm} {ι : Inj} {w : World} {cells : List AV} {vs : List Value} (h : VRs I ι w cells vs) : VR I ι w (.agg cells) (.agg vs.toArray) := .agg h.len h.at_
theorem VR.tup' {I : Imm} {ι : Inj} {w : World} {cells : List AV} {vs : List Value} (h : VRs I ι w cells vs) : VR I ι w (.tup cells) (.tuple vs.toArray) := .tup h.len h.at_
theorem VR.undef {I : Imm} {ι : Inj} {w : World} : VR I ι w undefA undef := .d (.leaf _)

/-- Which cells of the model's memory a live block takes. -/
def InR (r : Nat × Nat × Nat) (b : Blk) (blk off : Nat) : Prop :=
  match b with
  | .dead => False
  | .cells m _ => blk = r.1 ∧ r.2.1 + m ≤ off ∧ off < r.2.1 + r.2.2
  | .map _ => blk = r.1
  | .iter .. => blk = r.1
  | .miter .. => blk = r.1
  | .loop .. => blk = r.1

def Own (ι : Inj) (H : Heap) (blk off : Nat) : Prop := ∃ id r, ι id = some r ∧ InR r (H.get id) blk off

/-- Every region of the code that draws has operations that are apart where they are not ordered. -/
def looks (ops : List Oper) (o : Oper) : List Tmp :=
  (o.op.operands.toList.filterMap fun | .tmp t => some t | _ => none) ++
  (match o.guard with
   | some (g, _) => ((ops[g]?).bind (·.dst)).toList
   | none => [])

def apartB (ops : List Oper) (x y : Oper) : Bool :=
  (match x.dst with
   | some d => !(looks ops y).contains d && y.dst != some d
   | none => true) &&
  (match y.dst with
   | some d => !(looks ops x).contains d
   | none => true)

/-- For each operation of a region: the ones before it in every order, as bits. -/
def befores : List Oper → List Nat → List Nat
  | [], acc => acc
  | o :: rest, acc => befores rest (acc ++ [(preds o).foldl (fun s p => s ||| 2 ^ p ||| acc.getD p 0) 0])

def drawOps (ops : List Oper) : Bool :=
  (ops.zipIdx.all fun (o, j) => (preds o).all (· < j)) &&
  (ops.zipIdx.all fun (y, j) => (ops.take j).zipIdx.all fun (x, i) => apartB ops x y || ordered ops ops.length i j)

def Code.drawOK : Code → Bool
  | .region _ ops draw => !draw || drawOps ops.toList
  | .seq a b => Code.drawOK a && Code.drawOK b
  | .cond _ a b => Code.drawOK a && Code.drawOK b
  | .block _ c => Code.drawOK c
  | .loop c => Code.drawOK c
  | .rangeFunc _ _ a b => Code.drawOK a && Code.drawOK b
  | _ => true

/-- What lies at a block's place. -/
def BR (I : Imm) (ι : Inj) (w : World) (b : Blk) (r : Nat × Nat × Nat) : Prop :=
  match b with
  | .dead => True
  | .cells m cs => m ≤ cs.length ∧ cs.length ≤ r.2.2 ∧ (∀ i, i < m → I r.1 (r.2.1 + i)) ∧
      (∀ i, i < r.2.2 → ∃ v, w.cell? ⟨r.1, r.2.1 + i, none⟩ = some v) ∧
      (∀ i, i < r.2.2 → w.frozen? ⟨r.1, r.2.1 + i, none⟩ = false) ∧
      ∀ (i : Nat) x, cs[i]? = some x → ∃ v, w.cell? ⟨r.1, r.2.1 + i, none⟩ = some v ∧ VR I ι w x v
  | .map es => ∃ ents clock, w.heap[r.1]? = some (.map ents clock) ∧ VRs I ι w (es.map (·.1)) (ents.toList.map (·.key)) ∧ VRs I ι w (es.map (·.2)) (ents.toList.map (·.val)) ∧
      ents.toList.map (·.born) = List.range es.length ∧ clock = es.length
  | .loop f tmps params asg body st j => ∃ l : Loop, w.heap[r.1]? = some (.loop l) ∧ l.state = st ∧ l.pending = j ∧ l.fn = f ∧ l.params.toList = params ∧ l.assign = asg ∧ l.body = body ∧
      TR I ι w tmps l.tmps.toList ∧ Code.drawOK asg = true ∧ Code.drawOK body = true
  | .iter s p => w.heap[r.1]? = some (.stringIter s p) ∧ r.2.1 = 0
  | .miter mb since seen last => (∃ r', ι mb = some r' ∧ w.heap[r.1]? = some (.mapIter (some r'.1) since seen.reverse.toArray last)) ∧ r.2.1 = 0

structure RelH (I : Imm) (ι : Inj) (H : Heap) (w : World) : Prop where
  wf : H.WF
  lt : ∀ id r, ι id = some r → id < H.n ∧ r.1 < w.heap.size
  live : ∀ id, H.get id ≠ .dead → ∃ r, ι id = some r
  blk : ∀ id r, ι id = some r → BR I ι w (H.get id) r
  sep : ∀ i j ri rj, i ≠ j → ι i = some ri → ι j = some rj → ∀ b o, InR ri (H.get i) b o → InR rj (H.get j) b o → False
  imm : ∀ b o, I b o → (∃ v, w.cell? ⟨b, o, none⟩ = some v) ∧ ¬ Own ι H b o

/-- From one state to a later one: what was not the abstract memory's own is as it was. -/
structure Ext (I : Imm) (ι : Inj) (H : Heap) (w : World) (I' : Imm) (ι' : Inj) (H' : Heap) (w' : World) : Prop where
  os : w'.os = w.os
  output : w'.output = w.output
  tape : w'.tape = w.tape
  drawn : w.drawn ≤ w'.drawn
  size : w.heap.size ≤ w'.heap.size
  cells : ∀ (b : Nat) c e fr, w.heap[b]? = some (Obj.cells c e fr) → ∃ c', w'.heap[b]? = some (Obj.cells c' e fr) ∧ c'.size = c.size ∧ ∀ o, ¬ Own ι H b o → c'[o]? = c[o]?
  objs : ∀ (b : Nat) o, w.heap[b]? = some o → (∀ c e fr, o ≠ Obj.cells c e fr) → (¬ Own ι H b 0) → w'.heap[b]? = some o
  loops : ∀ (b : Nat) l, w.heap[b]? = some (Obj.loop l) → ∃ l', w'.heap[b]? = some (Obj.loop l')
  inj : ∀ id r, ι id = some r → ι' id = some r
  n : H.n ≤ H'.n
  immMono : ∀ b o, I b o → I' b o
  immOld : ∀ b o, b < w.heap.size → I' b o → I b o ∨ Own ι H b o
  own : ∀ b o, b < w.heap.size → Own ι' H' b o → Own ι H b o

theorem cell?_eq {w : World} {b o : Nat} {v : Value} : w.cell? ⟨b, o, none⟩ = some v ↔ ∃ c e fr, w.heap[b]? = some (Obj.cells c e fr) ∧ c[o]? = some v := by
  unfold World.cell?
  dsimp only
  cases h : w.heap[b]? with
  | none => simp
  | some x => cases x <;> simp

theorem cell?_lt {w : World} {b o : Nat} {v : Value} (h : w.cell? ⟨b, o, none⟩ = some v) : b < w.heap.size := by
  obtain ⟨c, e, fr, h, _⟩ := cell?_eq.1 h
  exact (Array.getElem?_eq_some_iff.1 h).1

namespace Ext
variable {I I' I'' : Imm} {ι ι' ι'' : Inj} {H H' H'' : Heap} {w w' w'' : World}
theorem refl (I : Imm) (ι : Inj) (H : Heap) (w : World) : Ext I ι H w I ι H w :=
  ⟨rfl, rfl, rfl, Nat.le_refl _, Nat.le_refl _, fun _ c _ _ h => ⟨c, h, rfl, fun _ _ => rfl⟩, fun _ _ h _ _ => h, fun _ l h => ⟨l, h⟩, fun _ _ h => h, Nat.le_refl _, fun _ _ h => h, fun _ _ _ h => .inl h, fun _ _ _ h => h⟩

theorem trans (h : Ext I ι H w I' ι' H' w') (k : Ext I' ι' H' w' I'' ι'' H'' w'') : Ext I ι H w I'' ι'' H'' w'' where
  os := k.os.trans h.os
  output := k.output.trans h.output
  tape := k.tape.trans h.tape
  drawn := Nat.le_trans h.drawn k.drawn
  size := Nat.le_trans h.size k.size
  cells := fun b c e fr hb => by
    have hlt : b < w.heap.size := (Array.getElem?_eq_some_iff.1 hb).1
    obtain ⟨c1, h1, h2, h3⟩ := h.cells b c e fr hb
    obtain ⟨c2, k1, k2, k3⟩ := k.cells b c1 e fr h1
    exact ⟨c2, k1, k2.trans h2, fun o ho => (k3 o fun hown => ho (h.own b o hlt hown)).trans (h3 o ho)⟩
  objs := fun b o hb hc ho => by
    have hlt : b < w.heap.size := (Array.getElem?_eq_some_iff.1 hb).1
    exact k.objs b o (h.objs b o hb hc ho) hc fun hown => ho (h.own b 0 hlt hown)
  loops := fun b l hb => let ⟨l', h1⟩ := h.loops b l hb; k.loops b l' h1
  inj := fun id r hr => k.inj id r (h.inj id r hr)
  n := Nat.le_trans h.n k.n
  immMono := fun b o hi => k.immMono b o (h.immMono b o hi)
  immOld := fun b o hlt hi => by
    rcases k.immOld b o (Nat.lt_of_lt_of_le hlt h.size) hi with h1 | h1
    · exact h.immOld b o hlt h1
    · exact .inr (h.own b o hlt h1)
  own := fun b o hlt hown => h.own b o hlt (k.own b o (Nat.lt_of_lt_of_le hlt h.size) hown)

theorem cell (h : Ext I ι H w I' ι' H' w') {b o : Nat} {v : Value} (hc : w.cell? ⟨b, o, none⟩ = some v) (ho : ¬ Own ι H b o) : w'.cell? ⟨b, o, none⟩ = some v := by
  obtain ⟨c, e, fr, h1, h2⟩ := cell?_eq.1 hc
  obtain ⟨c', h3, _, h4⟩ := h.cells b c e fr h1
  exact cell?_eq.2 ⟨c', e, fr, h3, (h4 o ho).trans h2⟩

theorem immCell (h : Ext I ι H w I' ι' H' w') (hr : RelH I ι H w) : ∀ b o v, I b o → w.cell? ⟨b, o, none⟩ = some v → w'.cell? ⟨b, o, none⟩ = some v :=
  fun b o _ hi hc => h.cell hc (hr.imm b o hi).2

theorem vr (h : Ext I ι H w I' ι' H' w') (hr : RelH I ι H w) {x : AV} {v : Value} (hx : VR I ι w x v) : VR I' ι' w' x v :=
  hx.mono h.immMono (h.immCell hr) h.inj

theorem vrs (h : Ext I ι H w I' ι' H' w') (hr : RelH I ι H w) {x : List AV} {v : List Value} (hx : VRs I ι w x v) : VRs I' ι' w' x v :=
  hx.mono h.immMono (h.immCell hr) h.inj
end Ext

/-- The package-level variables whose cells are known. -/
def GlobOK (E : Env) (I : Imm) (w : World) : Prop := ∀ g ds, E.glob g = some ds → CellsD I w g 0 ds

theorem GlobOK.ext {E : Env} {I I' : Imm} {ι ι' : Inj} {H H' : Heap} {w w' : World} (hg : GlobOK E I w) (h : Ext I ι H w I' ι' H' w') (hr : RelH I ι H w) : GlobOK E I' w' :=
  fun g ds hd => (hg g ds hd).mono h.immMono (h.immCell hr)

end Go.Ab

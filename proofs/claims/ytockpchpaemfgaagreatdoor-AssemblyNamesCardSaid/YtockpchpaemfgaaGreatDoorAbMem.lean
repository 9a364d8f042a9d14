/- Changes of the abstract memory and of the model's, side by side. -/
import Derived.Test.YtockpchpaemfgaaGreatDoorAbRel
set_option linter.all false
namespace Go.Ab

theorem cell?_congr {w w' : World} {b o : Nat} (h : w'.heap[b]? = w.heap[b]?) : w'.cell? ⟨b, o, none⟩ = w.cell? ⟨b, o, none⟩ := by
  unfold World.cell?; dsimp only; rw [h]
theorem frozen?_congr {w w' : World} {b o : Nat} (h : w'.heap[b]? = w.heap[b]?) : w'.frozen? ⟨b, o, none⟩ = w.frozen? ⟨b, o, none⟩ := by
  unfold World.frozen?; dsimp only; rw [h]

/-- A block's place reads as before if its cells or its object do. -/
theorem BR.mono {I I' : Imm} {ι ι' : Inj} {w w' : World} {B : Blk} {r : Nat × Nat × Nat}
    (hI : ∀ b o, I b o → I' b o)
    (hw : ∀ b o v, I b o → w.cell? ⟨b, o, none⟩ = some v → w'.cell? ⟨b, o, none⟩ = some v)
    (hι : ∀ b r, ι b = some r → ι' b = some r)
    (hc : ∀ (b : Nat) c e fr, w.heap[b]? = some (Obj.cells c e fr) → ∃ c', w'.heap[b]? = some (Obj.cells c' e fr) ∧ ∀ o, InR r B b o → c'[o]? = c[o]?)
    (ho : ∀ (b : Nat) o, w.heap[b]? = some o → (∀ c e fr, o ≠ Obj.cells c e fr) → InR r B b 0 → w'.heap[b]? = some o)
    (h : BR I ι w B r) : BR I' ι' w' B r := by
  cases B with
  | dead => trivial
  | cells m cs =>
    obtain ⟨h0, h1, hi0, h2, h3, h4⟩ := h
    have hcell : ∀ i v, i < r.2.2 → w.cell? ⟨r.1, r.2.1 + i, none⟩ = some v → w'.cell? ⟨r.1, r.2.1 + i, none⟩ = some v := by
      intro i v hi hv
      by_cases him : i < m
      · exact hw _ _ _ (hi0 i him) hv
      obtain ⟨c, e, fr, hb, hcv⟩ := cell?_eq.1 hv
      obtain ⟨c', hb', hc'⟩ := hc _ c e fr hb
      exact cell?_eq.2 ⟨c', e, fr, hb', (hc' _ ⟨rfl, by omega, by omega⟩).trans hcv⟩
    refine ⟨h0, h1, fun i hi => hI _ _ (hi0 i hi), fun i hi => ?_, fun i hi => ?_, fun i x hx => ?_⟩
    · obtain ⟨v, hv⟩ := h2 i hi; exact ⟨v, hcell i v hi hv⟩
    · obtain ⟨v, hv⟩ := h2 i hi
      obtain ⟨c, e, fr, hb, _⟩ := cell?_eq.1 hv
      obtain ⟨c', hb', _⟩ := hc _ c e fr hb
      have := h3 i hi
      unfold World.frozen? at this ⊢
      dsimp only at this ⊢
      rw [hb] at this; rw [hb']; exact this
    · obtain ⟨v, hv, hx'⟩ := h4 i x hx
      have hi : i < r.2.2 := Nat.lt_of_lt_of_le (List.getElem?_eq_some_iff.1 hx).1 h1
      exact ⟨v, hcell i v hi hv, hx'.mono hI hw hι⟩
  | map es =>
    obtain ⟨ents, clock, h1, h2, h3, h4⟩ := h
    exact ⟨ents, clock, ho _ _ h1 (by simp) rfl, h2.mono hI hw hι, h3.mono hI hw hι, h4⟩
  | loop f t p a b s j =>
    obtain ⟨l, h1, h2, h3, h4, h5, h6, h7, h8, h9⟩ := h
    exact ⟨l, ho _ _ h1 (by simp) rfl, h2, h3, h4, h5, h6, h7, h8.mono hI hw hι, h9⟩
  | iter s p => exact ⟨ho _ _ h.1 (by simp) rfl, h.2⟩
  | miter mb s l q =>
    obtain ⟨⟨r', h1, h2⟩, h3⟩ := h
    exact ⟨⟨r', hι _ _ h1, ho _ _ h2 (by simp) rfl⟩, h3⟩

def Inj.put (ι : Inj) (id : Nat) (r : Nat × Nat × Nat) : Inj := fun j => if j = id then some r else ι j
theorem Inj.put_same {ι : Inj} {id : Nat} {r : Nat × Nat × Nat} : ι.put id r id = some r := by simp [Inj.put]
theorem Inj.put_ne {ι : Inj} {id j : Nat} {r : Nat × Nat × Nat} (h : j ≠ id) : ι.put id r j = ι j := by simp [Inj.put, h]
theorem Inj.put_mono {ι : Inj} {id : Nat} {r : Nat × Nat × Nat} (h : ι id = none) : ∀ b s, ι b = some s → ι.put id r b = some s := by
  intro b s hb
  by_cases hbi : b = id
  · subst hbi; rw [h] at hb; cases hb
  · rw [Inj.put_ne hbi]; exact hb

abbrev wpush (w : World) (o : Obj) : World := { w with heap := w.heap.push o }

theorem wpush_old {w : World} {o : Obj} {b : Nat} (h : b < w.heap.size) : (wpush w o).heap[b]? = w.heap[b]? := by
  simp [wpush, Array.getElem?_push, Nat.ne_of_lt h]
theorem wpush_new {w : World} {o : Obj} : (wpush w o).heap[w.heap.size]? = some o := by simp [wpush]
theorem wpush_some {w : World} {o x : Obj} {b : Nat} (h : w.heap[b]? = some x) : (wpush w o).heap[b]? = some x := by
  rw [wpush_old (Array.getElem?_eq_some_iff.1 h).1]; exact h

/-- A new block. -/
theorem newBlk' {I I' : Imm} {ι : Inj} {H H' : Heap} {w : World} (hr : RelH I ι H w) (x : Blk) (o : Obj) (id ext : Nat)
    (hI : ∀ b o, I b o → I' b o) (hnew : ∀ b o', I' b o' → I b o' ∨ (b = w.heap.size ∧ (∃ v, (wpush w o).cell? ⟨b, o', none⟩ = some v) ∧ ¬ InR (w.heap.size, 0, ext) x b o'))
    (hid : ι id = none) (hwf : H'.WF) (hn : H.n ≤ H'.n) (hlt : id < H'.n) (hx : H'.get id = x) (hold : ∀ j, j ≠ id → H'.get j = H.get j)
    (hext : ∀ b o', InR (w.heap.size, 0, ext) x b o' → b = w.heap.size)
    (hbr : BR I' (ι.put id (w.heap.size, 0, ext)) (wpush w o) x (w.heap.size, 0, ext)) :
    RelH I' (ι.put id (w.heap.size, 0, ext)) H' (wpush w o) ∧ Ext I ι H w I' (ι.put id (w.heap.size, 0, ext)) H' (wpush w o) := by
  have hne : ∀ j r, ι j = some r → j ≠ id := fun j r hj e => by subst e; rw [hid] at hj; cases hj
  have hcell : ∀ b o' v, w.cell? ⟨b, o', none⟩ = some v → (wpush w o).cell? ⟨b, o', none⟩ = some v := fun b o' v hv => by
    rw [cell?_congr (wpush_old (cell?_lt hv))]; exact hv
  have hInlt : ∀ j r, ι j = some r → ∀ b o', InR r (H.get j) b o' → b < w.heap.size := by
    intro j r hj b o' hin
    have := (hr.lt j r hj).2
    cases hB : H.get j <;> rw [hB] at hin <;> simp only [InR] at hin
    · rw [hin.1]; exact this
    · rw [hin]; exact this
    · rw [hin]; exact this
    · rw [hin]; exact this
    · rw [hin]; exact this
  refine ⟨⟨hwf, fun j r hj => ?_, fun j hj => ?_, fun j r hj => ?_, fun i j ri rj hij hi hj b o' h1 h2 => ?_, fun b o' hi => ⟨?_, ?_⟩⟩,
    ⟨rfl, rfl, rfl, Nat.le_refl _, by simp [wpush], fun b c e fr hb => ⟨c, wpush_some hb, rfl, fun _ _ => rfl⟩, fun b o' hb _ _ => wpush_some hb, fun b l hb => ⟨l, wpush_some hb⟩,
      Inj.put_mono hid, hn, hI, fun b o' hlt' h => ?_, fun b o' hlt' hown => ?_⟩⟩
  · by_cases hji : j = id
    · subst hji; rw [Inj.put_same] at hj; cases hj; exact ⟨hlt, by simp [wpush]⟩
    · rw [Inj.put_ne hji] at hj
      exact ⟨Nat.lt_of_lt_of_le (hr.lt j r hj).1 hn, by have := (hr.lt j r hj).2; simp [wpush]; omega⟩
  · by_cases hji : j = id
    · subst hji; exact ⟨_, Inj.put_same⟩
    · rw [hold j hji] at hj; rw [Inj.put_ne hji]; exact hr.live j hj
  · by_cases hji : j = id
    · subst hji; rw [Inj.put_same] at hj; cases hj; rw [hx]; exact hbr
    · rw [Inj.put_ne hji] at hj; rw [hold j hji]
      exact (hr.blk j r hj).mono hI (fun b o' v _ hv => hcell b o' v hv) (Inj.put_mono hid)
        (fun b c e fr hb => ⟨c, wpush_some hb, fun _ _ => rfl⟩) (fun b o' hb _ _ => wpush_some hb)
  · have key : ∀ j rj, j ≠ id → ι.put id (w.heap.size, 0, ext) j = some rj → InR rj (H'.get j) b o' → b < w.heap.size := by
      intro j rj hji hj h
      rw [Inj.put_ne hji] at hj; rw [hold j hji] at h
      exact hInlt j rj hj b o' h
    by_cases hii : i = id
    · have hji : j ≠ id := fun e => hij (hii.trans e.symm)
      subst hii; rw [Inj.put_same] at hi; cases hi; rw [hx] at h1
      have := hext b o' h1
      have := key j rj hji hj h2
      omega
    · by_cases hji : j = id
      · subst hji; rw [Inj.put_same] at hj; cases hj; rw [hx] at h2
        have := hext b o' h2
        have := key i ri hii hi h1
        omega
      · rw [Inj.put_ne hii] at hi; rw [Inj.put_ne hji] at hj; rw [hold i hii] at h1; rw [hold j hji] at h2
        exact hr.sep i j ri rj hij hi hj b o' h1 h2
  · rcases hnew b o' hi with hi | ⟨_, hi, _⟩
    · obtain ⟨v, hv⟩ := (hr.imm b o' hi).1; exact ⟨v, hcell b o' v hv⟩
    · exact hi
  · rintro ⟨j, r, hj, hin⟩
    rcases hnew b o' hi with hi | ⟨hb, _, hni⟩
    · by_cases hji : j = id
      · subst hji; rw [Inj.put_same] at hj; cases hj; rw [hx] at hin
        obtain ⟨v, hv⟩ := (hr.imm b o' hi).1
        have := cell?_lt hv
        have := hext b o' hin
        omega
      · rw [Inj.put_ne hji] at hj; rw [hold j hji] at hin
        exact (hr.imm b o' hi).2 ⟨j, r, hj, hin⟩
    · by_cases hji : j = id
      · subst hji; rw [Inj.put_same] at hj; cases hj; rw [hx] at hin
        exact hni hin
      · rw [Inj.put_ne hji] at hj; rw [hold j hji] at hin
        have := hInlt j r hj b o' hin
        omega
  · rcases hnew b o' h with h | ⟨hb, _⟩
    · exact .inl h
    · omega
  · obtain ⟨j, r, hj, hin⟩ := hown
    by_cases hji : j = id
    · subst hji; rw [Inj.put_same] at hj; cases hj; rw [hx] at hin
      have := hext b o' hin
      omega
    · rw [Inj.put_ne hji] at hj; rw [hold j hji] at hin
      exact ⟨j, r, hj, hin⟩

theorem newBlk {I : Imm} {ι : Inj} {H H' : Heap} {w : World} (hr : RelH I ι H w) (x : Blk) (o : Obj) (id ext : Nat)
    (hid : ι id = none) (hwf : H'.WF) (hn : H.n ≤ H'.n) (hlt : id < H'.n) (hx : H'.get id = x) (hold : ∀ j, j ≠ id → H'.get j = H.get j)
    (hext : ∀ b o', InR (w.heap.size, 0, ext) x b o' → b = w.heap.size)
    (hbr : BR I (ι.put id (w.heap.size, 0, ext)) (wpush w o) x (w.heap.size, 0, ext)) :
    RelH I (ι.put id (w.heap.size, 0, ext)) H' (wpush w o) ∧ Ext I ι H w I (ι.put id (w.heap.size, 0, ext)) H' (wpush w o) :=
  newBlk' hr x o id ext (fun _ _ h => h) (fun _ _ h => .inl h) hid hwf hn hlt hx hold hext hbr

/-- A change within one live block. -/
theorem updBlk {I : Imm} {ι : Inj} {H : Heap} {w w' : World} (hr : RelH I ι H w) {b : Nat} {r : Nat × Nat × Nat} (hb : ι b = some r) (x : Blk)
    (hos : w'.os = w.os) (hout : w'.output = w.output) (htape : w'.tape = w.tape) (hdrawn : w'.drawn = w.drawn) (hsize : w'.heap.size = w.heap.size)
    (hcells : ∀ (b' : Nat) c e fr, w.heap[b']? = some (Obj.cells c e fr) → ∃ c', w'.heap[b']? = some (Obj.cells c' e fr) ∧ c'.size = c.size ∧ ∀ o, ¬ InR r (H.get b) b' o → c'[o]? = c[o]?)
    (hobjs : ∀ (b' : Nat) o, w.heap[b']? = some o → (∀ c e fr, o ≠ Obj.cells c e fr) → ¬ InR r (H.get b) b' 0 → w'.heap[b']? = some o)
    (hloops : ∀ (b' : Nat) l, w.heap[b']? = some (Obj.loop l) → ∃ l', w'.heap[b']? = some (Obj.loop l'))
    (hIn : ∀ b' o, InR r x b' o → InR r (H.get b) b' o)
    (hbr : (∀ y v, VR I ι w y v → VR I ι w' y v) → BR I ι w' x r) :
    RelH I ι (H.set b x) w' ∧ Ext I ι H w I ι (H.set b x) w' ∧ (∀ y v, VR I ι w y v → VR I ι w' y v) := by
  have hcell : ∀ b' o v, ¬ InR r (H.get b) b' o → w.cell? ⟨b', o, none⟩ = some v → w'.cell? ⟨b', o, none⟩ = some v := by
    intro b' o v hn hv
    obtain ⟨c, e, fr, h1, h2⟩ := cell?_eq.1 hv
    obtain ⟨c', h3, _, h4⟩ := hcells b' c e fr h1
    exact cell?_eq.2 ⟨c', e, fr, h3, (h4 o hn).trans h2⟩
  have himm : ∀ b' o v, I b' o → w.cell? ⟨b', o, none⟩ = some v → w'.cell? ⟨b', o, none⟩ = some v := fun b' o v hi hv =>
    hcell b' o v (fun hin => (hr.imm b' o hi).2 ⟨b, r, hb, hin⟩) hv
  have hvr : ∀ y v, VR I ι w y v → VR I ι w' y v := fun y v h => h.mono (fun _ _ h => h) himm (fun _ _ h => h)
  have hlt := (hr.lt b r hb).1
  have hget : ∀ j, j ≠ b → (H.set b x).get j = H.get j := fun j hj => Heap.get_set_ne hj
  have hsame : (H.set b x).get b = x := Heap.get_set_same hr.wf hlt
  have hsub : ∀ j s, ι j = some s → ∀ b' o, InR s ((H.set b x).get j) b' o → InR s (H.get j) b' o := by
    intro j s hj b' o hin
    by_cases hjb : j = b
    · subst hjb; rw [hsame] at hin; rw [hb] at hj; cases hj; exact hIn b' o hin
    · rw [hget j hjb] at hin; exact hin
  have hown : ∀ b' o, Own ι (H.set b x) b' o → Own ι H b' o := fun b' o ⟨j, s, hj, hin⟩ => ⟨j, s, hj, hsub j s hj b' o hin⟩
  refine ⟨⟨Heap.wf_set hr.wf, fun j s hj => ⟨by rw [Heap.n_set]; exact (hr.lt j s hj).1, by rw [hsize]; exact (hr.lt j s hj).2⟩, fun j hj => ?_, fun j s hj => ?_,
      fun i j ri rj hij hi hj b' o h1 h2 => hr.sep i j ri rj hij hi hj b' o (hsub i ri hi b' o h1) (hsub j rj hj b' o h2), fun b' o hi => ⟨?_, fun h => (hr.imm b' o hi).2 (hown b' o h)⟩⟩,
    ⟨hos, hout, htape, by omega, by omega, fun b' c e fr h => ?_, fun b' o h1 h2 h3 => hobjs b' o h1 h2 fun hin => h3 ⟨b, r, hb, hin⟩, hloops, fun _ _ h => h, by rw [Heap.n_set]; exact Nat.le_refl _, fun _ _ h => h, fun _ _ _ h => .inl h, fun b' o _ h => hown b' o h⟩, hvr⟩
  · by_cases hjb : j = b
    · subst hjb; exact ⟨r, hb⟩
    · rw [hget j hjb] at hj; exact hr.live j hj
  · by_cases hjb : j = b
    · subst hjb; rw [hsame]; rw [hb] at hj; cases hj; exact hbr hvr
    · rw [hget j hjb]
      have hdis : ∀ b' o, InR s (H.get j) b' o → ¬ InR r (H.get b) b' o := fun b' o h1 h2 => hr.sep j b s r hjb hj hb b' o h1 h2
      exact (hr.blk j s hj).mono (fun _ _ h => h) himm (fun _ _ h => h)
        (fun b' c e fr h => let ⟨c', h1, _, h3⟩ := hcells b' c e fr h; ⟨c', h1, fun o ho => h3 o (hdis b' o ho)⟩)
        (fun b' o h1 h2 h3 => hobjs b' o h1 h2 (hdis b' 0 h3))
  · obtain ⟨v, hv⟩ := (hr.imm b' o hi).1; exact ⟨v, himm b' o v hi hv⟩
  · obtain ⟨c', h1, h2, h3⟩ := hcells b' c e fr h
    exact ⟨c', h1, h2, fun o ho => h3 o fun hin => ho ⟨b, r, hb, hin⟩⟩

/-- A block that nobody will use any more. -/
theorem killBlk {I : Imm} {ι : Inj} {H : Heap} {w : World} (hr : RelH I ι H w) (b : Nat) : RelH I ι (H.set b .dead) w ∧ Ext I ι H w I ι (H.set b .dead) w := by
  by_cases hlt : b < H.n
  · have hsame : (H.set b .dead).get b = .dead := Heap.get_set_same hr.wf hlt
    have hsub : ∀ j s, ι j = some s → ∀ b' o, InR s ((H.set b .dead).get j) b' o → InR s (H.get j) b' o := by
      intro j s hj b' o hin
      by_cases hjb : j = b
      · subst hjb; rw [hsame] at hin; exact hin.elim
      · rw [Heap.get_set_ne hjb] at hin; exact hin
    have hown : ∀ b' o, Own ι (H.set b .dead) b' o → Own ι H b' o := fun b' o ⟨j, s, hj, hin⟩ => ⟨j, s, hj, hsub j s hj b' o hin⟩
    refine ⟨⟨Heap.wf_set hr.wf, fun j s hj => ⟨by rw [Heap.n_set]; exact (hr.lt j s hj).1, (hr.lt j s hj).2⟩, fun j hj => ?_, fun j s hj => ?_,
        fun i j ri rj hij hi hj b' o h1 h2 => hr.sep i j ri rj hij hi hj b' o (hsub i ri hi b' o h1) (hsub j rj hj b' o h2), fun b' o hi => ⟨(hr.imm b' o hi).1, fun h => (hr.imm b' o hi).2 (hown b' o h)⟩⟩,
      ⟨rfl, rfl, rfl, Nat.le_refl _, Nat.le_refl _, fun _ c _ _ h => ⟨c, h, rfl, fun _ _ => rfl⟩, fun _ _ h _ _ => h, fun _ l h => ⟨l, h⟩, fun _ _ h => h, by rw [Heap.n_set]; exact Nat.le_refl _, fun _ _ h => h, fun _ _ _ h => .inl h, fun b' o _ h => hown b' o h⟩⟩
    · by_cases hjb : j = b
      · subst hjb; rw [hsame] at hj; exact absurd rfl hj
      · rw [Heap.get_set_ne hjb] at hj; exact hr.live j hj
    · by_cases hjb : j = b
      · subst hjb; rw [hsame]; trivial
      · rw [Heap.get_set_ne hjb]; exact hr.blk j s hj
  · have : H.set b .dead = H := Heap.set_other hlt
    rw [this]; exact ⟨hr, Ext.refl I ι H w⟩

/-- The first m' cells of a block become immutable. -/
def Imm.with (I : Imm) (k o m : Nat) : Imm := fun b o' => I b o' ∨ (b = k ∧ o ≤ o' ∧ o' < o + m)
theorem iceBlk {I : Imm} {ι : Inj} {H : Heap} {w : World} (hr : RelH I ι H w) {b m m' : Nat} {cs : List AV} {r : Nat × Nat × Nat} (hb : ι b = some r)
    (hg : H.get b = .cells m cs) (hm : m ≤ m') (hm' : m' ≤ cs.length) :
    RelH (I.with r.1 r.2.1 m') ι (H.set b (.cells m' cs)) w ∧ Ext I ι H w (I.with r.1 r.2.1 m') ι (H.set b (.cells m' cs)) w := by
  have hlt := (hr.lt b r hb).1
  have hget : ∀ j, j ≠ b → (H.set b (.cells m' cs)).get j = H.get j := fun j hj => Heap.get_set_ne hj
  have hsame : (H.set b (.cells m' cs)).get b = .cells m' cs := Heap.get_set_same hr.wf hlt
  have hbr := hr.blk b r hb
  rw [hg] at hbr
  obtain ⟨h0, h1, hi0, h2, h3, h4⟩ := hbr
  have hI : ∀ b o, I b o → I.with r.1 r.2.1 m' b o := fun _ _ h => .inl h
  have hsub : ∀ j s, ι j = some s → ∀ b' o, InR s ((H.set b (.cells m' cs)).get j) b' o → InR s (H.get j) b' o := by
    intro j s hj b' o hin
    by_cases hjb : j = b
    · subst hjb; rw [hsame] at hin; rw [hg]; exact ⟨hin.1, by have := hin.2.1; omega, hin.2.2⟩
    · rw [hget j hjb] at hin; exact hin
  have hown : ∀ b' o, Own ι (H.set b (.cells m' cs)) b' o → Own ι H b' o := fun b' o ⟨j, s, hj, hin⟩ => ⟨j, s, hj, hsub j s hj b' o hin⟩
  refine ⟨⟨Heap.wf_set hr.wf, fun j s hj => ⟨by rw [Heap.n_set]; exact (hr.lt j s hj).1, (hr.lt j s hj).2⟩, fun j hj => ?_, fun j s hj => ?_,
      fun i j ri rj hij hi hj b' o h1 h2 => hr.sep i j ri rj hij hi hj b' o (hsub i ri hi b' o h1) (hsub j rj hj b' o h2), fun b' o hi => ⟨?_, ?_⟩⟩,
    ⟨rfl, rfl, rfl, Nat.le_refl _, Nat.le_refl _, fun _ c _ _ h => ⟨c, h, rfl, fun _ _ => rfl⟩, fun _ _ h _ _ => h, fun _ l h => ⟨l, h⟩, fun _ _ h => h, by rw [Heap.n_set]; exact Nat.le_refl _, hI, fun b' o _ h => ?_, fun b' o _ h => hown b' o h⟩⟩
  · by_cases hjb : j = b
    · subst hjb; exact ⟨r, hb⟩
    · rw [hget j hjb] at hj; exact hr.live j hj
  · by_cases hjb : j = b
    · subst hjb; rw [hb] at hj; cases hj; rw [hsame]
      refine ⟨hm', h1, fun i hi => .inr ⟨rfl, by omega, by omega⟩, h2, h3, fun i x hx => ?_⟩
      obtain ⟨v, hv, hx'⟩ := h4 i x hx
      exact ⟨v, hv, hx'.mono hI (fun _ _ _ _ h => h) (fun _ _ h => h)⟩
    · rw [hget j hjb]
      exact (hr.blk j s hj).mono hI (fun _ _ _ _ h => h) (fun _ _ h => h) (fun b c e fr h => ⟨c, h, fun _ _ => rfl⟩) (fun _ _ h _ _ => h)
  · rcases hi with hi | ⟨rfl, ho1, ho2⟩
    · exact (hr.imm b' o hi).1
    · obtain ⟨v, hv⟩ := h2 (o - r.2.1) (by omega)
      rw [show r.2.1 + (o - r.2.1) = o by omega] at hv
      exact ⟨v, hv⟩
  · intro h
    rcases hi with hi | ⟨rfl, ho1, ho2⟩
    · exact (hr.imm b' o hi).2 (hown b' o h)
    · obtain ⟨j, s, hj, hin⟩ := h
      by_cases hjb : j = b
      · subst hjb; rw [hsame] at hin; rw [hb] at hj; cases hj; have := hin.2.1; omega
      · rw [hget j hjb] at hin
        by_cases hom : o < r.2.1 + m
        · refine (hr.imm r.1 o ?_).2 ⟨j, s, hj, hin⟩
          have := hi0 (o - r.2.1) (by omega)
          rw [show r.2.1 + (o - r.2.1) = o by omega] at this
          exact this
        · exact hr.sep j b s r hjb hj hb r.1 o hin (by rw [hg]; exact ⟨rfl, by omega, by omega⟩)
  · rcases h with h | ⟨rfl, ho1, ho2⟩
    · exact .inl h
    · by_cases hom : o < r.2.1 + m
      · left
        have := hi0 (o - r.2.1) (by omega)
        rw [show r.2.1 + (o - r.2.1) = o by omega] at this
        exact this
      · exact .inr ⟨b, r, hb, by rw [hg]; exact ⟨rfl, by omega, by omega⟩⟩

/-- Room for blocks to come. -/
theorem reserveBlk {I : Imm} {ι : Inj} {H : Heap} {w : World} (hr : RelH I ι H w) (n : Nat) : RelH I ι (H.reserve n) w ∧ Ext I ι H w I ι (H.reserve n) w := by
  have hown : ∀ b' o, Own ι (H.reserve n) b' o → Own ι H b' o := fun b' o ⟨j, s, hj, hin⟩ => ⟨j, s, hj, by rw [Heap.get_reserve hr.wf] at hin; exact hin⟩
  refine ⟨⟨Heap.wf_reserve hr.wf n, fun j s hj => ⟨by rw [Heap.n_reserve]; have := (hr.lt j s hj).1; omega, (hr.lt j s hj).2⟩, fun j hj => ?_, fun j s hj => ?_,
      fun i j ri rj hij hi hj b' o h1 h2 => ?_, fun b' o hi => ⟨(hr.imm b' o hi).1, fun h => (hr.imm b' o hi).2 (hown b' o h)⟩⟩,
    ⟨rfl, rfl, rfl, Nat.le_refl _, Nat.le_refl _, fun _ c _ _ h => ⟨c, h, rfl, fun _ _ => rfl⟩, fun _ _ h _ _ => h, fun _ l h => ⟨l, h⟩, fun _ _ h => h, by rw [Heap.n_reserve]; omega, fun _ _ h => h, fun _ _ _ h => .inl h, fun b' o _ h => hown b' o h⟩⟩
  · rw [Heap.get_reserve hr.wf] at hj; exact hr.live j hj
  · rw [Heap.get_reserve hr.wf]; exact hr.blk j s hj
  · rw [Heap.get_reserve hr.wf] at h1 h2; exact hr.sep i j ri rj hij hi hj b' o h1 h2

-- ---------------------------------------------------------------- cells of the model
def setAll (c : Array Value) (off : Nat) : List Value → Array Value
  | [] => c
  | v :: vs => setAll (c.setIfInBounds off v) (off + 1) vs

theorem size_setAll (vs : List Value) : ∀ (c : Array Value) (off : Nat), (setAll c off vs).size = c.size := by
  induction vs with
  | nil => intro c off; rfl
  | cons v vs ih => intro c off; rw [setAll, ih]; simp

theorem get_setAll (vs : List Value) : ∀ (c : Array Value) (off o : Nat), o < c.size →
    (setAll c off vs)[o]? = if off ≤ o ∧ o < off + vs.length then vs[o - off]? else c[o]? := by
  induction vs with
  | nil => intro c off o ho; rw [setAll, if_neg (by simp)]
  | cons v vs ih =>
    intro c off o ho
    rw [setAll, ih _ _ _ (by simpa using ho)]
    by_cases h1 : off + 1 ≤ o ∧ o < off + 1 + vs.length
    · rw [if_pos h1, if_pos ⟨by omega, by simp; omega⟩]
      obtain ⟨k, hk⟩ : ∃ k, o - off = k + 1 := ⟨o - off - 1, by omega⟩
      rw [hk, show o - (off + 1) = k by omega]; rfl
    · rw [if_neg h1]
      by_cases h2 : off = o
      · subst h2
        rw [if_pos ⟨Nat.le_refl _, by simp⟩]
        simp [ho]
      · rw [if_neg (by simp; omega), Array.getElem?_setIfInBounds_ne h2]

def wset (w : World) (blk off : Nat) (vs : List Value) : World :=
  { w with heap := w.heap.modify blk fun
      | .cells c e fr => .cells (setAll c off vs) e fr
      | o => o }

theorem wset_size {w : World} {blk off : Nat} {vs : List Value} : (wset w blk off vs).heap.size = w.heap.size := by simp [wset]
theorem wset_ne {w : World} {blk off b : Nat} {vs : List Value} (h : b ≠ blk) : (wset w blk off vs).heap[b]? = w.heap[b]? := by
  simp [wset, Array.getElem?_modify, Ne.symm h]
theorem wset_cells {w : World} {blk off : Nat} {vs : List Value} {c : Array Value} {e : TypeId} {fr : Nat × Nat} (h : w.heap[blk]? = some (.cells c e fr)) :
    (wset w blk off vs).heap[blk]? = some (.cells (setAll c off vs) e fr) := by
  simp [wset, Array.getElem?_modify, h]
theorem wset_obj {w : World} {blk off : Nat} {vs : List Value} {o : Obj} (h : w.heap[blk]? = some o) (ho : ∀ c e fr, o ≠ Obj.cells c e fr) :
    (wset w blk off vs).heap[blk]? = some o := by
  cases o <;> first | exact absurd rfl (ho _ _ _) | simp [wset, Array.getElem?_modify, h]

theorem World.setCell_wset {w : World} {blk off : Nat} {v : Value} : w.setCell ⟨blk, off, none⟩ v = wset w blk off [v] := rfl

theorem wset_nil {w : World} {blk off : Nat} : wset w blk off [] = w := by
  unfold wset setAll
  obtain ⟨heap, tape, drawn, os, output⟩ := w
  simp only [World.mk.injEq, and_true]
  apply Array.ext_getElem?
  intro k
  rw [Array.getElem?_modify]
  split
  · cases hk : heap[k]? with
    | none => rfl
    | some o => cases o <;> rfl
  · rfl

theorem wset_cons {w : World} {blk off : Nat} {v : Value} {vs : List Value} : wset (wset w blk off [v]) blk (off + 1) vs = wset w blk off (v :: vs) := by
  unfold wset
  congr 1
  apply Array.ext_getElem?
  intro i
  simp only [Array.getElem?_modify]
  by_cases h : blk = i
  · subst h
    simp only [if_true]
    cases w.heap[blk]? with
    | none => rfl
    | some o => cases o <;> rfl
  · simp [h]

theorem Addr.add_none (b o n : Nat) : (⟨b, o, none⟩ : Addr).add n = ⟨b, o + n, none⟩ := by
  unfold Addr.add; split
  · subst_vars; simp
  · rfl

/-- A row of stores. -/
theorem run_storeCells {P : Program} {blk : Nat} (vs : List Value) : ∀ (off i : Nat) (w : World), vs.all oneCell = true →
    (∀ k, k < vs.length → ∃ v, w.cell? ⟨blk, off + i + k, none⟩ = some v) → (∀ k, k < vs.length → w.frozen? ⟨blk, off + i + k, none⟩ = false) →
    (storeCells ⟨blk, off, none⟩ vs i).run P w = .ok () (wset w blk (off + i) vs) := by
  induction vs with
  | nil =>
    intro off i w _ _ _
    simp only [storeCells, Sem.run_pure, wset_nil]
  | cons v vs ih =>
    intro off i w h1 h2 h3
    simp only [List.all_cons, Bool.and_eq_true] at h1
    obtain ⟨u, hu⟩ := h2 0 (by simp)
    have hf := h3 0 (by simp)
    simp only [Nat.add_zero] at hu hf
    have hone : v.oneCell' = true := by
      have := h1.1
      cases v <;> simp_all [oneCell, Value.oneCell']
    simp only [storeCells, Sem.run_bind]
    rw [run_store P w _ v _ hone]
    rw [Addr.add_none, hu]
    simp only [hf, Bool.false_eq_true, if_false, Result.andThen_ok]
    rw [World.setCell_wset]
    have hcell : ∀ k, w.cell? ⟨blk, k, none⟩ ≠ none → ∃ u, (wset w blk (off + i) [v]).cell? ⟨blk, k, none⟩ = some u := by
      intro k hk
      cases hc : w.cell? ⟨blk, k, none⟩ with
      | none => exact absurd hc hk
      | some u' =>
        obtain ⟨c, e, fr, hb, hcv⟩ := cell?_eq.1 hc
        have hk' : k < c.size := (Array.getElem?_eq_some_iff.1 hcv).1
        refine ⟨(setAll c (off + i) [v])[k]'(by rw [size_setAll]; exact hk'), cell?_eq.2 ⟨_, e, fr, wset_cells hb, ?_⟩⟩
        simp
    rw [show i + 1 = i + 1 from rfl, ih off (i + 1) _ h1.2 ?_ ?_]
    · rw [show off + (i + 1) = off + i + 1 by omega, wset_cons]
    · intro k hk
      obtain ⟨u', hu'⟩ := h2 (k + 1) (by simp; omega)
      rw [show off + (i + 1) + k = off + i + (k + 1) by omega]
      exact hcell _ (by rw [hu']; simp)
    · intro k hk
      have hf' := h3 (k + 1) (by simp; omega)
      obtain ⟨u', hu'⟩ := h2 (k + 1) (by simp; omega)
      obtain ⟨c, e, fr, hb, hcv⟩ := cell?_eq.1 hu'
      rw [show off + (i + 1) + k = off + i + (k + 1) by omega]
      unfold World.frozen? at hf' ⊢
      dsimp only at hf' ⊢
      rw [hb] at hf'; rw [wset_cells hb]; exact hf'

/-- A row of loads. -/
theorem run_loadCellsFrom {P : Program} {blk off : Nat} {w : World} : ∀ (n i : Nat) (acc : Array Value) (vs : List Value), vs.length = n →
    (∀ (k : Nat) v, vs[k]? = some v → w.cell? ⟨blk, off + i + k, none⟩ = some v) →
    (loadCellsFrom ⟨blk, off, none⟩ i n acc).run P w = .ok (acc ++ vs.toArray) w := by
  intro n
  induction n with
  | zero => intro i acc vs hl _; have := List.eq_nil_of_length_eq_zero hl; subst this; simp [loadCellsFrom]
  | succ n ih =>
    intro i acc vs hl hv
    cases vs with
    | nil => simp at hl
    | cons v vs =>
      have h0 := hv 0 v rfl
      simp only [Nat.add_zero] at h0
      have hload : ∀ m, (load ⟨blk, off + i, none⟩ m).run P w = .ok v w := fun m => by rw [run_load, h0]
      simp only [loadCellsFrom, Sem.run_bind, Addr.add_none, hload, Result.andThen_ok]
      rw [ih (i + 1) _ vs (by simpa using hl) fun k u hk => by
        have := hv (k + 1) u (by simpa using hk)
        rw [show off + (i + 1) + k = off + i + (k + 1) by omega]; exact this]
      simp

theorem run_loadCells {P : Program} {blk off : Nat} {w : World} {vs : List Value} {n : Nat} (hl : vs.length = n)
    (hv : ∀ (k : Nat) v, vs[k]? = some v → w.cell? ⟨blk, off + k, none⟩ = some v) : (loadCells ⟨blk, off, none⟩ n).run P w = .ok vs.toArray w := by
  unfold loadCells
  rw [run_loadCellsFrom n 0 #[] vs hl (by simpa using hv)]
  simp

end Go.Ab

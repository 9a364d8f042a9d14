/- Two operations of a region that draws, in either order. -/
import Derived.Test.YtockpchpaemfgaaGreatDoorAbSim3
import Derived.Orders
set_option linter.all false
namespace Go.Ab

theorem T.set_set {α : Type} (t : T α) (i : Nat) (u v : α) : (t.set i u).set i v = t.set i v := by
  induction t generalizing i with
  | nil => rfl
  | one w => cases h : Nat.beq i 0 <;> simp [T.set, h]
  | node l r ihl ihr => cases h : Nat.beq (Nat.mod i 2) 0 <;> simp [T.set, h, ihl, ihr]

theorem setNth_setNth {α : Type} (f g : α → α) (h : ∀ a, f (g a) = f a) : ∀ (l : List α) (n : Nat), setNth f (setNth g l n) n = setNth f l n := by
  intro l
  induction l with
  | nil => intro n; rfl
  | cons a l ih => intro n; cases n <;> simp [setNth, h, ih]

theorem Heap.set_set {H : Heap} {b : Nat} {x y : Blk} : (H.set b x).set b y = H.set b y := by
  by_cases hb : H.n ≤ b
  · rw [Heap.set_eq H b x, if_pos hb]
  · rw [Heap.set_eq (H.set b x), Heap.n_set, if_neg hb, Heap.set_eq H b x, if_neg hb, Heap.set_eq H b y, if_neg hb]
    dsimp only
    rw [setNth_setNth]
    intro t; exact T.set_set _ _ _ _

-- ---------------------------------------------------------------- steps of writing
inductive Step where
  | put (c : Nat) (x : Blk)
  | raise (c m : Nat)

def Step.blk : Step → Nat
  | .put c _ => c
  | .raise c _ => c

def cont : Blk → Option (List AV)
  | .cells _ cs => some cs
  | _ => none

def Step.run : Step → Heap → Heap
  | .put c x, H => H.set c x
  | .raise c m, H => match H.get c with
    | .cells m0 cs => bif Nat.ble m m0 then H else H.set c (.cells m cs)
    | _ => H

def runS : List Step → Heap → Heap
  | [], H => H
  | s :: ss, H => runS ss (s.run H)

theorem runS_append (ss ts : List Step) (H : Heap) : runS (ss ++ ts) H = runS ts (runS ss H) := by
  induction ss generalizing H with
  | nil => rfl
  | cons s ss ih => exact ih _

theorem Step.n_run (s : Step) (H : Heap) : (s.run H).n = H.n := by
  cases s with
  | put c x => exact Heap.n_set
  | raise c m =>
    simp only [Step.run]
    split
    · cases Nat.ble m _ <;> simp [Heap.n_set]
    · rfl
theorem n_runS (ss : List Step) (H : Heap) : (runS ss H).n = H.n := by
  induction ss generalizing H with
  | nil => rfl
  | cons s ss ih => exact (ih _).trans (s.n_run H)

theorem Step.get_ne (s : Step) (H : Heap) {c : Nat} (h : c ≠ s.blk) : (s.run H).get c = H.get c := by
  cases s with
  | put d x => exact Heap.get_set_ne h
  | raise d m =>
    simp only [Step.run]
    split
    · cases Nat.ble m _
      · exact Heap.get_set_ne h
      · rfl
    · rfl
theorem runS_get {ss : List Step} {H : Heap} {c : Nat} (h : ∀ s ∈ ss, s.blk ≠ c) : (runS ss H).get c = H.get c := by
  induction ss generalizing H with
  | nil => rfl
  | cons s ss ih => exact (ih fun t ht => h t (.tail _ ht)).trans (s.get_ne H (Ne.symm (h s (.head _))))

def Step.isRaise : Step → Bool
  | .raise _ _ => true
  | _ => false

theorem Step.cont_run (s : Step) (H : Heap) (hs : s.isRaise = true) (c : Nat) : cont ((s.run H).get c) = cont (H.get c) := by
  cases s with
  | put d x => cases hs
  | raise d m =>
    by_cases hcd : c = d
    · subst hcd
      simp only [Step.run]
      split
      · rename_i m0 cs hg
        cases Nat.ble m m0
        · simp only [cond_false]
          rw [Heap.get_set_same' (by rw [hg]; simp), hg]; rfl
        · rfl
      · rfl
    · rw [Step.get_ne _ _ (by exact hcd)]
theorem runS_cont {ss : List Step} {H : Heap} {c : Nat} (h : ∀ s ∈ ss, s.blk ≠ c ∨ s.isRaise = true) : cont ((runS ss H).get c) = cont (H.get c) := by
  induction ss generalizing H with
  | nil => rfl
  | cons s ss ih =>
    refine (ih fun t ht => h t (.tail _ ht)).trans ?_
    rcases h s (.head _) with h | h
    · rw [s.get_ne H (Ne.symm h)]
    · exact s.cont_run H h c

theorem Step.comm {s t : Step} (h : s.blk ≠ t.blk ∨ (s.isRaise = true ∧ t.isRaise = true)) (H : Heap) : t.run (s.run H) = s.run (t.run H) := by
  have far : ∀ {s t : Step}, s.blk ≠ t.blk → ∀ H, t.run (s.run H) = s.run (t.run H) := by
    intro s t hne H
    cases s with
    | put c x =>
      cases t with
      | put d y => exact Heap.set_comm hne
      | raise d m =>
        have hg : (H.set c x).get d = H.get d := Heap.get_set_ne (Ne.symm hne)
        simp only [Step.run, hg]
        split
        · cases Nat.ble m _
          · exact Heap.set_comm hne
          · rfl
        · rfl
    | raise c k =>
      cases t with
      | put d y =>
        have hg : (H.set d y).get c = H.get c := Heap.get_set_ne hne
        simp only [Step.run, hg]
        split
        · cases Nat.ble k _
          · exact Heap.set_comm hne
          · rfl
        · rfl
      | raise d m =>
        have h1 : ((Step.raise c k).run H).get d = H.get d := Step.get_ne _ _ (Ne.symm hne)
        have h2 : ((Step.raise d m).run H).get c = H.get c := Step.get_ne _ _ hne
        show (match ((Step.raise c k).run H).get d with | .cells m0 cs => bif Nat.ble m m0 then _ else _ | _ => _) = (match ((Step.raise d m).run H).get c with | .cells m0 cs => bif Nat.ble k m0 then _ else _ | _ => _)
        rw [h1, h2]
        simp only [Step.run]
        cases hc : H.get c with
        | cells mc cc =>
          cases hd : H.get d with
          | cells md cd =>
            dsimp only
            cases Nat.ble m md <;> cases Nat.ble k mc <;> simp only [cond_true, cond_false]
            exact Heap.set_comm hne
          | _ => rfl
        | _ => cases hd : H.get d <;> rfl
  rcases h with h | ⟨h1, h2⟩
  · exact far h H
  · by_cases hne : s.blk = t.blk
    · cases s with
      | put c x => cases h1
      | raise c k =>
        cases t with
        | put d y => cases h2
        | raise d m =>
          have : c = d := hne
          subst this
          cases hc : H.get c with
          | cells m0 cs =>
            have hlive : H.get c ≠ .dead := by rw [hc]; simp
            have same : ∀ q, (H.set c (.cells q cs)).get c = .cells q cs := fun q => Heap.get_set_same' hlive
            by_cases a : k ≤ m0 <;> by_cases b : m ≤ m0
            · simp only [Step.run, hc, nble_t a, nble_t b, cond_true]
            · simp only [Step.run, hc, nble_t a, nble_f b, cond_true, cond_false, same]
              rw [nble_t (by omega)]; rfl
            · simp only [Step.run, hc, nble_f a, nble_t b, cond_true, cond_false, same]
              rw [nble_t (by omega)]; rfl
            · simp only [Step.run, hc, nble_f a, nble_f b, cond_false, same]
              by_cases e : m ≤ k
              · rw [nble_t e]
                by_cases e2 : k ≤ m
                · have : k = m := by omega
                  subst this; rw [nble_t e2]
                · rw [nble_f e2, cond_true, cond_false, Heap.set_set]
              · rw [nble_f e, nble_t (show k ≤ m by omega), cond_true, cond_false, Heap.set_set]
          | _ => simp only [Step.run, hc]
    · exact far hne H

def farS (ss ts : List Step) : Prop := ∀ s ∈ ss, ∀ t ∈ ts, s.blk ≠ t.blk ∨ (s.isRaise = true ∧ t.isRaise = true)

theorem runS_comm1 {s : Step} {ts : List Step} (h : ∀ t ∈ ts, s.blk ≠ t.blk ∨ (s.isRaise = true ∧ t.isRaise = true)) (H : Heap) : runS ts (s.run H) = s.run (runS ts H) := by
  induction ts generalizing H with
  | nil => rfl
  | cons t ts ih =>
    simp only [runS]
    rw [Step.comm (h t (.head _)), ih fun u hu => h u (.tail _ hu)]
theorem runS_comm {ss ts : List Step} (h : farS ss ts) (H : Heap) : runS ts (runS ss H) = runS ss (runS ts H) := by
  induction ss generalizing H with
  | nil => rfl
  | cons s ss ih =>
    simp only [runS]
    rw [ih (fun u hu => h u (.tail _ hu)), runS_comm1 (h s (.head _))]

-- ---------------------------------------------------------------- what becomes immutable
theorem footCells_congr {g g' : Heap → AV → List Nat} {H H' : Heap} (hg : ∀ v, (∀ c ∈ g H v, cont (H'.get c) = cont (H.get c)) → g H' v = g H v) :
    ∀ xs : List AV, (∀ c ∈ footCells g H xs, cont (H'.get c) = cont (H.get c)) → footCells g H' xs = footCells g H xs := by
  intro xs
  induction xs with
  | nil => intro _; rfl
  | cons x xs ih =>
    intro h
    cases x <;> simp only [footCells] at h ⊢ <;> first | exact ih h | (rw [hg _ fun c hc => h c (List.mem_append_left _ hc), ih fun c hc => h c (List.mem_append_right _ hc)])

theorem foot_congr : ∀ (n : Nat) {H H' : Heap} (v : AV), (∀ c ∈ footCell n H v, cont (H'.get c) = cont (H.get c)) → footCell n H' v = footCell n H v := by
  intro n
  induction n with
  | zero => intro H H' v _; rfl
  | succ n ih =>
    intro H H' v h
    have row : ∀ (b : Nat) (f : List AV → Option (List AV)) (h : ∀ c ∈ (match H.get b with | .cells _ cs => (match f cs with | some l => b :: footCells (footCell n) H l | none => [b]) | _ => [b]), cont (H'.get c) = cont (H.get c)),
        (match H'.get b with | .cells _ cs => (match f cs with | some l => b :: footCells (footCell n) H' l | none => [b]) | _ => [b]) = (match H.get b with | .cells _ cs => (match f cs with | some l => b :: footCells (footCell n) H l | none => [b]) | _ => [b]) := by
      intro b f h
      have hb : cont (H'.get b) = cont (H.get b) := h b (by
        split
        · split <;> simp
        · simp)
      cases hB : H.get b with
      | cells m cs =>
        rw [hB] at hb h
        cases hB' : H'.get b with
        | cells m' cs' =>
          rw [hB'] at hb
          have : cs' = cs := by simpa [cont] using hb
          subst this
          dsimp only at h ⊢
          cases hf : f cs' with
          | none => rfl
          | some l =>
            rw [hf] at h
            dsimp only at h ⊢
            rw [footCells_congr (g' := footCell n) (fun v hv => ih v hv) l fun c hc => h c (.tail _ hc)]
        | _ => rw [hB'] at hb; cases hb
      | _ =>
        cases hB' : H'.get b with
        | cells m' cs' => rw [hB, hB'] at hb; cases hb
        | _ => rfl
    cases v with
    | sl b off len esz cap => exact row b (fun cs => cut cs off (Nat.mul len esz)) h
    | ptr b off => exact row b (fun cs => skip cs off) h
    | fn f caps => exact footCells_congr (g' := footCell n) (fun v hv => ih v hv) caps h
    | agg cs => exact footCells_congr (g' := footCell n) (fun v hv => ih v hv) cs h
    | _ => rfl

/-- Making immutable: which steps it takes, and that only what its foot holds counts. -/
def IceS (g : Heap → AV → Option (D × Heap)) (ft : Heap → AV → List Nat) : Prop :=
  ∀ {H H2 : Heap} {v : AV} {d : D}, g H v = some (d, H2) → ∃ ss : List Step, (∀ s ∈ ss, s.isRaise = true ∧ s.blk ∈ ft H v) ∧ H2 = runS ss H ∧
    ∀ H', (∀ c ∈ ft H v, cont (H'.get c) = cont (H.get c)) → g H' v = some (d, runS ss H')

theorem raises_cont {ss : List Step} (h : ∀ s ∈ ss, s.isRaise = true) (H : Heap) (c : Nat) : cont ((runS ss H).get c) = cont (H.get c) := runS_cont fun s hs => .inr (h s hs)

theorem iceCells_steps {g : Heap → AV → Option (D × Heap)} {ft : Heap → AV → List Nat} (hg : IceS g ft) (hft : ∀ {H H' : Heap} v, (∀ c ∈ ft H v, cont (H'.get c) = cont (H.get c)) → ft H' v = ft H v) :
    ∀ (xs : List AV) {H H2 : Heap} {ds : List D}, iceCells g H xs = some (ds, H2) → ∃ ss : List Step, (∀ s ∈ ss, s.isRaise = true ∧ s.blk ∈ footCells ft H xs) ∧ H2 = runS ss H ∧
      ∀ H', (∀ c ∈ footCells ft H xs, cont (H'.get c) = cont (H.get c)) → iceCells g H' xs = some (ds, runS ss H') := by
  intro xs
  induction xs with
  | nil =>
    intro H H2 ds h
    simp only [iceCells, Option.some.injEq, Prod.mk.injEq] at h
    obtain ⟨rfl, rfl⟩ := h
    exact ⟨[], (fun s hs => by cases hs), rfl, fun H' _ => rfl⟩
  | cons x xs ih =>
    intro H H2 ds h
    have isd : ∀ y, x = .d y → ∃ ss : List Step, (∀ s ∈ ss, s.isRaise = true ∧ s.blk ∈ footCells ft H (x :: xs)) ∧ H2 = runS ss H ∧
        ∀ H', (∀ c ∈ footCells ft H (x :: xs), cont (H'.get c) = cont (H.get c)) → iceCells g H' (x :: xs) = some (ds, runS ss H') := by
      intro y e
      subst e
      simp only [iceCells] at h
      split at h
      case h_2 => cases h
      rename_i ds' H1 hrest
      cases h
      obtain ⟨ss, a, b, c⟩ := ih hrest
      refine ⟨ss, a, b, fun H' hc => ?_⟩
      simp only [iceCells, c H' hc]
    have nd : (∀ y, x ≠ .d y) → footCells ft H (x :: xs) = ft H x ++ footCells ft H xs ∧ (∀ H, iceCells g H (x :: xs) = match g H x with
        | some (y, H) => match iceCells g H xs with
          | some (ds, H) => some (y :: ds, H)
          | none => none
        | none => none) := by
      intro hn
      cases x with
      | d y => exact absurd rfl (hn y)
      | _ => exact ⟨rfl, fun _ => rfl⟩
    by_cases hd : ∃ y, x = .d y
    · obtain ⟨y, e⟩ := hd; exact isd y e
    · obtain ⟨e1, e2⟩ := nd fun y e => hd ⟨y, e⟩
      rw [e2] at h
      rw [e1]
      split at h
      case h_2 => cases h
      rename_i d H1 hx
      split at h
      case h_2 => cases h
      rename_i ds' H3 hrest
      cases h
      obtain ⟨ss, a, b, c⟩ := hg hx
      subst b
      obtain ⟨ts, a', b', c'⟩ := ih hrest
      have hfeq : footCells ft (runS ss H) xs = footCells ft H xs := footCells_congr (g' := ft) (fun v hv => hft v hv) xs fun c _ => raises_cont (fun s hs => (a s hs).1) H c
      refine ⟨ss ++ ts, fun s hs => ?_, by rw [b', runS_append], fun H' hc => ?_⟩
      · rcases List.mem_append.1 hs with hs | hs
        · exact ⟨(a s hs).1, List.mem_append_left _ (a s hs).2⟩
        · exact ⟨(a' s hs).1, List.mem_append_right _ (hfeq ▸ (a' s hs).2)⟩
      · rw [e2, c H' fun q hq => hc q (List.mem_append_left _ hq)]
        dsimp only
        rw [c' (runS ss H') fun q hq => by
          rw [raises_cont (fun s hs => (a s hs).1) H' q, raises_cont (fun s hs => (a s hs).1) H q]
          exact hc q (List.mem_append_right _ (hfeq ▸ hq))]
        dsimp only
        rw [runS_append]

theorem cont_some {B : Blk} {cs : List AV} (h : cont B = some cs) : ∃ m, B = .cells m cs := by
  cases B <;> simp [cont] at h
  subst h; exact ⟨_, rfl⟩

theorem iceCell_steps : ∀ (n k : Nat), n ≤ k → IceS (iceCell n) (footCell k) := by
  intro n
  induction n with
  | zero => intro k _ H H2 v d h; cases h
  | succ n ih =>
    intro k hk H H2 v d h
    obtain ⟨k, rfl⟩ : ∃ j, k = j + 1 := ⟨k - 1, by omega⟩
    have ihk : IceS (iceCell n) (footCell k) := ih k (by omega)
    have row : ∀ (b : Nat) (m m' : Nat) (cs l : List AV) (ds : List D) (H3 : Heap), H.get b = .cells m cs → iceCells (iceCell n) (bif Nat.ble m' m then H else H.set b (.cells m' cs)) l = some (ds, H3) →
        ∃ ss : List Step, (∀ s ∈ ss, s.isRaise = true ∧ s.blk ∈ b :: footCells (footCell k) H l) ∧ H3 = runS ss H ∧
          ∀ H', (∀ c ∈ b :: footCells (footCell k) H l, cont (H'.get c) = cont (H.get c)) → ∃ mm, H'.get b = .cells mm cs ∧ iceCells (iceCell n) (bif Nat.ble m' mm then H' else H'.set b (.cells m' cs)) l = some (ds, runS ss H') := by
      intro b m m' cs l ds H3 hg hi
      have e : ∀ H' mm, H'.get b = .cells mm cs → (bif Nat.ble m' mm then H' else H'.set b (.cells m' cs)) = (Step.raise b m').run H' := by
        intro H' mm h; simp only [Step.run, h]
      rw [e H m hg] at hi
      obtain ⟨ss, a, b', c⟩ := iceCells_steps (g := iceCell n) (ft := footCell k) ihk (fun v hv => foot_congr k v hv) l hi
      have hfeq : footCells (footCell k) ((Step.raise b m').run H) l = footCells (footCell k) H l := footCells_congr (g' := footCell k) (fun v hv => foot_congr k v hv) l fun c _ => Step.cont_run _ H rfl c
      refine ⟨.raise b m' :: ss, fun s hs => ?_, b', fun H' hc => ?_⟩
      · cases hs with
        | head => exact ⟨rfl, .head _⟩
        | tail _ hs => exact ⟨(a s hs).1, .tail _ (hfeq ▸ (a s hs).2)⟩
      · have hb := hc b (.head _)
        rw [hg] at hb
        obtain ⟨mm, hmm⟩ := cont_some hb
        refine ⟨mm, hmm, ?_⟩
        rw [e H' mm hmm]
        exact c _ fun q hq => by
          rw [Step.cont_run _ H' rfl q, Step.cont_run _ H rfl q]
          exact hc q (.tail _ (hfeq ▸ hq))
    unfold iceCell at h
    split at h
    · cases h; exact ⟨[], (fun s hs => by cases hs), rfl, fun H' _ => rfl⟩
    · rename_i b off len esz cap
      cases h0 : Nat.beq (Nat.mul len esz) 0 with
      | true =>
        rw [h0] at h
        simp only [cond_true] at h
        cases hl : Nat.beq len 0 with
        | false => rw [hl] at h; cases h
        | true =>
          rw [hl] at h; cases h
          exact ⟨[], (fun s hs => by cases hs), rfl, fun H' _ => by simp only [iceCell, h0, hl, cond_true]; rfl⟩
      | false =>
        rw [h0] at h
        simp only [cond_false] at h
        split at h
        case h_2 => cases h
        rename_i m cs hg
        split at h
        case h_2 => cases h
        rename_i l hcut
        split at h
        case h_2 => cases h
        rename_i ds H1 hice
        cases h
        obtain ⟨ss, a, b', c⟩ := row b m _ cs l ds _ hg hice
        have hft : footCell (k + 1) H (.sl b off len esz cap) = b :: footCells (footCell k) H l := by simp only [footCell, hg, hcut]
        rw [hft]
        refine ⟨ss, a, b', fun H' hc => ?_⟩
        obtain ⟨mm, h1, h2⟩ := c H' hc
        simp only [iceCell, h0, cond_false, h1, hcut, h2]
    · rename_i b off
      split at h
      case h_2 => cases h
      rename_i m cs hg
      split at h
      case h_2 => cases h
      rename_i l hsk
      split at h
      case h_2 => cases h
      rename_i ds H1 hice
      cases h
      obtain ⟨ss, a, b', c⟩ := row b m _ cs l ds _ hg hice
      have hft : footCell (k + 1) H (.ptr b off) = b :: footCells (footCell k) H l := by simp only [footCell, hg, hsk]
      rw [hft]
      refine ⟨ss, a, b', fun H' hc => ?_⟩
      obtain ⟨mm, h1, h2⟩ := c H' hc
      simp only [iceCell, h1, hsk, h2]
    · rename_i f caps
      split at h
      case h_2 => cases h
      rename_i ds H1 hice
      cases h
      obtain ⟨ss, a, b, c⟩ := iceCells_steps (g := iceCell n) (ft := footCell k) ihk (fun v hv => foot_congr k v hv) caps hice
      refine ⟨ss, a, b, fun H' hc => ?_⟩
      simp only [iceCell, c H' hc]
    · cases h

theorem iceVal_steps {H H2 : Heap} {v y : AV} (h : iceVal H v = some (y, H2)) : ∃ ss : List Step, (∀ s ∈ ss, s.isRaise = true ∧ s.blk ∈ footCell 14 H v) ∧ H2 = runS ss H ∧
    ∀ H', (∀ c ∈ footCell 14 H v, cont (H'.get c) = cont (H.get c)) → iceVal H' v = some (y, runS ss H') := by
  have cell : (∀ cs, v ≠ .agg cs) → (∀ x, v ≠ .d x) → ∃ ss : List Step, (∀ s ∈ ss, s.isRaise = true ∧ s.blk ∈ footCell 14 H v) ∧ H2 = runS ss H ∧
      ∀ H', (∀ c ∈ footCell 14 H v, cont (H'.get c) = cont (H.get c)) → iceVal H' v = some (y, runS ss H') := by
    intro h1 h2
    have e : ∀ H, iceVal H v = match iceCell 12 H v with
        | some (x, H) => some (.d x, H)
        | none => none := by
      intro H
      cases v with
      | d x => exact absurd rfl (h2 x)
      | agg cs => exact absurd rfl (h1 cs)
      | _ => rfl
    rw [e] at h
    split at h
    case h_2 => cases h
    rename_i d H1 hice
    cases h
    obtain ⟨ss, a, b, c⟩ := iceCell_steps 12 14 (by omega) hice
    exact ⟨ss, a, b, fun H' hc => by rw [e, c H' hc]⟩
  cases v with
  | d x => simp only [iceVal, Option.some.injEq, Prod.mk.injEq] at h; obtain ⟨rfl, rfl⟩ := h; exact ⟨[], (fun s hs => by cases hs), rfl, fun H' _ => rfl⟩
  | agg cs =>
    simp only [iceVal] at h
    split at h
    case h_2 => cases h
    rename_i ds H1 hice
    cases h
    obtain ⟨ss, a, b, c⟩ := iceCells_steps (g := iceCell 12) (ft := footCell 13) (iceCell_steps 12 13 (by omega)) (fun v hv => foot_congr 13 v hv) cs hice
    exact ⟨ss, a, b, fun H' hc => by simp only [iceVal, c H' hc]⟩
  | _ => exact cell (fun _ => by simp) (fun _ => by simp)

theorem iceVals_steps : ∀ (xs : List AV) {H H2 : Heap} {ys : List AV}, iceVals H xs = some (ys, H2) → ∃ ss : List Step, (∀ s ∈ ss, s.isRaise = true ∧ s.blk ∈ footCells (footCell 14) H xs) ∧ H2 = runS ss H ∧
      ∀ H', (∀ c ∈ footCells (footCell 14) H xs, cont (H'.get c) = cont (H.get c)) → iceVals H' xs = some (ys, runS ss H') := by
  intro xs
  induction xs with
  | nil =>
    intro H H2 ds h
    simp only [iceVals, Option.some.injEq, Prod.mk.injEq] at h
    obtain ⟨rfl, rfl⟩ := h
    exact ⟨[], (fun s hs => by cases hs), rfl, fun H' _ => rfl⟩
  | cons x xs ih =>
    intro H H2 ds h
    simp only [iceVals] at h
    split at h
    case h_2 => cases h
    rename_i y H1 hx
    split at h
    case h_2 => cases h
    rename_i ys H3 hrest
    cases h
    obtain ⟨ss, a, b, c⟩ := iceVal_steps hx
    subst b
    obtain ⟨ts, a', b', c'⟩ := ih hrest
    have hsub : ∀ q, q ∈ footCell 14 H x → q ∈ footCells (footCell 14) H (x :: xs) := by
      intro q hq
      cases x with
      | d y => cases hq
      | _ => exact List.mem_append_left _ hq
    have hsub2 : ∀ q, q ∈ footCells (footCell 14) H xs → q ∈ footCells (footCell 14) H (x :: xs) := by
      intro q hq
      cases x with
      | d y => exact hq
      | _ => exact List.mem_append_right _ hq
    have hfeq : footCells (footCell 14) (runS ss H) xs = footCells (footCell 14) H xs := footCells_congr (g' := footCell 14) (fun v hv => foot_congr 14 v hv) xs fun c _ => raises_cont (fun s hs => (a s hs).1) H c
    refine ⟨ss ++ ts, fun s hs => ?_, by rw [b', runS_append], fun H' hc => ?_⟩
    · rcases List.mem_append.1 hs with hs | hs
      · exact ⟨(a s hs).1, hsub _ (a s hs).2⟩
      · exact ⟨(a' s hs).1, hsub2 _ (hfeq ▸ (a' s hs).2)⟩
    · simp only [iceVals, c H' fun q hq => hc q (hsub q hq)]
      rw [c' (runS ss H') fun q hq => by
        rw [raises_cont (fun s hs => (a s hs).1) H' q, raises_cont (fun s hs => (a s hs).1) H q]
        exact hc q (hsub2 q (hfeq ▸ hq))]
      dsimp only
      rw [runS_append]
end Go.Ab

/- What an action reads and writes; two actions that are apart may stand in either order. -/
import Derived.Test.YtockpchpaemfgaaGreatDoorAbDraw
set_option linter.all false
namespace Go.Ab

/-- Blocks of which only the contents count. -/
def soft (base : Nat) (x : Log) (c : Nat) : Prop :=
  match x.a with
  | .load .. => True
  | .ice .. => True
  | .gather _ kill _ => c ≠ base + x.i ∧ ∀ k o, kill = some (k, o) → c ≠ k
  | _ => False

/-- Blocks that are laid or changed. -/
def hard (base : Nat) (x : Log) (b : Nat) : Prop :=
  match x.a with
  | .store c _ _ => b = c
  | .new .. => b = base + x.i
  | .gather _ kill _ => b = base + x.i ∨ ∃ o, kill = some (b, o)
  | _ => False

/-- Two memories that are the same to an action. -/
structure Like (base : Nat) (x : Log) (H H' : Heap) : Prop where
  n : H'.n = H.n
  at_ : ∀ c, x.apart base c = true ∨ H'.get c = H.get c ∨ (soft base x c ∧ cont (H'.get c) = cont (H.get c))

theorem Like.symm {base : Nat} {x : Log} {H H' : Heap} (h : Like base x H H') : Like base x H' H :=
  ⟨h.n.symm, fun c => by
    rcases h.at_ c with h | h | ⟨h1, h2⟩
    · exact .inl h
    · exact .inr (.inl h.symm)
    · exact .inr (.inr ⟨h1, h2.symm⟩)⟩

theorem Like.hard {base : Nat} {x : Log} {H H' : Heap} (h : Like base x H H') {c : Nat} (h1 : x.apart base c = false) (h2 : ¬ soft base x c) : H'.get c = H.get c := by
  rcases h.at_ c with h | h | ⟨h, _⟩
  · rw [h1] at h; cases h
  · exact h
  · exact absurd h h2
theorem Like.cont {base : Nat} {x : Log} {H H' : Heap} (h : Like base x H H') {c : Nat} (h1 : x.apart base c = false) : cont (H'.get c) = cont (H.get c) := by
  rcases h.at_ c with h | h | ⟨_, h⟩
  · rw [h1] at h; cases h
  · rw [h]
  · exact h

theorem isIn_mem {b : Nat} {l : List Nat} : isIn b l = true ↔ b ∈ l := by
  induction l with
  | nil => simp [isIn]
  | cons c cs ih =>
    simp only [isIn]
    by_cases h : b = c
    · subst h; rw [nbeq_t rfl]; simp
    · rw [nbeq_f h]; simp [h, ih]

theorem isInP_mem {b : Nat} {ps : List Part} : isInP b ps = true ↔ ∃ o n, Part.old b o n ∈ ps := by
  induction ps with
  | nil => simp [isInP]
  | cons p ps ih =>
    cases p with
    | lit cs => simp only [isInP, ih, List.mem_cons, reduceCtorEq, false_or]
    | old c o n =>
      simp only [isInP]
      by_cases h : b = c
      · subst h; rw [nbeq_t rfl]; simp only [cond_true, true_iff]; exact ⟨o, n, .head _⟩
      · rw [nbeq_f h]; simp only [cond_false, ih, List.mem_cons, Part.old.injEq]
        exact ⟨fun ⟨o, n, h⟩ => ⟨o, n, .inr h⟩, fun ⟨o, n, h'⟩ => by
          rcases h' with ⟨e, _⟩ | h'
          · exact absurd e h
          · exact ⟨o, n, h'⟩⟩

def loadV (c : Option (List AV)) (o n : Nat) (g : Bool) : Option AV :=
  match c with
  | some cs => (cut cs o n).bind (ofCells g)
  | none => none

theorem exec_load {x o n : Nat} {g : Bool} {r : Option Nat} {H : Heap} : (Action.load x o n g).exec r H = (loadV (cont (H.get x)) o n g).map (·, H) := by
  simp only [Action.exec, loadV]
  cases H.get x with
  | cells m cs =>
    simp only [cont]
    cases cut cs o n with
    | none => rfl
    | some l => simp only [Option.bind_some]; cases ofCells g l <;> rfl
  | _ => rfl

theorem part_cont {H H' : Heap} {p : Part} (h : ∀ b o n, p = .old b o n → cont (H'.get b) = cont (H.get b)) : p.get H' = p.get H := by
  cases p with
  | lit cs => rfl
  | old b o n =>
    have := h b o n rfl
    simp only [Part.get]
    cases h1 : H.get b with
    | cells m cs =>
      rw [h1] at this
      obtain ⟨m', h2⟩ := cont_some this
      rw [h2]
    | _ =>
      cases h2 : H'.get b with
      | cells m cs => rw [h1, h2] at this; cases this
      | _ => rfl

theorem gather_cont {H H' : Heap} : ∀ ps : List Part, (∀ b o n, Part.old b o n ∈ ps → cont (H'.get b) = cont (H.get b)) → gatherCells H' ps = gatherCells H ps := by
  intro ps
  induction ps with
  | nil => intro _; rfl
  | cons p ps ih =>
    intro h
    simp only [gatherCells]
    rw [part_cont fun b o n e => h b o n (by rw [e]; exact .head _), ih fun b o n hm => h b o n (.tail _ hm)]

theorem lay_some {H H' : Heap} {id : Nat} {x : Blk} {f : Nat → AV} {v : AV} (h : lay H (some id) x f = some (v, H')) : H.get id = .dead ∧ Nat.ble H.n id = false ∧ v = f id ∧ H' = H.set id x := by
  simp only [lay] at h
  split at h
  · rename_i hg
    cases hb : Nat.ble H.n id with
    | true => rw [hb] at h; cases h
    | false => rw [hb] at h; cases h; exact ⟨hg, rfl, rfl, rfl⟩
  · cases h
theorem lay_mk {H : Heap} {id : Nat} {x : Blk} {f : Nat → AV} (h1 : H.get id = .dead) (h2 : Nat.ble H.n id = false) : lay H (some id) x f = some (f id, H.set id x) := by
  simp only [lay, h1, h2, cond_false]

/-- **An action, by what it reads and what it writes.** -/
theorem exec_steps {base : Nat} {x : Log} {H H1 : Heap} {v : AV} (h : x.a.exec (some (base + x.i)) H = some (v, H1)) (hf : x.foot = x.a.foot H) (hno : ∀ f, x.a ≠ .other f) (hnr : ∀ u, x.a ≠ .ret u) :
    ∃ ss : List Step, H1 = runS ss H ∧ (∀ s ∈ ss, x.apart base s.blk = false ∧ (s.isRaise = false → hard base x s.blk)) ∧ (∀ s ∈ ss, s.isRaise = true → ∃ args k, x.a = .ice args k) ∧
      ∀ H', Like base x H H' → x.a.exec (some (base + x.i)) H' = some (v, runS ss H') ∧ x.a.foot H' = x.foot := by
  obtain ⟨i, a, foot⟩ := x
  dsimp only at h hf hno hnr ⊢
  cases a with
  | ret u => exact absurd rfl (hnr u)
  | other f => exact absurd rfl (hno f)
  | load b off n g =>
    rw [exec_load] at h
    cases hl : loadV (cont (H.get b)) off n g with
    | none => rw [hl] at h; cases h
    | some z =>
      rw [hl] at h; cases h
      refine ⟨[], rfl, (fun s hs => by cases hs), (fun s hs => by cases hs), fun H' hL => ⟨?_, hf.symm⟩⟩
      have := hL.cont (c := b) (by simp [Log.apart])
      rw [exec_load, this, hl]; rfl
  | store b off vs =>
    simp only [Action.exec] at h
    split at h
    case h_2 => cases h
    rename_i m cs hg
    cases hm : Nat.ble m off with
    | false => rw [hm] at h; cases h
    | true =>
    rw [hm] at h
    simp only [cond_true] at h
    split at h
    case h_2 => cases h
    rename_i cs2 hsp
    cases h
    refine ⟨[.put b (.cells m cs2)], rfl, fun s hs => ?_, fun s hs hr => ?_, fun H' hL => ⟨?_, hf.symm⟩⟩
    · simp only [List.mem_singleton] at hs; subst hs; exact ⟨by simp [Log.apart, Step.blk], fun _ => by simp [hard, Step.blk]⟩
    · simp only [List.mem_singleton] at hs; subst hs; cases hr
    · have := hL.hard (c := b) (by simp [Log.apart]) (by simp [soft])
      simp only [Action.exec, this, hg, hm, cond_true, hsp]; rfl
  | new x f =>
    obtain ⟨h1, h2, rfl, rfl⟩ := lay_some h
    refine ⟨[.put (base + i) x], rfl, fun s hs => ?_, fun s hs hr => ?_, fun H' hL => ⟨?_, hf.symm⟩⟩
    · simp only [List.mem_singleton] at hs; subst hs; exact ⟨by simp [Log.apart, Step.blk], fun _ => by simp [hard, Step.blk]⟩
    · simp only [List.mem_singleton] at hs; subst hs; cases hr
    · have := hL.hard (c := base + i) (by simp [Log.apart]) (by simp [soft])
      exact lay_mk (by rw [this]; exact h1) (by rw [hL.n]; exact h2)
  | gather ps kill vf =>
    simp only [Action.exec] at h
    split at h
    case h_2 => cases h
    rename_i cs hcs
    split at h
    case h_2 => cases h
    rename_i hcell
    have olds : ∀ H', Like base ⟨i, .gather ps kill vf, foot⟩ H H' → gatherCells H' ps = some cs := fun H' hL => by
      rw [gather_cont ps fun b o n hm => hL.cont (c := b) ?_]
      · exact hcs
      · have : isInP b ps = true := isInP_mem.2 ⟨o, n, hm⟩
        simp [Log.apart, this]
    cases kill with
    | none =>
      obtain ⟨h1, h2, rfl, rfl⟩ := lay_some h
      refine ⟨[.put (base + i) (.cells 0 cs)], rfl, fun s hs => ?_, fun s hs hr => ?_, fun H' hL => ⟨?_, hf.symm⟩⟩
      · simp only [List.mem_singleton] at hs; subst hs; exact ⟨by simp [Log.apart, Step.blk], fun _ => by simp [hard, Step.blk]⟩
      · simp only [List.mem_singleton] at hs; subst hs; cases hr
      · have := hL.hard (c := base + i) (by simp [Log.apart]) (by simp [soft])
        simp only [Action.exec, olds H' hL, hcell]
        exact lay_mk (by rw [this]; exact h1) (by rw [hL.n]; exact h2)
    | some q =>
      obtain ⟨b, off, n⟩ := q
      dsimp only at h
      split at h
      case h_2 => cases h
      rename_i m all hg
      cases hm : Nat.ble m (Nat.add off n) with
      | false => rw [hm] at h; cases h
      | true =>
      rw [hm] at h
      simp only [cond_true] at h
      obtain ⟨h1, h2, rfl, rfl⟩ := lay_some h
      refine ⟨[.put b .dead, .put (base + i) (.cells (Nat.sub m off) cs)], rfl, fun s hs => ?_, fun s hs hr => ?_, fun H' hL => ⟨?_, hf.symm⟩⟩
      · simp only [List.mem_cons, List.not_mem_nil, or_false] at hs
        rcases hs with rfl | rfl
        · exact ⟨by simp [Log.apart, Step.blk], fun _ => by simp [hard, Step.blk]⟩
        · exact ⟨by simp [Log.apart, Step.blk], fun _ => by simp [hard, Step.blk]⟩
      · simp only [List.mem_cons, List.not_mem_nil, or_false] at hs
        rcases hs with rfl | rfl <;> cases hr
      · have e1 := hL.hard (c := base + i) (by simp [Log.apart]) (by simp [soft])
        have e2 := hL.hard (c := b) (by simp [Log.apart]) (by simp [soft])
        simp only [Action.exec, olds H' hL, hcell, e2, hg, hm, cond_true]
        refine lay_mk ?_ (by rw [Heap.n_set, hL.n]; rw [Heap.n_set] at h2; exact h2)
        by_cases hbi : base + i = b
        · subst hbi
          exact Heap.get_set_same' (by rw [e2, hg]; simp)
        · rw [Heap.get_set_ne hbi, e1]
          rw [Heap.get_set_ne hbi] at h1; exact h1
  | ice args k =>
    simp only [Action.exec] at h
    split at h
    case h_2 => cases h
    rename_i as_ H2 hice
    split at h
    case h_2 => cases h
    rename_i v1 HH hk
    cases hn : Nat.beq HH.n 0 with
    | false => rw [hn] at h; cases h
    | true =>
    rw [hn] at h
    simp only [cond_true, Option.some.injEq, Prod.mk.injEq] at h
    obtain ⟨rfl, rfl⟩ := h
    obtain ⟨ss, s1, s2, s3⟩ := iceVals_steps args hice
    have hfoot : foot = footCells (footCell 14) H args := hf
    refine ⟨ss, s2, fun s hs => ⟨?_, fun h => by rw [(s1 s hs).1] at h; cases h⟩, fun s hs _ => ⟨args, k, rfl⟩, fun H' hL => ?_⟩
    · have := isIn_mem.2 (hfoot ▸ (s1 s hs).2)
      simp [Log.apart, this]
    · have hc : ∀ c ∈ footCells (footCell 14) H args, cont (H'.get c) = cont (H.get c) := fun c hc => hL.cont (c := c) (by
        have := isIn_mem.2 (hfoot ▸ hc)
        simp [Log.apart, this])
      refine ⟨?_, ?_⟩
      · simp only [Action.exec, s3 H' hc, hk, hn, cond_true]
      · rw [hfoot]
        exact footCells_congr (g' := footCell 14) (fun v hv => foot_congr 14 v hv) args hc

/-- One's writing leaves the other's memory as it was. -/
theorem like_run {base : Nat} {x : Log} {H : Heap} {ss : List Step} (h : ∀ s ∈ ss, x.apart base s.blk = true ∨ (s.isRaise = true ∧ soft base x s.blk)) : Like base x H (runS ss H) :=
  ⟨n_runS ss H, fun c => by
    by_cases hc : ∀ s ∈ ss, s.blk ≠ c
    · exact .inr (.inl (runS_get hc))
    · simp only [ne_eq, Classical.not_forall, Decidable.not_not] at hc
      obtain ⟨s, hs, rfl⟩ := hc
      rcases h s hs with h1 | ⟨_, h1⟩
      · exact .inl h1
      · by_cases ha : x.apart base s.blk = true
        · exact .inl ha
        · refine .inr (.inr ⟨h1, runS_cont fun t ht => ?_⟩)
          by_cases hts : t.blk = s.blk
          · rcases h t ht with h2 | ⟨h2, _⟩
            · rw [hts] at h2; exact absurd h2 ha
            · exact .inr h2
          · exact .inl hts⟩

theorem kinds {base : Nat} (y : Log) (c : Nat) (hno : ∀ f, y.a ≠ .other f) : y.apart base c = true ∨ soft base y c ∨ hard base y c := by
  obtain ⟨i, a, foot⟩ := y
  cases a with
  | ret u => exact .inl rfl
  | other f => exact absurd rfl (hno f)
  | load b o n g => exact .inr (.inl trivial)
  | ice args k => exact .inr (.inl trivial)
  | store b o vs =>
    by_cases h : c = b
    · exact .inr (.inr h)
    · exact .inl (by simp only [Log.apart]; rw [nbeq_f h]; rfl)
  | new x f =>
    by_cases h : c = base + i
    · exact .inr (.inr h)
    · exact .inl (by simp only [Log.apart]; rw [nbeq_f (show c ≠ Nat.add base i from h)]; rfl)
  | gather ps kill v =>
    by_cases h : c = base + i ∨ ∃ o, kill = some (c, o)
    · exact .inr (.inr h)
    · refine .inr (.inl ⟨fun e => h (.inl e), fun k o e ek => h (.inr ⟨o, ?_⟩)⟩)
      rw [ek]; exact e

theorem splice_cut {α : Type} {cs new : List α} {off p n : Nat} (h : p + new.length ≤ cs.length) (hd : off + n ≤ p ∨ p + new.length ≤ off) : cut (spl cs p new) off n = cut cs off n := by
  rw [cut_eq, cut_eq, spl_length h]
  split
  · congr 1
    apply List.ext_getElem?
    intro i
    simp only [List.getElem?_take, List.getElem?_drop]
    split
    · rw [spl_get h, if_neg (by omega)]
    · rfl
  · rfl

theorem store_load {c p : Nat} {vs : List AV} {o n : Nat} {g : Bool} {r : Option Nat} {H : Heap} {u : AV} {H1 : Heap} (hs : (Action.store c p vs).exec r H = some (u, H1)) (hd : o + n ≤ p ∨ p + vs.length ≤ o) :
    loadV (cont (H1.get c)) o n g = loadV (cont (H.get c)) o n g := by
  simp only [Action.exec] at hs
  split at hs
  case h_2 => cases hs
  rename_i m cs hg
  cases hm : Nat.ble m p with
  | false => rw [hm] at hs; cases hs
  | true =>
  rw [hm] at hs
  simp only [cond_true] at hs
  split at hs
  case h_2 => cases hs
  rename_i cs2 hsp
  cases hs
  obtain ⟨hle, rfl⟩ := splice_some hsp
  rw [Heap.get_set_same' (by rw [hg]; simp), hg]
  simp only [cont, loadV, splice_cut hle hd]

/-- What may stand in either order, in words. -/
theorem compat_spec {base : Nat} {x y : Log} (h : Log.compat base x y = true) (hx : ∀ u, x.a ≠ .ret u) (hy : ∀ u, y.a ≠ .ret u) :
    (∀ f, x.a ≠ .other f) ∧ (∀ f, y.a ≠ .other f) ∧ (((∀ c, hard base x c → y.apart base c = true) ∧ (∀ c, hard base y c → x.apart base c = true)) ∨
      (∃ b o n g p vs, ((x.a = .load b o n g ∧ y.a = .store b p vs) ∨ (x.a = .store b p vs ∧ y.a = .load b o n g)) ∧ (o + n ≤ p ∨ p + vs.length ≤ o))) := by
  obtain ⟨i, a, fa⟩ := x
  obtain ⟨j, b, fb⟩ := y
  dsimp only at hx hy ⊢
  have beqf : ∀ {p q : Nat}, (!Nat.beq p q) = true → p ≠ q := fun h => of_nbeq_f (by simpa using h)
  cases a with
  | ret u => exact absurd rfl (hx u)
  | other f =>
    cases b with
    | ret u => exact absurd rfl (hy u)
    | _ => simp [Log.compat, Log.apart] at h
  | load b1 o1 n1 g1 =>
    cases b with
    | ret u => exact absurd rfl (hy u)
    | other f => simp [Log.compat] at h
    | load b2 o2 n2 g2 => exact ⟨by simp, by simp, .inl ⟨fun c hc => hc.elim, fun c hc => hc.elim⟩⟩
    | ice args k => exact ⟨by simp, by simp, .inl ⟨fun c hc => hc.elim, fun c hc => hc.elim⟩⟩
    | store c p vs =>
      refine ⟨by simp, by simp, ?_⟩
      by_cases hbc : b1 = c
      · subst hbc
        refine .inr ⟨b1, o1, n1, g1, p, vs, .inl ⟨rfl, rfl⟩, ?_⟩
        simp only [Log.compat] at h
        rw [nbeq_t rfl] at h
        simp only [Bool.not_true, Bool.false_or, Bool.or_eq_true] at h
        exact h.imp of_nble of_nble
      · refine .inl ⟨fun c hc => hc.elim, fun q hq => ?_⟩
        have : q = c := hq
        subst this
        simp only [Log.apart]; rw [nbeq_f (Ne.symm hbc)]; rfl
    | new z f =>
      refine ⟨by simp, by simp, .inl ⟨fun c hc => hc.elim, fun q hq => ?_⟩⟩
      have : q = base + j := hq
      subst this; exact h
    | gather ps kill f =>
      refine ⟨by simp, by simp, .inl ⟨fun c hc => hc.elim, fun q hq => ?_⟩⟩
      simp only [Log.compat, Bool.and_eq_true] at h
      rcases hq with rfl | ⟨oo, rfl⟩
      · exact h.1
      · exact h.2
  | ice args k =>
    cases b with
    | ret u => exact absurd rfl (hy u)
    | other f => simp [Log.compat] at h
    | load b2 o2 n2 g2 => exact ⟨by simp, by simp, .inl ⟨fun c hc => hc.elim, fun c hc => hc.elim⟩⟩
    | ice args k => exact ⟨by simp, by simp, .inl ⟨fun c hc => hc.elim, fun c hc => hc.elim⟩⟩
    | store c p vs =>
      refine ⟨by simp, by simp, .inl ⟨fun c hc => hc.elim, fun q hq => ?_⟩⟩
      have : q = c := hq
      subst this; exact h
    | new z f =>
      refine ⟨by simp, by simp, .inl ⟨fun c hc => hc.elim, fun q hq => ?_⟩⟩
      have : q = base + j := hq
      subst this; exact h
    | gather ps kill f =>
      refine ⟨by simp, by simp, .inl ⟨fun c hc => hc.elim, fun q hq => ?_⟩⟩
      simp only [Log.compat, Bool.and_eq_true] at h
      rcases hq with rfl | ⟨oo, rfl⟩
      · exact h.1
      · exact h.2
  | store c p vs =>
    have gen : ∀ {R : Prop}, Log.apart base ⟨j, b, fb⟩ c = true → (∀ f, b ≠ .other f) → (∀ q, hard base ⟨j, b, fb⟩ q → (Log.apart base ⟨j, b, fb⟩ q = false)) → (∀ f, (Action.store c p vs) ≠ .other f) ∧ (∀ f, b ≠ .other f) ∧ (((∀ q, hard base ⟨i, .store c p vs, fa⟩ q → Log.apart base ⟨j, b, fb⟩ q = true) ∧ (∀ q, hard base ⟨j, b, fb⟩ q → Log.apart base ⟨i, .store c p vs, fa⟩ q = true)) ∨ R) := by
      intro R h1 h2 h3
      refine ⟨by simp, h2, .inl ⟨fun q hq => ?_, fun q hq => ?_⟩⟩
      · have : q = c := hq
        subst this; exact h1
      · have hq' := h3 q hq
        by_cases e : q = c
        · subst e; rw [h1] at hq'; cases hq'
        · simp only [Log.apart]; rw [nbeq_f e]; rfl
    cases b with
    | ret u => exact absurd rfl (hy u)
    | other f => simp [Log.compat, Log.apart] at h
    | load b1 o1 n1 g1 =>
      refine ⟨by simp, by simp, ?_⟩
      by_cases hbc : b1 = c
      · subst hbc
        refine .inr ⟨b1, o1, n1, g1, p, vs, .inr ⟨rfl, rfl⟩, ?_⟩
        simp only [Log.compat] at h
        rw [nbeq_t rfl] at h
        simp only [Bool.not_true, Bool.false_or, Bool.or_eq_true] at h
        exact h.imp of_nble of_nble
      · refine .inl ⟨fun q hq => ?_, fun q hq => hq.elim⟩
        have : q = c := hq
        subst this
        simp only [Log.apart]; rw [nbeq_f (Ne.symm hbc)]; rfl
    | ice args k => exact gen h (by simp) (fun q hq => hq.elim)
    | store d p' vs' => exact gen h (by simp) (fun q hq => by have : q = d := hq; subst this; simp [Log.apart])
    | new z f => exact gen h (by simp) (fun q hq => by have : q = base + j := hq; subst this; simp [Log.apart])
    | gather ps kill f => exact gen h (by simp) (fun q hq => by
        rcases hq with rfl | ⟨oo, rfl⟩
        · simp [Log.apart]
        · simp [Log.apart])
  | new z f =>
    have gen : ∀ {R : Prop}, Log.apart base ⟨j, b, fb⟩ (base + i) = true → (∀ f, b ≠ .other f) → (∀ q, hard base ⟨j, b, fb⟩ q → (Log.apart base ⟨j, b, fb⟩ q = false)) → (∀ f', (Action.new z f) ≠ .other f') ∧ (∀ f, b ≠ .other f) ∧ (((∀ q, hard base ⟨i, .new z f, fa⟩ q → Log.apart base ⟨j, b, fb⟩ q = true) ∧ (∀ q, hard base ⟨j, b, fb⟩ q → Log.apart base ⟨i, .new z f, fa⟩ q = true)) ∨ R) := by
      intro R h1 h2 h3
      refine ⟨by simp, h2, .inl ⟨fun q hq => ?_, fun q hq => ?_⟩⟩
      · have : q = base + i := hq
        subst this; exact h1
      · have hq' := h3 q hq
        by_cases e : q = base + i
        · subst e; rw [h1] at hq'; cases hq'
        · simp only [Log.apart]; rw [nbeq_f (show q ≠ Nat.add base i from e)]; rfl
    cases b with
    | ret u => exact absurd rfl (hy u)
    | other f => simp [Log.compat, Log.apart] at h
    | load b1 o1 n1 g1 => exact gen h (by simp) (fun q hq => hq.elim)
    | ice args k => exact gen h (by simp) (fun q hq => hq.elim)
    | store d p' vs' =>
      refine ⟨by simp, by simp, .inl ⟨fun q hq => ?_, fun q hq => ?_⟩⟩
      · have e : q = base + i := hq
        subst e
        have h' : (!Nat.beq d (Nat.add base i)) = true := h
        have := beqf h'
        simp only [Log.apart]; rw [nbeq_f (show base + i ≠ d from Ne.symm this)]; rfl
      · have e : q = d := hq
        subst e; exact h
    | new z' f' => exact gen h (by simp) (fun q hq => by have : q = base + j := hq; subst this; simp [Log.apart])
    | gather ps kill f => exact gen h (by simp) (fun q hq => by
        rcases hq with rfl | ⟨oo, rfl⟩
        · simp [Log.apart]
        · simp [Log.apart])
  | gather ps kill vf =>
    cases b with
    | ret u => exact absurd rfl (hy u)
    | other f => simp [Log.compat, Log.apart] at h
    | load b1 o1 n1 g1 =>
      refine ⟨by simp, by simp, .inl ⟨fun q hq => ?_, fun q hq => hq.elim⟩⟩
      simp only [Log.compat, Bool.and_eq_true] at h
      rcases hq with rfl | ⟨oo, rfl⟩
      · exact h.1
      · exact h.2
    | ice args k =>
      refine ⟨by simp, by simp, .inl ⟨fun q hq => ?_, fun q hq => hq.elim⟩⟩
      simp only [Log.compat, Bool.and_eq_true] at h
      rcases hq with rfl | ⟨oo, rfl⟩
      · exact h.1
      · exact h.2
    | store d p' vs' =>
      have h' : Log.apart base ⟨i, .gather ps kill vf, fa⟩ d = true := h
      refine ⟨by simp, by simp, .inl ⟨fun q hq => ?_, fun q hq => ?_⟩⟩
      · have hf : Log.apart base ⟨i, .gather ps kill vf, fa⟩ q = false := by
          rcases hq with rfl | ⟨oo, rfl⟩
          · simp [Log.apart]
          · simp [Log.apart]
        have hne : q ≠ d := fun e => by subst e; rw [h'] at hf; cases hf
        simp only [Log.apart]; rw [nbeq_f hne]; rfl
      · have e : q = d := hq
        subst e; exact h'
    | new z' f' =>
      have h' : Log.apart base ⟨i, .gather ps kill vf, fa⟩ (base + j) = true := h
      refine ⟨by simp, by simp, .inl ⟨fun q hq => ?_, fun q hq => ?_⟩⟩
      · have hf : Log.apart base ⟨i, .gather ps kill vf, fa⟩ q = false := by
          rcases hq with rfl | ⟨oo, rfl⟩
          · simp [Log.apart]
          · simp [Log.apart]
        have hne : q ≠ Nat.add base j := fun e => by subst e; rw [show Nat.add base j = base + j from rfl, h'] at hf; cases hf
        simp only [Log.apart]; rw [nbeq_f hne]; rfl
      · have e : q = base + j := hq
        subst e; exact h'
    | gather ps' kill' f' =>
      simp only [Log.compat, Bool.and_eq_true] at h
      obtain ⟨⟨h1, h2⟩, h3, h4⟩ := h
      refine ⟨by simp, by simp, .inl ⟨fun q hq => ?_, fun q hq => ?_⟩⟩
      · rcases hq with rfl | ⟨oo, rfl⟩
        · exact h1
        · exact h2
      · rcases hq with rfl | ⟨oo, rfl⟩
        · exact h3
        · exact h4

theorem exec_comm {base : Nat} {x y : Log} {H H1 H2 : Heap} {vx vy : AV} (hc : Log.compat base x y = true) (hnx : ∀ u, x.a ≠ .ret u) (hny : ∀ u, y.a ≠ .ret u)
    (hx : x.a.exec (some (base + x.i)) H = some (vx, H1)) (fx : x.foot = x.a.foot H) (hy : y.a.exec (some (base + y.i)) H1 = some (vy, H2)) (fy : y.foot = y.a.foot H1) :
    ∃ H1', y.a.exec (some (base + y.i)) H = some (vy, H1') ∧ y.a.foot H = y.foot ∧ x.a.exec (some (base + x.i)) H1' = some (vx, H2) ∧ x.a.foot H1' = x.foot := by
  obtain ⟨ox, oy, hU⟩ := compat_spec hc hnx hny
  rcases hU with ⟨u1, u2⟩ | ⟨b, o, n, g, p, vs, hk, hd⟩
  · obtain ⟨sx, x1, x2, x3, x4⟩ := exec_steps hx fx ox hnx
    obtain ⟨sy, y1, y2, y3, y4⟩ := exec_steps hy fy oy hny
    have hA : ∀ s ∈ sx, y.apart base s.blk = true ∨ (s.isRaise = true ∧ soft base y s.blk) := fun s hs => by
      cases hr : s.isRaise with
      | false => exact .inl (u1 _ ((x2 s hs).2 hr))
      | true =>
        rcases kinds (base := base) y s.blk oy with h | h | h
        · exact .inl h
        · exact .inr ⟨rfl, h⟩
        · have := u2 _ h; rw [(x2 s hs).1] at this; cases this
    have hB : ∀ s ∈ sy, x.apart base s.blk = true ∨ (s.isRaise = true ∧ soft base x s.blk) := fun s hs => by
      cases hr : s.isRaise with
      | false => exact .inl (u2 _ ((y2 s hs).2 hr))
      | true =>
        rcases kinds (base := base) x s.blk ox with h | h | h
        · exact .inl h
        · exact .inr ⟨rfl, h⟩
        · have := u1 _ h; rw [(y2 s hs).1] at this; cases this
    have hC : farS sx sy := fun s hs t ht => by
      by_cases e : s.blk = t.blk
      · cases hr : s.isRaise with
        | false => have := u1 _ ((x2 s hs).2 hr); rw [e, (y2 t ht).1] at this; cases this
        | true =>
          cases hr' : t.isRaise with
          | false => have := u2 _ ((y2 t ht).2 hr'); rw [← e, (x2 s hs).1] at this; cases this
          | true => exact .inr ⟨rfl, rfl⟩
      · exact .inl e
    have hLy : Like base y H1 H := by rw [x1]; exact (like_run hA).symm
    obtain ⟨e1, e2⟩ := y4 H hLy
    obtain ⟨e3, e4⟩ := x4 (runS sy H) (like_run hB)
    refine ⟨_, e1, e2, ?_, e4⟩
    rw [e3, y1, x1, runS_comm hC]
  · obtain ⟨i, a, fa⟩ := x
    obtain ⟨j, b', fb⟩ := y
    dsimp only at hk hx hy fx fy ⊢
    rcases hk with ⟨rfl, rfl⟩ | ⟨rfl, rfl⟩
    · rw [exec_load] at hx
      cases hl : loadV (cont (H.get b)) o n g with
      | none => rw [hl] at hx; cases hx
      | some z =>
        rw [hl] at hx; cases hx
        refine ⟨H2, hy, fy.symm, ?_, fx.symm⟩
        rw [exec_load, store_load hy hd, hl]; rfl
    · rw [exec_load, store_load hx hd] at hy
      cases hl : loadV (cont (H.get b)) o n g with
      | none => rw [hl] at hy; cases hy
      | some z =>
        rw [hl] at hy; cases hy
        exact ⟨H, by rw [exec_load, hl]; rfl, fy.symm, hx, fx.symm⟩

/-- The same where one of the two only returns. -/
theorem exec_comm' {base : Nat} {x y : Log} {H H1 H2 : Heap} {vx vy : AV} (hc : Log.compat base x y = true)
    (hx : x.a.exec (some (base + x.i)) H = some (vx, H1)) (fx : x.foot = x.a.foot H) (hy : y.a.exec (some (base + y.i)) H1 = some (vy, H2)) (fy : y.foot = y.a.foot H1) :
    ∃ H1', y.a.exec (some (base + y.i)) H = some (vy, H1') ∧ y.a.foot H = y.foot ∧ x.a.exec (some (base + x.i)) H1' = some (vx, H2) ∧ x.a.foot H1' = x.foot := by
  by_cases h1 : ∃ u, x.a = .ret u
  · obtain ⟨u, hu⟩ := h1
    rw [hu] at hx fx
    cases hx
    exact ⟨H2, hy, fy.symm, by rw [hu]; rfl, by rw [fx, hu]; rfl⟩
  · by_cases h2 : ∃ u, y.a = .ret u
    · obtain ⟨u, hu⟩ := h2
      rw [hu] at hy fy
      cases hy
      exact ⟨H, by rw [hu]; rfl, by rw [fy, hu]; rfl, hx, fx.symm⟩
    · exact exec_comm hc (fun u e => h1 ⟨u, e⟩) (fun u e => h2 ⟨u, e⟩) hx fx hy fy
end Go.Ab

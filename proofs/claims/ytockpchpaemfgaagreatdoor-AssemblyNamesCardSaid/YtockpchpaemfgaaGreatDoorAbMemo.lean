/- Facts about calls, proved once, and tables of them. The evaluator's tables, and what is to be shown of them. A call that works on one row of the caller's memory, told of that row alone. Where the order of a map's entries is left open: an evaluator that goes every way, and asks of each end what it is told to ask. Facts about calls where the order of a map's entries is left open. -/
import Derived.Test.YtockpchpaemfgaaGreatDoorAbSound
import Derived.Lib.Bytealg
set_option linter.all false
namespace Go.Ab

inductive Tr (α : Type) where
  | nil
  | leaf (k : Nat) (x : α)
  | node (k : Nat) (a b : Tr α)

namespace Tr
variable {α : Type}
def get : Tr α → Nat → Option α
  | .nil, _ => none
  | .leaf k x, n => bif Nat.beq n k then some x else none
  | .node k a b, n => bif Nat.ble k n then b.get n else a.get n
def All (Q : Nat → α → Prop) : Tr α → Prop
  | .nil => True
  | .leaf k x => Q k x
  | .node _ a b => a.All Q ∧ b.All Q
theorem all_get {Q : Nat → α → Prop} {t : Tr α} (h : t.All Q) {n : Nat} {x : α} (hg : t.get n = some x) : Q n x := by
  induction t with
  | nil => cases hg
  | leaf k y =>
    simp only [get] at hg
    cases hb : Nat.beq n k with
    | false => rw [hb] at hg; cases hg
    | true => rw [hb] at hg; cases hg; have := of_nbeq hb; subst this; exact h
  | node k a b iha ihb =>
    simp only [get] at hg
    cases hb : Nat.ble k n with
    | false => rw [hb] at hg; exact iha h.1 hg
    | true => rw [hb] at hg; exact ihb h.2 hg
end Tr

-- ---------------------------------------------------------------- equality of data
def valEq : Value → Value → Bool
  | .int k a, .int k' b => match Nat.beq (kindN k) (kindN k') with
    | true => intEq a b
    | false => false
  | .bool a, .bool b => match a, b with
    | true, true => true
    | false, false => true
    | _, _ => false
  | .string a, .string b => strEq a b
  | .slice none a b, .slice none c d => match Nat.beq a c with
    | true => Nat.beq b d
    | false => false
  | .nilIface, .nilIface => true
  | .pointer none, .pointer none => true
  | .nilFunc, .nilFunc => true
  | _, _ => false

theorem valEq_eq {a b : Value} (h : valEq a b = true) : a = b := by
  unfold valEq at h
  split at h
  · split at h
    · rename_i hk
      have := kind_eq hk; subst this
      rw [intEq_eq] at h
      rw [eq_of_beq h]
    · cases h
  · split at h <;> first | rfl | cases h
  · rw [strEq_true h]
  · split at h
    · rename_i h1; rw [of_nbeq h1, of_nbeq h]
    · cases h
  · rfl
  · rfl
  · rfl
  · cases h

mutual
def eqD : D → D → Bool
  | .leaf v, .leaf w => valEq v w
  | .lit n cs, .lit m ds => match Nat.beq n m with
    | true => eqDs cs ds
    | false => false
  | .fn f cs, .fn g ds => match Nat.beq f g with
    | true => eqDs cs ds
    | false => false
  | .ptr cs, .ptr ds => eqDs cs ds
  | _, _ => false
def eqDs : List D → List D → Bool
  | [], [] => true
  | c :: cs, d :: ds => match eqD c d with
    | true => eqDs cs ds
    | false => false
  | _, _ => false
end

mutual
theorem eqD_eq : ∀ {a b : D}, eqD a b = true → a = b
  | .leaf v, .leaf w, h => by simp only [eqD] at h; rw [valEq_eq h]
  | .lit n cs, .lit m ds, h => by
    simp only [eqD] at h
    split at h
    · rename_i hn; rw [of_nbeq hn, eqDs_eq h]
    · cases h
  | .fn f cs, .fn g ds, h => by
    simp only [eqD] at h
    split at h
    · rename_i hn; rw [of_nbeq hn, eqDs_eq h]
    · cases h
  | .ptr cs, .ptr ds, h => by simp only [eqD] at h; rw [eqDs_eq h]
  | .leaf _, .lit _ _, h => by simp [eqD] at h
  | .leaf _, .fn _ _, h => by simp [eqD] at h
  | .leaf _, .ptr _, h => by simp [eqD] at h
  | .lit _ _, .leaf _, h => by simp [eqD] at h
  | .lit _ _, .fn _ _, h => by simp [eqD] at h
  | .lit _ _, .ptr _, h => by simp [eqD] at h
  | .fn _ _, .leaf _, h => by simp [eqD] at h
  | .fn _ _, .lit _ _, h => by simp [eqD] at h
  | .fn _ _, .ptr _, h => by simp [eqD] at h
  | .ptr _, .leaf _, h => by simp [eqD] at h
  | .ptr _, .lit _ _, h => by simp [eqD] at h
  | .ptr _, .fn _ _, h => by simp [eqD] at h
theorem eqDs_eq : ∀ {a b : List D}, eqDs a b = true → a = b
  | [], [], _ => rfl
  | c :: cs, d :: ds, h => by
    simp only [eqDs] at h
    split at h
    · rename_i hn; rw [eqD_eq hn, eqDs_eq h]
    · cases h
  | [], _ :: _, h => by simp [eqDs] at h
  | _ :: _, [], h => by simp [eqDs] at h
end

mutual
def avEq : AV → AV → Bool
  | .d x, .d y => eqD x y
  | .agg xs, .agg ys => avEqs xs ys
  | .tup xs, .tup ys => avEqs xs ys
  | _, _ => false
def avEqs : List AV → List AV → Bool
  | [], [] => true
  | c :: cs, d :: ds => match avEq c d with
    | true => avEqs cs ds
    | false => false
  | _, _ => false
end

mutual
theorem avEq_eq : ∀ {a b : AV}, avEq a b = true → a = b
  | .d x, b, h => by
    cases b <;> simp only [avEq, Bool.false_eq_true] at h
    rw [eqD_eq h]
  | .agg xs, b, h => by
    cases b <;> simp only [avEq, Bool.false_eq_true] at h
    rw [avEqs_eq h]
  | .tup xs, b, h => by
    cases b <;> simp only [avEq, Bool.false_eq_true] at h
    rw [avEqs_eq h]
  | .ptr _ _, b, h => by simp [avEq] at h
  | .sl _ _ _ _ _, b, h => by simp [avEq] at h
  | .fn _ _, b, h => by simp [avEq] at h
  | .yield _, b, h => by simp [avEq] at h
  | .map _, b, h => by simp [avEq] at h
theorem avEqs_eq : ∀ {a b : List AV}, avEqs a b = true → a = b
  | [], [], _ => rfl
  | c :: cs, d :: ds, h => by
    simp only [avEqs] at h
    split at h
    · rename_i hn; rw [avEq_eq hn, avEqs_eq h]
    · cases h
  | [], _ :: _, h => by simp [avEqs] at h
  | _ :: _, [], h => by simp [avEqs] at h
end

-- ---------------------------------------------------------------- facts
abbrev Ent := List AV × AV

def look (args : List AV) : List Ent → Option AV
  | [] => none
  | e :: l => match avEqs e.1 args with
    | true => some e.2
    | false => look args l

/-- A fact about a call, in whatever memory. -/
def CallFact (P : Program) (G : Nat → Option (List D)) (f : FuncId) (e : Ent) : Prop :=
  ∀ I w vs, RelH I noInj .empty w → VRs I noInj w e.1 vs → (∀ g ds, G g = some ds → CellsD I w g 0 ds) →
    ∃ I' w' vm, RelH I' noInj .empty w' ∧ VR I' noInj w' e.2 vm ∧ Ext I noInj .empty w I' noInj .empty w' ∧ FnDoes P f vs w vm w'

theorem look_ok {P : Program} {E : Env} {f : FuncId} {l : List Ent} (h : ∀ e ∈ l, CallFact P E.glob f e) : HookOK P E f fun args => look args l := by
  intro args v hl _ I w vs h1 h2 h3
  induction l with
  | nil => cases hl
  | cons e l ih =>
    simp only [look] at hl
    split at hl
    · rename_i he
      cases hl
      have := avEqs_eq he
      subst this
      exact h e (.head _) I w vs h1 h2 h3
    · exact ih (fun e he => h e (.tail _ he)) hl

def chk (E : Env) (n : Nat) (f : FuncId) : List Ent → Bool
  | [] => true
  | e :: l => match allPure e.1, aloneH E (ev E n) f e.1 with
    | true, some (v, H) => match Nat.beq H.n 0, avEq v e.2 with
      | true, true => chk E n f l
      | _, _ => false
    | _, _ => false

theorem chk_ok {P : Program} {E : Env} (ok : EnvOK P E) (hk : HooksOK P E) {n : Nat} {f : FuncId} : ∀ {l : List Ent}, chk E n f l = true → ∀ e ∈ l, CallFact P E.glob f e := by
  intro l
  induction l with
  | nil => intro _ e he; cases he
  | cons x l ih =>
    intro h e he
    simp only [chk] at h
    split at h
    case h_2 => cases h
    rename_i v H hp hal
    split at h
    case h_2 => cases h
    rename_i hn hv
    cases he with
    | tail _ he => exact ih h e he
    | head =>
      intro I w vs h1 h2 h3
      obtain ⟨I', ι', w', vm, a1, a2, a3, a4⟩ := aloneH_sim hk (ev_ok ok hk n) (I := I) h3 h1 hp h2 hal
      have := avEq_eq hv
      subst this
      exact ⟨I', w', vm, a1.alone, vr_left a1 (of_nbeq hn) a2, a3.forget, a4⟩

theorem all_append {Q : Ent → Prop} {a b : List Ent} (ha : ∀ e ∈ a, Q e) (hb : ∀ e ∈ b, Q e) : ∀ e ∈ a ++ b, Q e := fun e he => by
  rcases List.mem_append.1 he with h | h
  · exact ha e h
  · exact hb e h
end Go.Ab
namespace Go.Ab

structure Tabs where
  ty : Tr TI
  fn : Tr Func
  flat : Tr (List LK)
  keep : Tr Unit
  share : Tr Unit
  glob : Tr (List D)

def has {α : Type} (t : Tr α) (n : Nat) : Bool := match t.get n with
  | some _ => true
  | none => false

def mkEnv (T : Tabs) (memo : Tr (List Ent)) (h0 : Tr (List AV → Option AV)) (sh : Tr (List AV → Heap → Option (AV × Heap))) : Env where
  ty := T.ty.get
  fn := T.fn.get
  hook f := match memo.get f with
    | some l => some fun a => look a l
    | none => h0.get f
  keep f := has T.keep f
  share f := has T.share f
  shook := sh.get
  glob := T.glob.get
  flat := T.flat.get
  flatKey f := has T.flat f

def PlacesQ (P : Program) : List Field → List (Nat × Nat) → Prop
  | [], [] => True
  | f :: fs, p :: ps => (p.1 = f.offset ∧ ∃ i, P.info? f.type = some i ∧ i.size = p.2) ∧ PlacesQ P fs ps
  | _, _ => False

theorem places_run {P : Program} {w : World} : ∀ {fs : List Field} {ps : List (Nat × Nat)}, PlacesQ P fs ps → ((fs.mapM fun f => do pure (f.offset, ← sizeOf f.type) : Sem (List (Nat × Nat)))).run P w = .ok ps w := by
  intro fs
  induction fs with
  | nil => intro ps h; cases ps with
    | nil => simp
    | cons => cases h
  | cons f fs ih =>
    intro ps h
    cases ps with
    | nil => cases h
    | cons p ps =>
      obtain ⟨⟨h1, i, h2, h3⟩, h4⟩ := h
      have hs : (sizeOf f.type).run P w = .ok p.2 w := by unfold sizeOf typeInfo; simp [Sem.run_bind, h2, h3]
      rw [List.mapM_cons]
      simp only [Sem.run_bind, hs, Result.andThen_ok, Sem.run_pure, ih h4]
      rw [← h1]

def isAggD : TypeDesc → Bool
  | .struct _ | .array _ _ => true
  | _ => false

structure TyQ (P : Program) (t : Nat) (ti : TI) : Prop where
  info : ∃ i, P.info? t = some i ∧ i.size = ti.size ∧ i.bytes = ti.bytes ∧ i.zero = some (if ti.agg then .agg ti.zero.toArray else ti.zero.headD undef)
  one : ti.agg = true ∨ (ti.zero.length = 1 ∧ ti.zero.all oneCell = true)
  za : ti.za = ti.zero.map leaf
  desc : P.underlying t = some ti.desc
  agg : ti.agg = isAggD ti.desc
  places : match ti.desc with
    | .struct fields => PlacesQ P fields.toList ti.places
    | _ => True

def fnB (fn : Func) : Bool := !(fn.name == "runtime.NumGoroutine") && match fn.body with
  | some c => Code.drawOK c
  | none => true

def FnQ (P : Program) (f : Nat) (fn : Func) : Prop := P.funcs[f]? = some fn ∧ fnB fn = true

def FlatQ (P : Program) (t : Nat) (ks : List LK) : Prop :=
  (∀ (xs ys : List Value) b, sameCells ks (xs.map leaf) (ys.map leaf) = some b → ∀ w,
    (∀ op x y, (eqGuard op t x y (.agg xs.toArray) (.agg ys.toArray)).run P w = .ok () w) ∧ (Op.equal t (.agg xs.toArray) (.agg ys.toArray)).run P w = .ok b w) ∧
  (∀ (xs : List Value) b, sameCells ks (xs.map leaf) (xs.map leaf) = some b → ∀ w em, (Instr.checkKey em 10000 t (.agg xs.toArray)).run P w = .ok () w)

theorem env_ok {P : Program} {T : Tabs} (h1 : T.ty.All (TyQ P)) (h2 : T.fn.All (FnQ P)) (h3 : T.flat.All (FlatQ P)) (h4 : P.follows .mixedOrders = true) (memo h0 sh) : EnvOK P (mkEnv T memo h0 sh) where
  info t ti h := by
    have q := Tr.all_get h1 h
    obtain ⟨i, a, b, c, d⟩ := q.info
    refine ⟨i, a, b, c, d, fun hn => ?_⟩
    rcases q.one with h | h
    · rw [hn] at h; cases h
    · exact h
  za t ti h := (Tr.all_get h1 h).za
  desc t ti h := (Tr.all_get h1 h).desc
  agg t ti h := by
    rw [(Tr.all_get h1 h).agg]
    cases ti.desc <;> rfl
  places t ti fields h hd w := by
    have q := (Tr.all_get h1 h).places
    rw [hd] at q
    rw [Array.mapM_eq_mapM_toList]
    have := places_run (w := w) q
    simp only [Sem.run_bind, Sem.run_map]
    rw [this]; rfl
  fn f fn h := by
    obtain ⟨a, b⟩ := Tr.all_get h2 h
    unfold fnB at b
    rw [Bool.and_eq_true] at b
    refine ⟨a, by simpa using b.1, fun c hc => ?_⟩
    have := b.2
    rw [hc] at this; exact this
  mixed := h4
  flat t ks h := (Tr.all_get h3 h).1
  flatKey t ks _ h := (Tr.all_get h3 h).2

/-- The tables of facts are sound. -/
theorem hooks_ok {P : Program} {T : Tabs} {memo : Tr (List Ent)} {h0 : Tr (List AV → Option AV)} {sh : Tr (List AV → Heap → Option (AV × Heap))}
    (hm : memo.All fun f l => ∀ e ∈ l, CallFact P T.glob.get f e) (hh : ∀ (E : Env), E.glob = T.glob.get → h0.All fun f h => HookOK P E f h) (hs : ∀ (E : Env), E.glob = T.glob.get → sh.All fun f h => SHookOK P E f h) : HooksOK P (mkEnv T memo h0 sh) := by
  refine ⟨fun f h hf => ?_, fun f h hf => Tr.all_get (hs _ rfl) hf⟩
  simp only [mkEnv] at hf
  split at hf
  · rename_i l hl
    cases hf
    exact look_ok (Tr.all_get hm hl)
  · exact Tr.all_get (hh _ rfl) hf

/-- The first place of a byte. -/
def idxA (c : Nat) : Nat → List UInt8 → AV
  | _, [] => leaf (.int .i64 (.negSucc 0))
  | i, b :: l => bif Nat.beq b.toNat c then leaf (.int .i64 (.ofNat i)) else idxA c (Nat.succ i) l
def idxHook : List AV → Option AV
  | [.d (.leaf (.string s)), .d (.leaf (.int .u8 (.ofNat c)))] => bif Nat.ble c 255 then some (idxA c 0 s.data.toList) else none
  | _ => none
end Go.Ab
namespace Go.Ab

theorem frame_call {P : Program} {E : Env} {f : FuncId} {args0 : List AV} {v0 : AV} {H1 : Heap} {row row' : List D} {L : Nat} (hsim : CallSim P E f args0 (Heap.empty.push (.cells 0 (row.map .d))) v0 H1)
    (h1 : H1.get 0 = .cells 0 (row'.map .d)) (hrl : row.length = L) (hrl' : row'.length = L) {I : Imm} {ι : Inj} {H : Heap} {w : World} (hr : RelH I ι H w) (hgl : GlobOK E I w) {b k o e m off : Nat} {cs : List AV} (hb : ι b = some (k, o, e)) (hg : H.get b = .cells m cs)
    (hm : m ≤ off) (hlen : cs.length = off + L) (hcut : cut cs off L = some (row.map .d)) {vs : List Value} (hs : VRs I (noInj.put 0 (k, o + off, e - off)) w args0 vs) :
    ∃ I' ι1 w' vm, RelH I' ι (H.set b (.cells m (spl cs off (row'.map .d)))) w' ∧ VR I' ι1 w' v0 vm ∧ Ext I ι H w I' ι (H.set b (.cells m (spl cs off (row'.map .d)))) w' ∧ Enters P f ∧ CallRun P f vs w vm w' := by
  have hlt := (hr.lt b _ hb).1
  have hbr := hr.blk b _ hb
  rw [hg] at hbr
  obtain ⟨g0, g1, gI, g2, g3, g4⟩ := hbr
  have hce : cs.length ≤ e := g1
  have g2 : ∀ i, i < e → ∃ v, w.cell? ⟨k, o + i, none⟩ = some v := g2
  have g3 : ∀ i, i < e → w.frozen? ⟨k, o + i, none⟩ = false := g3
  have hwf0 := Heap.wf_empty
  have hn0 : (Heap.empty.push (.cells 0 (row.map .d))).n = 1 := Heap.n_push
  have hget0 : (Heap.empty.push (.cells 0 (row.map .d))).get 0 = .cells 0 (row.map .d) := Heap.get_push_same hwf0
  have hgetn : ∀ j, j ≠ 0 → (Heap.empty.push (.cells 0 (row.map .d))).get j = .dead := fun j hj => by
    rw [Heap.get_push_ne hwf0 (by exact hj)]; exact Heap.get_empty j
  have hput : ∀ j r, noInj.put 0 (k, o + off, e - off) j = some r → j = 0 ∧ r = (k, o + off, e - off) := fun j r h => by
    by_cases hj : j = 0
    · subst hj; rw [Inj.put_same] at h; cases h; exact ⟨rfl, rfl⟩
    · rw [Inj.put_ne hj] at h; cases h
  have hown0 : ∀ b' o', Own (noInj.put 0 (k, o + off, e - off)) (Heap.empty.push (.cells 0 (row.map .d))) b' o' → b' = k ∧ o + off ≤ o' ∧ o' < o + e := by
    rintro b' o' ⟨j, r, hj, hin⟩
    obtain ⟨rfl, rfl⟩ := hput j r hj
    rw [hget0] at hin
    simp only [InR] at hin
    exact ⟨hin.1, by omega, by omega⟩
  have hinb : ∀ b' o', (b' = k ∧ o + off ≤ o' ∧ o' < o + e) → InR (k, o, e) (H.get b) b' o' := fun b' o' h => by
    rw [hg]; exact ⟨h.1, by dsimp only; omega, h.2.2⟩
  have hownH : ∀ b' o', Own (noInj.put 0 (k, o + off, e - off)) (Heap.empty.push (.cells 0 (row.map .d))) b' o' → Own ι H b' o' := fun b' o' h => ⟨b, _, hb, hinb b' o' (hown0 b' o' h)⟩
  -- the row alone
  have hr0 : RelH I (noInj.put 0 (k, o + off, e - off)) (Heap.empty.push (.cells 0 (row.map .d))) w := by
    refine ⟨Heap.wf_push hwf0, fun j r hj => ?_, fun j hj => ?_, fun j r hj => ?_, fun i j ri rj hij hi hj b' o' _ _ => ?_, fun b' o' hi => ⟨(hr.imm b' o' hi).1, fun h => (hr.imm b' o' hi).2 (hownH b' o' h)⟩⟩
    · obtain ⟨rfl, rfl⟩ := hput j r hj
      exact ⟨by rw [hn0]; omega, (hr.lt b _ hb).2⟩
    · by_cases h0 : j = 0
      · subst h0; exact ⟨_, Inj.put_same⟩
      · rw [hgetn j h0] at hj; exact absurd rfl hj
    · obtain ⟨rfl, rfl⟩ := hput j r hj
      rw [hget0]
      refine ⟨Nat.zero_le _, by simp; omega, fun i hi => by omega, fun i hi => ?_, fun i hi => ?_, fun i x hx => ?_⟩
      · dsimp only at hi ⊢
        obtain ⟨v, hv⟩ := g2 (off + i) (by omega)
        exact ⟨v, by rw [Nat.add_assoc]; exact hv⟩
      · dsimp only at hi ⊢
        rw [Nat.add_assoc]; exact g3 (off + i) (by omega)
      · have hi : i < L := by have := (List.getElem?_eq_some_iff.1 hx).1; simp at this; omega
        have hcs : cs[off + i]? = some x := by
          have := (cut_spec hcut).2.1
          rw [this] at hx
          rw [List.getElem?_take, if_pos hi, List.getElem?_drop] at hx
          exact hx
        obtain ⟨v, hv1, hv2⟩ := g4 _ x hcs
        have hd : ∃ d, x = .d d := by
          simp only [List.getElem?_map] at hx
          cases hq : row[i]? with
          | none => rw [hq] at hx; cases hx
          | some d => rw [hq] at hx; cases hx; exact ⟨d, rfl⟩
        obtain ⟨d, rfl⟩ := hd
        refine ⟨v, by dsimp only; rw [Nat.add_assoc]; exact hv1, ?_⟩
        cases hv2 with | d h => exact .d h
    · obtain ⟨rfl, _⟩ := hput i ri hi
      obtain ⟨rfl, _⟩ := hput j rj hj
      exact hij rfl
  obtain ⟨I', ι1, w', vm, a1, a2, hx, _, a5, a6⟩ := hsim I _ w vs hr0 hs hgl
  have hι1 : ι1 0 = some (k, o + off, e - off) := hx.inj 0 _ Inj.put_same
  have hbr1 := a1.blk 0 _ hι1
  rw [h1] at hbr1
  obtain ⟨_, _, _, f2, f3, f4⟩ := hbr1
  have hsl : off + (row'.map AV.d).length ≤ cs.length := by simp; omega
  have hcsl : (spl cs off (row'.map .d)).length = cs.length := spl_length hsl
  have hcell : ∀ b' o' v, ¬ (b' = k ∧ o + off ≤ o' ∧ o' < o + e) → w.cell? ⟨b', o', none⟩ = some v → w'.cell? ⟨b', o', none⟩ = some v := fun b' o' v hn hv => hx.cell hv fun h => hn (hown0 b' o' h)
  have himm := hx.immCell hr0
  have hvr : ∀ x v, VR I ι w x v → VR I' ι w' x v := fun x v h => h.mono hx.immMono himm (fun _ _ h => h)
  have hsame : (H.set b (.cells m (spl cs off (row'.map .d)))).get b = .cells m (spl cs off (row'.map .d)) := Heap.get_set_same hr.wf hlt
  have hIn : ∀ j s, ι j = some s → ∀ b' o', InR s ((H.set b (.cells m (spl cs off (row'.map .d)))).get j) b' o' → InR s (H.get j) b' o' := fun j s hj b' o' hin => by
    by_cases hjb : j = b
    · subst hjb; rw [hsame] at hin; rw [hg]; exact hin
    · rw [Heap.get_set_ne hjb] at hin; exact hin
  refine ⟨I', ι1, w', vm, ⟨Heap.wf_set hr.wf, fun j s hj => ⟨by rw [Heap.n_set]; exact (hr.lt j s hj).1, Nat.lt_of_lt_of_le (hr.lt j s hj).2 hx.size⟩, fun j hj => ?_, fun j s hj => ?_, fun i j ri rj hij hi hj b' o' p q => hr.sep i j ri rj hij hi hj b' o' (hIn i ri hi b' o' p) (hIn j rj hj b' o' q), fun b' o' hi => ⟨(a1.imm b' o' hi).1, fun hown => ?_⟩⟩, a2,
    ⟨hx.os, hx.output, hx.tape, hx.drawn, hx.size, fun b' c el fr hbb => let ⟨c', p, q, s⟩ := hx.cells b' c el fr hbb; ⟨c', p, q, fun o' ho' => s o' fun h => ho' (hownH b' o' h)⟩, fun b' o' hbb hc hn => hx.objs b' o' hbb hc fun h => hn (hownH b' 0 h), hx.loops, fun _ _ h => h, by rw [Heap.n_set]; exact Nat.le_refl _, hx.immMono,
      fun b' o' hl hi => (hx.immOld b' o' hl hi).imp id (hownH b' o'), fun b' o' _ ⟨j, s, hj, hin⟩ => ⟨j, s, hj, hIn j s hj b' o' hin⟩⟩, a5, a6⟩
  · by_cases hjb : j = b
    · subst hjb; exact ⟨_, hb⟩
    · rw [Heap.get_set_ne hjb] at hj; exact hr.live j hj
  · by_cases hjb : j = b
    · subst hjb
      rw [hb] at hj; cases hj
      rw [hsame]
      refine ⟨by rw [hcsl]; exact g0, by rw [hcsl]; exact hce, fun i hi => hx.immMono _ _ (gI i hi), fun i hi => ?_, fun i hi => ?_, fun i x hxx => ?_⟩
      · dsimp only at hi ⊢
        obtain ⟨v, hv⟩ := g2 i hi
        obtain ⟨c, el, fr, hc, hcv⟩ := cell?_eq.1 hv
        obtain ⟨c', p, q, _⟩ := hx.cells k c el fr hc
        have hlt2 := (Array.getElem?_eq_some_iff.1 hcv).1
        exact ⟨c'[o + i]'(by omega), cell?_eq.2 ⟨c', el, fr, p, by simp [show o + i < c'.size by omega]⟩⟩
      · dsimp only at hi ⊢
        obtain ⟨v, hv⟩ := g2 i hi
        obtain ⟨c, el, fr, hc, hcv⟩ := cell?_eq.1 hv
        obtain ⟨c', p, q, _⟩ := hx.cells k c el fr hc
        have := g3 i hi
        unfold World.frozen? at this ⊢
        dsimp only at this ⊢
        rw [hc] at this; rw [p]; exact this
      · rw [spl_get hsl] at hxx
        by_cases hi : off ≤ i ∧ i < off + (row'.map AV.d).length
        · rw [if_pos hi] at hxx
          obtain ⟨v, hv1, hv2⟩ := f4 (i - off) x hxx
          refine ⟨v, ?_, ?_⟩
          · dsimp only at hv1 ⊢
            rw [show o + off + (i - off) = o + i by omega] at hv1; exact hv1
          · simp only [List.getElem?_map] at hxx
            cases hq : row'[i - off]? with
            | none => rw [hq] at hxx; cases hxx
            | some d => rw [hq] at hxx; cases hxx; cases hv2 with | d h => exact .d h
        · rw [if_neg hi] at hxx
          obtain ⟨v, hv1, hv2⟩ := g4 i x hxx
          have hil := (List.getElem?_eq_some_iff.1 hxx).1
          simp at hi
          exact ⟨v, hcell _ _ v (by dsimp only; omega) hv1, hvr x v hv2⟩
    · rw [Heap.get_set_ne hjb]
      have hdis : ∀ b' o', InR s (H.get j) b' o' → ¬ Own (noInj.put 0 (k, o + off, e - off)) (Heap.empty.push (.cells 0 (row.map .d))) b' o' := fun b' o' p q => hr.sep j b s _ hjb hj hb b' o' p (hinb b' o' (hown0 b' o' q))
      exact (hr.blk j s hj).mono hx.immMono himm (fun _ _ h => h)
        (fun b' c el fr hc => let ⟨c', p, _, q⟩ := hx.cells b' c el fr hc; ⟨c', p, fun o' ho' => q o' (hdis b' o' ho')⟩)
        (fun b' o' hc hn hin => hx.objs b' o' hc hn (hdis b' 0 hin))
  · obtain ⟨j, s, hj, hin⟩ := hown
    have hin := hIn j s hj b' o' hin
    have hl := inR_lt hr hj hin
    rcases hx.immOld b' o' hl hi with h | h
    · exact (hr.imm b' o' h).2 ⟨j, s, hj, hin⟩
    · obtain ⟨rfl, p, q⟩ := hown0 b' o' h
      exact (a1.imm b' o' hi).2 ⟨0, _, hι1, by rw [h1]; exact ⟨rfl, by dsimp only; omega, by dsimp only; omega⟩⟩
end Go.Ab
namespace Go.Ab

/-- Every entry that was not met. -/
def allLeft (seen : List Nat) (k : Nat → AV → AV → Bool) : Nat → List (AV × AV) → Bool
  | _, [] => true
  | i, e :: es => bif isIn i seen then allLeft seen k (Nat.succ i) es else (match k i e.1 e.2 with
    | true => allLeft seen k (Nat.succ i) es
    | false => false)
def noneLeft (seen : List Nat) : Nat → List (AV × AV) → Bool
  | _, [] => true
  | i, _ :: es => bif isIn i seen then noneLeft seen (Nat.succ i) es else false

/-- The next entry: every one that was not met; or, where s holds one number, that one alone. -/
def nextK (n : Nat) (x : AV) (H : Heap) (s : List Nat) (k : List Nat → AV → Heap → Bool) : Bool :=
  match x with
  | .ptr b 0 => match H.get b with
    | .miter mb since seen last => match H.get mb with
      | .map es =>
        match Nat.beq es.length since, Nat.ble 1 last, Nat.ble es.length n with
        | true, true, true => bif noneLeft seen 0 es then k s (.tup [bool false]) H
          else match s with
            | [] => allLeft seen (fun i kk vv => k [] (.tup [bool true, kk, vv]) (H.set b (.miter mb since (i :: seen) es.length))) 0 es
            | j :: _ => bif isIn j seen then true else match nth es j with
              | some e => k [] (.tup [bool true, e.1, e.2]) (H.set b (.miter mb since (j :: seen) es.length))
              | none => true
        | _, _, _ => false
      | _ => false
    | _ => false
  | _ => false

/-- What is so for each first choice, or behind it. -/
def Good (n : Nat) (g : List Nat → Bool) : Prop := (∀ j, j < n → g [j] = true) ∨ g [] = true
theorem good_false {n : Nat} (hn : 0 < n) : ¬ Good n fun _ => false := by
  rintro (h | h)
  · have := h 0 hn; cases this
  · cases h

section
variable (E : Env) (r : Rec) (n : Nat)
def opsK (ops : List Oper) : List Oper → List Nat → St → (List Nat → St → Bool) → Bool
  | [], s, st, k => k s st
  | o :: rest, s, st, k => match wantedA ops st.t o with
    | false => opsK ops rest s ⟨put st.t o.dst undefA, st.H⟩ k
    | true => match o.op with
      | .next x false => nextK n (evalO st.t x) st.H s fun s v H => opsK ops rest s ⟨put st.t o.dst v, H⟩ k
      | _ => match evOp E r ops o st with
        | some st => opsK ops rest s st k
        | none => false

structure RecK where
  code : FuncId → Code → List Nat → St → (List Nat → Ex → St → Bool) → Bool

def evK (rk : RecK) (f : FuncId) : Code → List Nat → St → (List Nat → Ex → St → Bool) → Bool
  | .region id ops draw, s, st, k => match draw with
    | true => match evCode E r f (.region id ops true) st with
      | some (e, st) => k s e st
      | none => false
    | false => opsK E r n ops.toList ops.toList s st fun s st => k s .normal st
  | .seq a b, s, st, k => evK rk f a s st fun s e st => match e with
    | .normal => evK rk f b s st k
    | e => k s e st
  | .cond c a b, s, st, k => match asBool (evalO st.t c) with
    | some true => evK rk f a s st k
    | some false => evK rk f b s st k
    | none => false
  | .block id c, s, st, k => evK rk f c s st fun s e st => match e with
    | .exit id' => bif Nat.beq id' id then k s .normal st else k s (.exit id') st
    | e => k s e st
  | .loop c, s, st, k => evK rk f c s st fun s e st => match e with
    | .normal => rk.code f (.loop c) s st k
    | e => k s e st
  | c, s, st, k => match evCode E r f c st with
    | some (e, st) => k s e st
    | none => false
end

/-- m rounds. -/
def manyK (E : Env) (r : Rec) (n : Nat) : Nat → RecK
  | 0 => ⟨fun _ _ _ _ _ => false⟩
  | m + 1 => ⟨evK E r n (manyK E r n m)⟩

def CodeAt (P : Program) (f : FuncId) (c : Code) (ro : Option Nat) (I : Imm) (ι : Inj) (st : St) (w : World) (tm : List Value) (e : Ex) (st' : St) : Prop :=
  ∃ I' ι' w' tm' ds, RelH I' ι' st'.H w' ∧ TR I' ι' w' st'.t tm' ∧ Ext I ι st.H w I' ι' st'.H w' ∧ (∀ id, id < st.H.n → ι' id = ι id) ∧ (∀ l, ro = some l → ds = []) ∧ ds.Nodup ∧
      (∀ D ∈ ds, w.heap.size ≤ D ∧ MarkOK ι' st'.H w' D) ∧
      ∀ (b : Frame) k cs dfs, b.fn = f → b.roundOf = ro → b.kind = .normal → Arr P (lone (b.atR ⟨tm.toArray, dfs⟩ (.code c :: k)) cs w) b k cs e ⟨tm'.toArray, marksOf ds ++ dfs⟩ w'

/-- Code that comes to one of some ends. -/
def CodeTo (P : Program) (E : Env) (f : FuncId) (c : Code) (st : St) (Q : Ex → St → Prop) : Prop :=
  ∀ (ro : Option Nat) I ι w tm, RelH I ι st.H w → TR I ι w st.t tm → GlobOK E I w → (∀ l, ro = some l → ∃ r, w.heap[l]? = some (Obj.loop r)) → ∃ e st', Q e st' ∧ CodeAt P f c ro I ι st w tm e st'

theorem CodeTo.of_sim {P : Program} {E : Env} {f : FuncId} {c : Code} {st st' : St} {e : Ex} {Q : Ex → St → Prop} (h : CodeSim P E f c st e st') (q : Q e st') : CodeTo P E f c st Q :=
  fun ro I ι w tm a b c d => ⟨e, st', q, h ro I ι w tm a b c d⟩

theorem CodeTo.mono {P : Program} {E : Env} {f : FuncId} {c : Code} {st : St} {Q Q' : Ex → St → Prop} (h : CodeTo P E f c st Q) (q : ∀ e st', Q e st' → Q' e st') : CodeTo P E f c st Q' :=
  fun ro I ι w tm a b c d => let ⟨e, st', q1, h1⟩ := h ro I ι w tm a b c d; ⟨e, st', q _ _ q1, h1⟩

section
variable {P : Program} {E : Env} {f : FuncId}

theorem CodeTo.seq {x y : Code} {st : St} {Q1 Q : Ex → St → Prop} (hx : CodeTo P E f x st Q1) (hy : ∀ st1, Q1 .normal st1 → CodeTo P E f y st1 Q) (ho : ∀ e st1, e ≠ .normal → Q1 e st1 → Q e st1) : CodeTo P E f (.seq x y) st Q := by
  intro ro I ι w tm hr ht hg hro
  obtain ⟨e, st1, q1, I1, ι1, w1, tm1, ds1, a1, a2, a3, a4, a5, a6, a7, a8⟩ := hx ro I ι w tm hr ht hg hro
  by_cases he : e = .normal
  · subst he
    obtain ⟨e2, st2, q2, I2, ι2, w2, tm2, ds2, b1, b2, b3, b4, b5, b6, b7, b8⟩ := hy st1 q1 ro I1 ι1 w1 tm1 a1 a2 (hg.ext a3 hr) (fun l hl => by
      obtain ⟨r0, hr0⟩ := hro l hl
      exact a3.loops l r0 hr0)
    obtain ⟨m1, m2⟩ := marks_join (I := I1) (I0 := I) (ι0 := ι) (H0 := st.H) a3.size b3 a6 b6 a7 b7
    refine ⟨e2, st2, q2, I2, ι2, w2, tm2, ds2 ++ ds1, b1, b2, a3.trans b3, fun id hlt => by rw [b4 id (Nat.lt_of_lt_of_le hlt a3.n), a4 id hlt], fun l hl => by rw [a5 l hl, b5 l hl]; rfl, m1, m2, fun b k cs dfs hb hbr hbk => ?_⟩
    have s1 := a8 b (.code y :: k) cs dfs hb hbr hbk
    have s2 := b8 b k cs (marksOf ds1 ++ dfs) hb hbr hbk
    rw [← List.append_assoc, ← marksOf_append] at s2
    exact arr_trans (Steps.head stepR_seq s1) s2
  · exact ⟨e, st1, ho e st1 he q1, I1, ι1, w1, tm1, ds1, a1, a2, a3, a4, a5, a6, a7, fun b k cs dfs hb hbr hbk => arr_trans (.one stepR_seq) (arr_pass (fun _ => rfl) he (a8 b (.code y :: k) cs dfs hb hbr hbk))⟩

theorem CodeTo.cond {c : Operand} {x y : Code} {st : St} {Q : Ex → St → Prop} {t : Bool} (hb : asBool (evalO st.t c) = some t) (h : CodeTo P E f (if t then x else y) st Q) : CodeTo P E f (.cond c x y) st Q := by
  intro ro I ι w tm hr ht hg hro
  have hv := asBool_spec hb (same_eval ht c)
  obtain ⟨e, st1, q1, I1, ι1, w1, tm1, ds1, a1, a2, a3, a4, a5, a6, a7, a8⟩ := h ro I ι w tm hr ht hg hro
  refine ⟨e, st1, q1, I1, ι1, w1, tm1, ds1, a1, a2, a3, a4, a5, a6, a7, fun b k cs dfs hb hbr hbk => arr_trans (.one (stepR_cond (t := t) (by rw [evalM_eq]; exact hv))) ?_⟩
  have := a8 b k cs dfs hb hbr hbk
  cases t <;> exact this

theorem CodeTo.block {id : Nat} {c : Code} {st : St} {Q1 Q : Ex → St → Prop} (h : CodeTo P E f c st Q1) (h1 : ∀ st1, Q1 .normal st1 → Q .normal st1) (h2 : ∀ st1, Q1 (.exit id) st1 → Q .normal st1)
    (h3 : ∀ id' st1, id' ≠ id → Q1 (.exit id') st1 → Q (.exit id') st1) (h4 : ∀ st1, Q1 .ret st1 → Q .ret st1) : CodeTo P E f (.block id c) st Q := by
  intro ro I ι w tm hr ht hg hro
  obtain ⟨e, st1, q1, I1, ι1, w1, tm1, ds1, a1, a2, a3, a4, a5, a6, a7, a8⟩ := h ro I ι w tm hr ht hg hro
  cases e with
  | normal => exact ⟨.normal, st1, h1 st1 q1, I1, ι1, w1, tm1, ds1, a1, a2, a3, a4, a5, a6, a7, fun b k cs dfs hb hbr hbk => (Steps.head stepR_block (a8 b (.inBlock id :: k) cs dfs hb hbr hbk)).trans (.one stepR_inBlock)⟩
  | exit id' =>
    by_cases hid : id' = id
    · subst hid
      refine ⟨.normal, st1, h2 st1 q1, I1, ι1, w1, tm1, ds1, a1, a2, a3, a4, a5, a6, a7, fun b k cs dfs hb hbr hbk => ?_⟩
      obtain ⟨k2, e1, e2⟩ := a8 b (.inBlock id' :: k) cs dfs hb hbr hbk
      exact (Steps.head stepR_block e2).trans (.one (stepR_exit (by rw [e1]; simp [exitTo])))
    · refine ⟨.exit id', st1, h3 id' st1 hid q1, I1, ι1, w1, tm1, ds1, a1, a2, a3, a4, a5, a6, a7, fun b k cs dfs hb hbr hbk => ?_⟩
      obtain ⟨k2, e1, e2⟩ := a8 b (.inBlock id :: k) cs dfs hb hbr hbk
      refine ⟨k2, ?_, Steps.head stepR_block e2⟩
      rw [e1]
      have : (id == id') = false := by simp; exact fun h => hid h.symm
      simp [exitTo, this]
  | ret =>
    refine ⟨.ret, st1, h4 st1 q1, I1, ι1, w1, tm1, ds1, a1, a2, a3, a4, a5, a6, a7, fun b k cs dfs hb hbr hbk => ?_⟩
    obtain ⟨k2, e2⟩ := a8 b (.inBlock id :: k) cs dfs hb hbr hbk
    exact ⟨k2, Steps.head stepR_block e2⟩

theorem CodeTo.loop {c : Code} {st : St} {Q1 Q : Ex → St → Prop} (h : CodeTo P E f c st Q1) (hn : ∀ st1, Q1 .normal st1 → CodeTo P E f (.loop c) st1 Q) (ho : ∀ e st1, e ≠ .normal → Q1 e st1 → Q e st1) : CodeTo P E f (.loop c) st Q := by
  intro ro I ι w tm hr ht hg hro
  obtain ⟨e, st1, q1, I1, ι1, w1, tm1, ds1, a1, a2, a3, a4, a5, a6, a7, a8⟩ := h ro I ι w tm hr ht hg hro
  by_cases he : e = .normal
  · subst he
    obtain ⟨e2, st2, q2, I2, ι2, w2, tm2, ds2, b1, b2, b3, b4, b5, b6, b7, b8⟩ := hn st1 q1 ro I1 ι1 w1 tm1 a1 a2 (hg.ext a3 hr) (fun l hl => by
      obtain ⟨r0, hr0⟩ := hro l hl
      exact a3.loops l r0 hr0)
    obtain ⟨m1, m2⟩ := marks_join (I := I1) (I0 := I) (ι0 := ι) (H0 := st.H) a3.size b3 a6 b6 a7 b7
    refine ⟨e2, st2, q2, I2, ι2, w2, tm2, ds2 ++ ds1, b1, b2, a3.trans b3, fun id hlt => by rw [b4 id (Nat.lt_of_lt_of_le hlt a3.n), a4 id hlt], fun l hl => by rw [a5 l hl, b5 l hl]; rfl, m1, m2, fun b k cs dfs hb hbr hbk => ?_⟩
    have s1 := a8 b (.inLoop c :: k) cs dfs hb hbr hbk
    have s2 := b8 b k cs (marksOf ds1 ++ dfs) hb hbr hbk
    rw [← List.append_assoc, ← marksOf_append] at s2
    exact arr_trans (Steps.head stepR_loop s1) (arr_loop s2)
  · exact ⟨e, st1, ho e st1 he q1, I1, ι1, w1, tm1, ds1, a1, a2, a3, a4, a5, a6, a7, fun b k cs dfs hb hbr hbk => arr_trans (.one stepR_loop) (arr_pass (fun _ => rfl) he (a8 b (.inLoop c :: k) cs dfs hb hbr hbk))⟩
end

-- ---------------------------------------------------------------- the next entry of a map
theorem allLeft_spec {seen : List Nat} {k : Nat → AV → AV → Bool} : ∀ (es : List (AV × AV)) (i : Nat), allLeft seen k i es = true → ∀ j (hj : j < es.length), i + j ∉ seen → k (i + j) es[j].1 es[j].2 = true := by
  intro es
  induction es with
  | nil => intro i _ j hj; simp at hj
  | cons e es ih =>
    intro i h j hj hn
    simp only [allLeft] at h
    have rest : allLeft seen k (Nat.succ i) es = true := by
      cases hi : isIn i seen with
      | true => rw [hi] at h; exact h
      | false =>
        rw [hi] at h
        simp only [cond_false] at h
        split at h
        · exact h
        · cases h
    cases j with
    | zero =>
      have hi : isIn i seen = false := by
        rw [← Bool.not_eq_true, isIn_mem]; exact hn
      rw [hi] at h
      simp only [cond_false] at h
      split at h
      · rename_i hk; exact hk
      · cases h
    | succ j =>
      have := ih (Nat.succ i) rest j (by simpa using hj) (by rw [show Nat.succ i + j = i + (j + 1) by omega]; exact hn)
      rw [show i + (j + 1) = Nat.succ i + j by omega]; exact this
theorem noneLeft_spec {seen : List Nat} : ∀ (es : List (AV × AV)) (i : Nat), (noneLeft seen i es = true ↔ ∀ j, j < es.length → i + j ∈ seen) := by
  intro es
  induction es with
  | nil => intro i; simp [noneLeft]
  | cons e es ih =>
    intro i
    simp only [noneLeft]
    cases hi : isIn i seen with
    | true =>
      rw [cond_true, ih]
      constructor
      · intro h j hj
        cases j with
        | zero => exact isIn_mem.1 hi
        | succ j => have := h j (by simpa using hj); rw [show Nat.succ i + j = i + (j + 1) by omega] at this; exact this
      · intro h j hj
        have := h (j + 1) (by simpa using hj)
        rw [show Nat.succ i + j = i + (j + 1) by omega]; exact this
    | false =>
      rw [cond_false]
      simp only [Bool.false_eq_true, false_iff]
      intro h
      have := h 0 (by simp)
      rw [Nat.add_zero, ← isIn_mem, hi] at this; cases this

theorem next_to {P : Program} {I : Imm} {ι : Inj} {H : Heap} {w : World} (hr : RelH I ι H w) {x : AV} {xv : Value} (hx : VR I ι w x xv) {n : Nat} (hn : 0 < n) {k : List Nat → AV → Heap → Bool} (h : Good n fun s => nextK n x H s k) (ty : TypeId) :
    ∃ v H', Good n (fun s => k s v H') ∧ Post I ι H w none H' v fun w' vm => (Instr.next xv false ty).run P w = .ok vm w' := by
  have shape : ∀ s, nextK n x H s k = true → ∃ b mb since seen last es, x = .ptr b 0 ∧ H.get b = .miter mb since seen last ∧ H.get mb = .map es ∧ es.length = since ∧ 1 ≤ last ∧ es.length ≤ n := by
    intro s hs
    unfold nextK at hs
    split at hs
    case h_2 => cases hs
    rename_i b
    split at hs
    case h_2 => cases hs
    rename_i mb since seen last hg
    split at hs
    case h_2 => cases hs
    rename_i es hgm
    split at hs
    case h_2 => cases hs
    rename_i hlen hlast hln
    exact ⟨b, mb, since, seen, last, es, rfl, hg, hgm, of_nbeq hlen, of_nble hlast, of_nble hln⟩
  obtain ⟨b, mb, since, seen, last, es, rfl, hg, hgm, hlen, hlast, hln⟩ : ∃ b mb since seen last es, x = .ptr b 0 ∧ H.get b = .miter mb since seen last ∧ H.get mb = .map es ∧ es.length = since ∧ 1 ≤ last ∧ es.length ≤ n := by
    rcases h with h | h
    · exact shape [0] (h 0 hn)
    · exact shape [] h
  have hnext : ∀ s, nextK n (.ptr b 0) H s k = (bif noneLeft seen 0 es then k s (.tup [bool false]) H
          else match s with
            | [] => allLeft seen (fun i kk vv => k [] (.tup [bool true, kk, vv]) (H.set b (.miter mb since (i :: seen) es.length))) 0 es
            | j :: _ => bif isIn j seen then true else match nth es j with
              | some e => k [] (.tup [bool true, e.1, e.2]) (H.set b (.miter mb since (j :: seen) es.length))
              | none => true) := by
    intro s
    unfold nextK
    simp only [hg, hgm, nbeq_t hlen, nble_t hlast, nble_t hln]
  simp only [hnext] at h
  cases hx with
  | ptr hb =>
    rename_i kk o e
    have hbr := hr.blk b _ hb
    rw [hg] at hbr
    obtain ⟨⟨r', hm, hb1⟩, ho⟩ := hbr
    have hb1 : w.heap[kk]? = some (.mapIter (some r'.1) since seen.reverse.toArray last) := hb1
    have ho : o = 0 := ho
    subst ho
    have hbm := hr.blk mb _ hm
    rw [hgm] at hbm
    obtain ⟨ents, clock, h1, h2, h3, h4, h5⟩ := hbm
    have hlt : kk < w.heap.size := (Array.getElem?_eq_some_iff.1 hb1).1
    have hgo : ∀ W : World, W.heap = w.heap → (getObj kk).run P W = .ok (.mapIter (some r'.1) since seen.reverse.toArray last) W := fun W hW => by simp [getObj, Sem.run, hW, hb1]
    have hgm' : ∀ W : World, W.heap = w.heap → (getObj r'.1).run P W = .ok (.map ents clock) W := fun W hW => run_getObj_map' (by rw [hW]; exact h1)
    have hlen2 : ents.toList.length = es.length := by have := h2.len; simpa using this
    have hlen3 : ents.size = es.length := by rw [← hlen2]; simp
    have hborn : ∀ j (hj : j < ents.size), ents[j].born = j := by
      intro j hj
      have := congrArg (·[j]?) h4
      simp only [List.getElem?_map, Array.getElem?_toList, Array.getElem?_eq_getElem hj, Option.map_some, List.getElem?_range (show j < es.length by omega), Option.some.injEq] at this
      exact this
    have hnogo : (!(seen.reverse.toArray.isEmpty) && !(ents.isEmpty) && ents.all (fun e => decide (e.born ≥ last))) = false := by
      by_cases he : ents.isEmpty = true
      · rw [he]; simp
      · have hpos : 0 < ents.size := by
          rw [Array.isEmpty_iff_size_eq_zero] at he; omega
        have : ents.all (fun e => decide (e.born ≥ last)) = false := by
          rw [← Bool.not_eq_true, Array.all_eq_true]
          intro hall
          have := hall 0 hpos
          rw [hborn 0 hpos] at this
          simp at this; omega
        rw [this]; simp
    have hmemB : ∀ q : Nat, (seen.reverse.toArray.contains q) = decide (q ∈ seen) := fun q => by
      rw [Bool.eq_iff_iff]; simp
    obtain ⟨left, hleft⟩ : ∃ left, left = ents.filter (fun e => !seen.reverse.toArray.contains e.born) := ⟨_, rfl⟩
    have hmem : ∀ e, e ∈ left ↔ ∃ j, ∃ hj : j < ents.size, e = ents[j] ∧ j ∉ seen := by
      intro e
      rw [hleft, Array.mem_filter]
      constructor
      · rintro ⟨he, hn⟩
        obtain ⟨j, hj, rfl⟩ := Array.mem_iff_getElem.1 he
        rw [hmemB, hborn j hj] at hn
        exact ⟨j, hj, rfl, by simpa using hn⟩
      · rintro ⟨j, hj, rfl, hn⟩
        exact ⟨Array.getElem_mem hj, by rw [hmemB, hborn j hj]; simpa using hn⟩
    have hold : left.filter (fun e => decide (e.born < since)) = left := by
      rw [Array.filter_eq_self]
      intro e he
      obtain ⟨j, hj, rfl, _⟩ := (hmem e).1 he
      rw [hborn j hj]; simp; omega
    have hnew : left.filter (fun e => decide (e.born ≥ since)) = #[] := by
      rw [Array.filter_eq_empty_iff]
      intro e he
      obtain ⟨j, hj, rfl, _⟩ := (hmem e).1 he
      rw [hborn j hj]; simp; omega
    obtain ⟨cand, hcand⟩ : ∃ cand, cand = (if left.isEmpty then #[none] else #[]) ++ (left ++ #[]).map some := ⟨_, rfl⟩
    have hcand1 : 0 < cand.size := by
      rw [hcand]
      cases he : left.isEmpty with
      | true => simp; try omega
      | false =>
        rw [← Bool.not_eq_true, Array.isEmpty_iff_size_eq_zero] at he
        simp; omega
    obtain ⟨q, w1, hch, hwh, hq, hx0⟩ : ∃ q w1, (choose (.mapNext cand.size)).run P w = .ok q w1 ∧ w1.heap = w.heap ∧ q < cand.size ∧ Ext I ι H w I ι H w1 := by
      rw [run_choose]
      by_cases hf : (Question.mapNext cand.size).forced = true
      · rw [if_pos hf]
        exact ⟨0, w, rfl, rfl, hcand1, Ext.refl I ι H w⟩
      · rw [if_neg hf]
        exact ⟨_, _, rfl, rfl, Nat.mod_lt _ hcand1, ext_heap rfl rfl rfl rfl (Nat.le_succ _)⟩
    have hr1 : RelH I ι H w1 := relH_heap hwh hr
    have hpre : ∀ (res : World → Result Value), (∀ a, a = cand[q]? → (match a with
          | some (some e) => do
            setObj kk (.mapIter (some r'.1) since (seen.reverse.toArray.push e.born) clock)
            pure (.tuple #[.bool true, e.key, e.val])
          | some none => pure (.tuple #[.bool false])
          | none => stuck "Next: no such candidate" : Sem Value).run P w1 = res w1) → (Instr.next (.pointer (some ⟨kk, 0 + 0, none⟩)) false ty).run P w = res w1 := by
      intro res hres
      unfold Instr.next
      simp only [Nat.add_zero, Sem.run_bind, hgo w rfl, Result.andThen_ok, hgm' w rfl, hnogo, Bool.false_eq_true, if_false]
      rw [← hleft, hold, hnew, ← hcand]
      simp only [Sem.run_bind, hch, Result.andThen_ok]
      exact hres _ rfl
    cases hnl : noneLeft seen 0 es with
    | true =>
      rw [hnl] at h
      simp only [cond_true] at h
      have hemp : left = #[] := by
        rw [Array.eq_empty_iff_forall_not_mem]
        intro e he
        obtain ⟨j, hj, rfl, hn⟩ := (hmem e).1 he
        have := (noneLeft_spec es 0).1 hnl j (by omega)
        rw [Nat.zero_add] at this
        exact hn this
      have hc : cand = #[none] := by rw [hcand, hemp]; simp
      have hq0 : q = 0 := by
        rw [hc] at hq; simpa using hq
      refine ⟨_, _, h, I, ι, w1, .tuple #[.bool false], hr1, VR.tup' (VRs.nil.cons (VR.leaf _)), hx0, fun _ _ _ => rfl, ?_⟩
      rw [hpre (fun W => .ok (.tuple #[.bool false]) W) (fun a ha => by
        subst ha
        rw [hc, hq0]; rfl)]
    | false =>
      rw [hnl] at h
      simp only [cond_false] at h
      have hne : left.isEmpty = false := by
        rw [← Bool.not_eq_true, Array.isEmpty_iff]
        intro hemp
        rw [← Bool.not_eq_true] at hnl
        apply hnl
        rw [noneLeft_spec]
        intro j hj
        rw [Nat.zero_add]
        apply Decidable.byContradiction
        intro hn
        have hj' : j < ents.size := by omega
        have := (hmem ents[j]).2 ⟨j, hj', rfl, hn⟩
        rw [hemp] at this; simp at this
      have hc : cand = left.map some := by rw [hcand, hne]; simp
      have hpos : 0 < cand.size := by
        rw [hc, Array.size_map]
        rw [← Bool.not_eq_true, Array.isEmpty_iff_size_eq_zero] at hne
        omega
      have hqlt : q < cand.size := hq
      have hql : q < left.size := by rw [hc, Array.size_map] at hqlt; exact hqlt
      have hcq : cand[q]? = some (some left[q]) := by rw [hc]; simp [hql]
      obtain ⟨j, hj, hje, hjn⟩ := (hmem left[q]).1 (Array.getElem_mem hql)
      have hjes : j < es.length := by omega
      have hkk : k [] (.tup [bool true, es[j].1, es[j].2]) (H.set b (.miter mb since (j :: seen) es.length)) = true := by
        rcases h with h | h
        · have := h j (by omega)
          dsimp only at this
          have hji : isIn j seen = false := by rw [← Bool.not_eq_true, isIn_mem]; exact hjn
          rw [hji, nth_eq, List.getElem?_eq_getElem hjes] at this
          exact this
        · have := allLeft_spec es 0 h j hjes (by rw [Nat.zero_add]; exact hjn)
          rw [Nat.zero_add] at this
          exact this
      have hb1' : w1.heap[kk]? = some (.mapIter (some r'.1) since seen.reverse.toArray last) := by rw [hwh]; exact hb1
      have hso : ∀ o, (setObj kk o).run P w1 = .ok () { w1 with heap := w1.heap.setIfInBounds kk o } := fun o => by simp [setObj, Sem.run, hb1']
      have hne' : ∀ b' o', b' ≠ kk → (w1.heap.setIfInBounds kk o')[b']? = w1.heap[b']? := fun b' o' hb' => by simp [Ne.symm hb']
      have hlt1 : kk < w1.heap.size := by rw [hwh]; exact hlt
      obtain ⟨a1, a2, a3⟩ := updBlk (w' := { w1 with heap := w1.heap.setIfInBounds kk (.mapIter (some r'.1) since (seen.reverse.toArray.push left[q].born) clock) }) hr1 hb (.miter mb since (j :: seen) es.length) rfl rfl rfl rfl (by simp)
        (fun b' c e fr hbb => ⟨c, by dsimp only; rw [hne' b' _ (fun e => by subst e; rw [hb1'] at hbb; cases hbb)]; exact hbb, rfl, fun _ _ => rfl⟩)
        (fun b' o' hbb _ hn => by dsimp only; rw [hne' b' _ (fun e => hn (by subst e; rw [hg]; rfl))]; exact hbb)
        (fun b' l hbb => ⟨l, by dsimp only; rw [hne' b' _ (fun e => by subst e; rw [hb1'] at hbb; cases hbb)]; exact hbb⟩)
        (fun b' o' hin => by rw [hg]; exact hin)
        (fun hvr => ⟨⟨r', hm, by
          show (w1.heap.setIfInBounds kk _)[kk]? = _
          rw [Array.getElem?_setIfInBounds_self_of_lt hlt1, hje, hborn j hj, h5]
          simp⟩, rfl⟩)
      refine ⟨_, _, .inr hkk, I, ι, _, .tuple #[.bool true, left[q].key, left[q].val], a1, VR.tup' (((VRs.nil.cons ?_).cons ?_).cons (VR.leaf _)), hx0.trans a2, fun _ _ _ => rfl, ?_⟩
      · refine a3 _ _ (vr_heap hwh (h3.at_ j _ _ (by simp [hjes]) ?_))
        rw [hje]; simp [hj]
      · refine a3 _ _ (vr_heap hwh (h2.at_ j _ _ (by simp [hjes]) ?_))
        rw [hje]; simp [hj]
      · rw [hpre (fun W => .ok (.tuple #[.bool true, left[q].key, left[q].val]) { W with heap := W.heap.setIfInBounds kk (.mapIter (some r'.1) since (seen.reverse.toArray.push left[q].born) clock) }) (fun a ha => by
          subst ha
          rw [hcq]
          simp only [Sem.run_bind, hso, Result.andThen_ok, Sem.run_pure])]

-- ---------------------------------------------------------------- code
section
variable {P : Program} {E : Env} (ok : EnvOK P E) (hk : HooksOK P E) {r : Rec} (rok : RecOK P E r)
include ok hk rok

theorem opsK_to {n : Nat} (hn : 0 < n) {ops : Array Oper} : ∀ (rest : List Oper) (i : Nat) (st : St) (k : List Nat → St → Bool), ops.toList.drop i = rest → Good n (fun s => opsK E r n ops.toList rest s st k) → ∀ I ι w tm, RelH I ι st.H w → TR I ι w st.t tm → GlobOK E I w →
    ∃ st', Good n (fun s => k s st') ∧ ∃ I' ι' w' tm', RelH I' ι' st'.H w' ∧ TR I' ι' w' st'.t tm' ∧ Ext I ι st.H w I' ι' st'.H w' ∧ (∀ id, id < st.H.n → ι' id = ι id) ∧
      ∀ (b : Frame) k cs dfs, b.kind = .normal → Steps P (lone (b.atR ⟨tm.toArray, dfs⟩ (.inRegion ops (List.range' i rest.length) :: k)) cs w) (lone (b.atR ⟨tm'.toArray, dfs⟩ (.inRegion ops [] :: k)) cs w') := by
  intro rest
  induction rest with
  | nil =>
    intro i st k _ h I ι w tm hr ht hg
    exact ⟨st, h, I, ι, w, tm, hr, ht, Ext.refl I ι st.H w, fun _ _ => rfl, fun b k cs dfs _ => Steps.refl _ _⟩
  | cons o rest ih =>
    intro i st k hd h I ι w tm hr ht hg
    have ho : ops[i]? = some o := by
      have := congrArg (·[0]?) hd
      simpa using this
    have hd' : ops.toList.drop (i + 1) = rest := by rw [← List.drop_drop, hd]; rfl
    simp only [opsK] at h
    cases hw : wantedA ops.toList st.t o with
    | false =>
      rw [hw] at h
      obtain ⟨st', hk', I2, ι2, w2, tm2, b1, b2, b3, b4, b5⟩ := ih (i + 1) _ k hd' h I ι w (putM tm o.dst undef) hr (put_tr ht VR.undef o.dst) hg
      refine ⟨st', hk', I2, ι2, w2, tm2, b1, b2, b3, b4, fun b k cs dfs hb => ?_⟩
      rw [List.length_cons, List.range'_succ]
      exact (skip_sim ht ho hw b k cs dfs _).trans (b5 b k cs dfs hb)
    | true =>
      rw [hw] at h
      dsimp only at h
      have one : ∀ (v : AV) (H : Heap), Good n (fun s => opsK E r n ops.toList rest s ⟨put st.t o.dst v, H⟩ k) → (∃ I1 ι1 w1 tm1, RelH I1 ι1 H w1 ∧ TR I1 ι1 w1 (put st.t o.dst v) tm1 ∧ Ext I ι st.H w I1 ι1 H w1 ∧ (∀ id, id < st.H.n → ι1 id = ι id) ∧
          ∀ (b : Frame) k cs dfs rest, b.kind = .normal → Steps P (lone (b.atR ⟨tm.toArray, dfs⟩ (.inRegion ops (i :: rest) :: k)) cs w) (lone (b.atR ⟨tm1.toArray, dfs⟩ (.inRegion ops rest :: k)) cs w1)) →
          ∃ st', Good n (fun s => k s st') ∧ ∃ I' ι' w' tm', RelH I' ι' st'.H w' ∧ TR I' ι' w' st'.t tm' ∧ Ext I ι st.H w I' ι' st'.H w' ∧ (∀ id, id < st.H.n → ι' id = ι id) ∧
            ∀ (b : Frame) k cs dfs, b.kind = .normal → Steps P (lone (b.atR ⟨tm.toArray, dfs⟩ (.inRegion ops (List.range' i (o :: rest).length) :: k)) cs w) (lone (b.atR ⟨tm'.toArray, dfs⟩ (.inRegion ops [] :: k)) cs w') := by
        intro v H hrest hone
        obtain ⟨I1, ι1, w1, tm1, a1, a2, a3, a4, a5⟩ := hone
        obtain ⟨st', hk', I2, ι2, w2, tm2, b1, b2, b3, b4, b5⟩ := ih (i + 1) ⟨put st.t o.dst v, H⟩ k hd' hrest I1 ι1 w1 tm1 a1 a2 (hg.ext a3 hr)
        refine ⟨st', hk', I2, ι2, w2, tm2, b1, b2, a3.trans b3, fun id hlt => by rw [b4 id (Nat.lt_of_lt_of_le hlt a3.n), a4 id hlt], fun b k cs dfs hb => ?_⟩
        rw [List.length_cons, List.range'_succ]
        exact (a5 b k cs dfs _ hb).trans (b5 b k cs dfs hb)
      split at h
      · rename_i x hop
        obtain ⟨v, H', hk', I1, ι1, w1, vm, a1, a2, a3, a4, a5⟩ := next_to (P := P) hr (same_eval ht x) hn h o.type
        refine one v H' hk' ⟨I1, ι1, w1, putM tm o.dst vm, a1, put_tr (a3.tr hr ht) a2 o.dst, a3, fun id hlt => a4 id hlt (by simp), fun b k cs dfs rest hb => ?_⟩
        have hex : Acts P (execOp (evalM tm) o) w vm w1 := by
          refine .inl ?_
          have e : execOp (evalM tm) o = (do pure (.value (← Instr.next (evalM tm x) false o.type)) : Sem Next) := by
            unfold execOp; rw [hop]
          rw [e]
          exact does_v a5
        have := opRun (fun c hc => by rw [hop] at hc; cases hc) hex hb (dfs := dfs) (k := k) (cs := cs) (rest := rest) ho (by rw [← wanted_eq ht o]; exact hw)
        rw [put_toArray] at this
        exact this
      · cases he : evOp E r ops.toList o st with
        | some st1 =>
          rw [he] at h
          unfold evOp at he
          rw [hw] at he
          dsimp only at he
          split at he
          case h_2 => cases he
          rename_i A hA
          split at he
          case h_2 => cases he
          rename_i v H hex
          cases he
          obtain ⟨I1, ι1, w1, tm1, a1, a2, a3, a4, a5⟩ := op_sim ok hk rok hr ht hg ho hw hA (rid := none) (by simp) hex
          exact one v H h ⟨I1, ι1, w1, tm1, a1, a2, a3, fun id hlt => a4 id hlt (by simp), a5⟩
        | none =>
          rw [he] at h
          exact absurd h (good_false hn)

def RecKOK (P : Program) (E : Env) (n : Nat) (rk : RecK) : Prop := ∀ f c st k, Good n (fun s => rk.code f c s st k) → Code.drawOK c = true → CodeTo P E f c st fun e st' => Good n fun s => k s e st'

theorem evK_to {n : Nat} (hn : 0 < n) {rk : RecK} (rkok : RecKOK P E n rk) (f : FuncId) (c : Code) : ∀ (st : St) (k : List Nat → Ex → St → Bool), Code.drawOK c = true → Good n (fun s => evK E r n rk f c s st k) → CodeTo P E f c st fun e st' => Good n fun s => k s e st' := by
  have plain : ∀ (c : Code) (st : St) (k : List Nat → Ex → St → Bool), Code.drawOK c = true → Good n (fun s => match evCode E r f c st with
      | some (e, st) => k s e st
      | none => false) → CodeTo P E f c st fun e st' => Good n fun s => k s e st' := by
    intro c st k hc h
    cases he : evCode E r f c st with
    | none => rw [he] at h; exact absurd h (good_false hn)
    | some p =>
      obtain ⟨e, st'⟩ := p
      rw [he] at h
      exact .of_sim (code_sim ok hk rok f c st e st' hc he) h
  induction c with
  | region id ops draw =>
    intro st k hc h
    cases draw with
    | true => exact plain _ st k hc h
    | false =>
      simp only [evK] at h
      intro ro I ι w tm hr ht hg hro
      obtain ⟨st', hk', I', ι', w', tm', a1, a2, a3, a4, a5⟩ := opsK_to ok hk rok hn ops.toList 0 st _ rfl h I ι w tm hr ht hg
      refine ⟨.normal, st', hk', I', ι', w', tm', [], a1, a2, a3, a4, fun _ _ => rfl, List.nodup_nil, (fun D hD => by cases hD), fun b k cs dfs _ _ hb => ?_⟩
      have := a5 b k cs dfs hb
      rw [← List.range_eq_range', Array.length_toList] at this
      exact (Steps.head stepR_region this).trans (.one stepR_region_end)
  | seq x y ihx ihy =>
    intro st k hc h
    simp only [Code.drawOK, Bool.and_eq_true] at hc
    simp only [evK] at h
    refine CodeTo.seq (ihx st _ hc.1 h) (fun st1 q => ihy st1 k hc.2 q) (fun e st1 he q => ?_)
    cases e with
    | normal => exact absurd rfl he
    | _ => exact q
  | cond c x y ihx ihy =>
    intro st k hc h
    simp only [Code.drawOK, Bool.and_eq_true] at hc
    simp only [evK] at h
    cases hb : asBool (evalO st.t c) with
    | none => rw [hb] at h; exact absurd h (good_false hn)
    | some t =>
      rw [hb] at h
      cases t with
      | true => exact CodeTo.cond hb (ihx st k hc.1 h)
      | false => exact CodeTo.cond hb (ihy st k hc.2 h)
  | block id c ih =>
    intro st k hc h
    simp only [evK] at h
    refine CodeTo.block (ih st _ hc h) (fun st1 q => q) (fun st1 q => ?_) (fun id' st1 hne q => ?_) (fun st1 q => q)
    · dsimp only at q; simp only [nbeq_t (rfl : id = id), cond_true] at q; exact q
    · dsimp only at q; simp only [nbeq_f hne, cond_false] at q; exact q
  | loop c ih =>
    intro st k hc h
    simp only [evK] at h
    refine CodeTo.loop (ih st _ hc h) (fun st1 q => rkok f (.loop c) st1 k q hc) (fun e st1 he q => ?_)
    cases e with
    | normal => exact absurd rfl he
    | _ => exact q
  | skip => intro st k hc h; exact plain _ st k hc h
  | rangeFunc g ps asg body _ _ => intro st k hc h; exact plain _ st k hc h
  | exit id => intro st k hc h; exact plain _ st k hc h
  | ret => intro st k hc h; exact plain _ st k hc h
  | scope c _ => intro st k hc h; exact plain _ st k hc h
  | label l => intro st k hc h; exact plain _ st k hc h
  | goto l => intro st k hc h; exact plain _ st k hc h
  | refuse w => intro st k hc h; exact plain _ st k hc h

theorem manyK_ok {n : Nat} (hn : 0 < n) : ∀ m, RecKOK P E n (manyK E r n m)
  | 0 => fun _ _ _ _ h _ => absurd h (good_false hn)
  | m + 1 => fun f c st k h hc => evK_to ok hk rok hn (manyK_ok hn m) f c st k hc h
end
end Go.Ab
namespace Go.Ab
/-- Where the order is left open; s: the first choice, if it holds a number. -/
def chkMany (E : Env) (m n : Nat) (f : FuncId) (e : Ent) (s : List Nat) : Bool :=
  match E.fn f with
  | some fn => match fn.body with
    | some c => match fewer e.1 fn.ntmps with
      | true => (manyK E (ev E n) m n).code f c s ⟨Tm.mk0 fn.ntmps e.1, .empty⟩ fun _ x st => match x with
        | .exit _ => false
        | _ => match resultsA E fn st with
          | some r => match freeze st.H r with
            | some r => avEq r e.2
            | none => false
          | none => false
      | false => false
    | none => false
  | none => false

theorem func_to {P : Program} {E : Env} (ok : EnvOK P E) {f : FuncId} {fn : Func} {c : Code} (hfn : E.fn f = some fn) (hbody : fn.body = some c) {args : List AV} (hfew : fewer args fn.ntmps = true) {H : Heap} {Q : Ex → St → Prop}
    (h : CodeTo P E f c ⟨Tm.mk0 fn.ntmps args, H⟩ Q) (hQ : ∀ e st, Q e st → e = .normal ∨ e = .ret) {I : Imm} {ι : Inj} {w : World} {vs : List Value} (hr : RelH I ι H w) (hs : VRs I ι w args vs) (hg : GlobOK E I w) :
    ∃ e st1, Q e st1 ∧ ∀ v, resultsA E fn st1 = some v → ∃ I' ι' w' vm, RelH I' ι' st1.H w' ∧ VR I' ι' w' v vm ∧ Ext I ι H w I' ι' st1.H w' ∧ (∀ id, id < H.n → ι' id = ι id) ∧ Enters P f ∧ CallRun P f vs w vm w' := by
  obtain ⟨hP, hname, hdr⟩ := ok.fn f fn hfn
  have hent : Enters P f := by
    intro args' w'
    have hn : (fn.name == "runtime.NumGoroutine") = false := by simpa using hname
    simp [callFunc, hP, hname, hbody]
  have ht0 := mk0_tr hs (fewer_eq hfew)
  obtain ⟨ex, st1, q, I1, ι1, w1, tm1, ds1, a1, a2, a3, a4, _, a6, a7, a8⟩ := h none I ι w _ hr ht0 hg (fun l hl => by cases hl)
  refine ⟨ex, st1, q, fun v hra => ?_⟩
  obtain ⟨w2, b1, b2, b3, b4⟩ := unwindMarks (P := P) (tm := []) ds1 w I ι H w1 a1 a3 a6 a7
  have ht2 : TR I1 ι1 w2 st1.t tm1 := ⟨a2.len, fun i x u hx hu => b3 _ _ (a2.at_ i x u hx hu)⟩
  obtain ⟨vm, c1, c2⟩ := results_run ok b1 ht2 hra
  refine ⟨I1, ι1, w2, vm, b1, c2, b2, a4, hent, fun cs => ?_⟩
  let b : Frame := { (default : Frame) with fn := f, kind := .normal }
  have henter : Frame.enter P f vs.toArray .normal = b.atR ⟨(vs ++ List.replicate (fn.ntmps - args.length) undef).toArray, []⟩ [.code c] := by
    have hl := hs.len
    simp [Frame.enter, Frame.atR, hP, hbody, b, hl]
    rfl
  rw [henter]
  have s := a8 b [] cs [] rfl rfl rfl
  have fin : ∀ todo, Steps P (lone (b.atR ⟨(vs ++ List.replicate (fn.ntmps - args.length) undef).toArray, []⟩ [.code c]) cs w) (lone { b.atR ⟨tm1.toArray, marksOf ds1 ++ []⟩ todo with mode := .returning } cs w1) →
      ∃ fr, Steps P (lone (b.atR ⟨(vs ++ List.replicate (fn.ntmps - args.length) undef).toArray, []⟩ [.code c]) cs w) (lone fr cs w2) ∧ fr.fn = f ∧ fr.leaving P w2 (.returned vm) := by
    intro todo hst
    refine ⟨_, hst.trans (b4 _ cs rfl (by simp [Frame.atR])), rfl, rfl, rfl, rfl, fn, hP, ?_⟩
    exact c1
  rcases hQ ex st1 q with rfl | rfl
  · exact fin [] (Steps.trans s (.one (stepR_end rfl)))
  · obtain ⟨k2, s⟩ := s
    exact fin _ (s.trans (.one (stepR_ret rfl)))

theorem chkMany_ok {P : Program} {E : Env} (ok : EnvOK P E) (hk : HooksOK P E) {m n : Nat} (hm : 0 < m) {f : FuncId} {e : Ent} (h : ∀ j, j < m → chkMany E m n f e [j] = true) : CallFact P E.glob f e := by
  intro I w vs h1 h2 h3
  have h0 := h 0 hm
  unfold chkMany at h0
  split at h0
  case h_2 => cases h0
  rename_i fn hfn
  split at h0
  case h_2 => cases h0
  rename_i c hbody
  split at h0
  case h_2 => cases h0
  rename_i hfew
  clear h0
  have hgood : Good m fun s => (manyK E (ev E n) m n).code f c s ⟨Tm.mk0 fn.ntmps e.1, .empty⟩ fun _ x st => match x with
        | .exit _ => false
        | _ => match resultsA E fn st with
          | some r => match freeze st.H r with
            | some r => avEq r e.2
            | none => false
          | none => false := .inl fun j hj => by
    have := h j hj
    unfold chkMany at this
    rw [hfn] at this
    dsimp only at this
    rw [hbody] at this
    dsimp only at this
    rw [hfew] at this
    exact this
  have hto := manyK_ok ok hk (ev_ok ok hk n) hm n f c _ _ hgood ((ok.fn f fn hfn).2.2 c hbody)
  have final : ∀ {x : Ex} {st1 : St}, Good m (fun _ => match x with
        | .exit _ => false
        | _ => match resultsA E fn st1 with
          | some r => match freeze st1.H r with
            | some r => avEq r e.2
            | none => false
          | none => false) → (match x with
        | .exit _ => false
        | _ => match resultsA E fn st1 with
          | some r => match freeze st1.H r with
            | some r => avEq r e.2
            | none => false
          | none => false) = true := by
    intro x st1 hg
    rcases hg with hg | hg
    · exact hg 0 hm
    · exact hg
  obtain ⟨x, st1, q, hres⟩ := func_to ok hfn hbody hfew hto (fun e st q => by
    have q := final q
    cases e with
    | exit id => cases q
    | normal => exact .inl rfl
    | ret => exact .inr rfl) h1 h2 h3
  have q := final q
  have hq : ∃ r r', resultsA E fn st1 = some r ∧ freeze st1.H r = some r' ∧ avEq r' e.2 = true := by
    cases x with
    | exit id => cases q
    | _ =>
      dsimp only at q
      split at q
      case h_2 => cases q
      rename_i r hr
      split at q
      case h_2 => cases q
      rename_i r' hf
      exact ⟨r, r', hr, hf, q⟩
  obtain ⟨r, r', hr, hf, hv⟩ := hq
  obtain ⟨I', ι', w', vm, a1, a2, a3, _, a5, a6⟩ := hres r hr
  obtain ⟨I2, H3, b1, b2, b3⟩ := freeze_sim a1 hf a2
  have := avEq_eq hv
  subst this
  exact ⟨I2, w', vm, b1.alone, b3, (a3.trans b2).forget, .inl ⟨a5, a6⟩⟩

end Go.Ab

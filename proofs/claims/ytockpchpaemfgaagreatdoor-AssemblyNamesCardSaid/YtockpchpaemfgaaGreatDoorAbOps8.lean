/- New blocks, conversions, lengths, make. -/
import Derived.Test.YtockpchpaemfgaaGreatDoorAbOps7
import Derived.Laws.IdiomStrings
set_option linter.all false
namespace Go.Ab

section
variable {P : Program} {I : Imm} {ι : Inj} {H : Heap} {w : World}

/-- A new block, laid where it is to lie. -/
theorem new_post (hr : RelH I ι H w) {x : Blk} {o : Obj} {ext : Nat} (hext : ∀ b o', InR (w.heap.size, 0, ext) x b o' → b = w.heap.size)
    (hbr : ∀ id, ι id = none → BR I (ι.put id (w.heap.size, 0, ext)) (wpush w o) x (w.heap.size, 0, ext)) {rid : Option Nat} (hrid : ∀ id, rid = some id → ι id = none)
    {f : Nat → AV} {v : AV} {H' : Heap} (hex : (Action.new x f).exec rid H = some (v, H')) {vm : Value} {R : World → Value → Prop}
    (hf : ∀ id (ι' : Inj), ι' id = some (w.heap.size, 0, ext) → VR I ι' (wpush w o) (f id) vm) (hR : R (wpush w o) vm) : Post I ι H w rid H' v R := by
  obtain ⟨id, a, b, c, d, e, f', g⟩ := lay_spec hr.wf hex
  have hid : ι id = none := by
    rcases g with ⟨_, g⟩ | g
    · exact inj_none hr (by omega)
    · exact hrid id g
  obtain ⟨r1, x1⟩ := newBlk hr x o id ext hid b c d e f' hext (hbr id hid)
  refine ⟨I, _, _, vm, r1, by rw [a]; exact hf id _ Inj.put_same, x1, fun j hj hne => Inj.put_ne ?_, hR⟩
  rcases g with ⟨_, g⟩ | g
  · omega
  · intro e; subst e; exact hne g

/-- A new row of cells. -/
theorem new_cells_post (hr : RelH I ι H w) {cs : List AV} {vs : List Value} (hvs : VRs I ι w cs vs) (e : TypeId) {rid : Option Nat} (hrid : ∀ id, rid = some id → ι id = none)
    {f : Nat → AV} {v : AV} {H' : Heap} (hex : (Action.new (.cells 0 cs) f).exec rid H = some (v, H')) {vm : Value} {R : World → Value → Prop}
    (hf : ∀ id (ι' : Inj), ι' id = some (w.heap.size, 0, vs.length) → VR I ι' (wpush w (.cells vs.toArray e)) (f id) vm) (hR : R (wpush w (.cells vs.toArray e)) vm) : Post I ι H w rid H' v R := by
  refine new_post (x := .cells 0 cs) (o := .cells vs.toArray e) (ext := vs.length) hr (fun b o h => h.1) (fun id hid => ?_) hrid hex hf hR
  refine ⟨Nat.zero_le _, by have := hvs.len; simp; omega, fun i hi => by omega, fun i hi => ?_, fun i hi => ?_, fun i y hy => ?_⟩
  · exact ⟨vs[i], cell?_eq.2 ⟨_, _, _, wpush_new, by simpa using (show i < vs.length from hi)⟩⟩
  · unfold World.frozen?; dsimp only; rw [wpush_new]; simp
  · obtain ⟨u, hu1, hu2⟩ := hvs.get hy
    refine ⟨u, cell?_eq.2 ⟨_, _, _, wpush_new, by simpa using hu1⟩, hu2.mono (fun _ _ h => h) (fun b o u _ hu => ?_) (Inj.put_mono hid)⟩
    rw [cell?_congr (wpush_old (cell?_lt hu))]; exact hu

theorem new_map_post (hr : RelH I ι H w) {rid : Option Nat} (hrid : ∀ id, rid = some id → ι id = none)
    {v : AV} {H' : Heap} (hex : (Action.new (.map []) .map).exec rid H = some (v, H')) {R : World → Value → Prop}
    (hR : R (wpush w (.map #[] 0)) (.map (some w.heap.size))) : Post I ι H w rid H' v R :=
  new_post (x := .map []) (o := .map #[] 0) (ext := 0) hr (fun b o h => h) (fun id _ => ⟨#[], 0, wpush_new, VRs.nil, VRs.nil, rfl, rfl⟩) hrid hex (fun id ι' hi => .map hi) hR

theorem does_v {s : Sem Value} {x : Value} {w' : World} (h : s.run P w = .ok x w') : Does P (do pure (.value (← s))) w w' x :=
  .inl (by simp only [Sem.run_bind, h, Result.andThen_ok, Sem.run_pure])
theorem does_u {s : Sem Unit} {w' : World} (h : s.run P w = .ok () w') : Does P (do s; pure .skip) w w' undef :=
  .inr ⟨by simp only [Sem.run_bind, h, Result.andThen_ok, Sem.run_pure], rfl⟩
end

section
variable {P : Program} {E : Env} (ok : EnvOK P E) {I : Imm} {ι : Inj} {H : Heap} {w : World}
include ok

omit ok in
theorem bytes_cells {blk off : Nat} : ∀ {ds : List D} {bs : List UInt8} {vs : List Value}, bytesOfD ds = some bs → VRs I ι w (ds.map .d) vs →
    ∃ ns : List Int, vs = ns.map (Value.int .u8) ∧ ∀ acc : ByteArray, ns.foldl (fun r n => r.push (UInt8.ofNat n.toNat)) acc = ⟨acc.data ++ bs.toArray⟩ := by
  intro ds
  induction ds with
  | nil =>
    intro bs vs h hv
    simp only [bytesOfD, Option.some.injEq] at h; subst h
    have := hv.unnil; subst this
    exact ⟨[], rfl, fun acc => by obtain ⟨a⟩ := acc; simp⟩
  | cons d ds ih =>
    intro bs vs h hv
    simp only [List.map_cons] at hv
    obtain ⟨v, vs', rfl, h1, h2⟩ := hv.uncons
    unfold bytesOfD at h
    split at h
    · simp_all
    · rename_i n rest heq
      simp only [List.cons.injEq] at heq
      obtain ⟨rfl, rfl⟩ := heq
      cases hb : bytesOfD ds with
      | none => rw [hb] at h; cases h
      | some bs' =>
        rw [hb] at h; cases h
        obtain ⟨ns, rfl, hf⟩ := ih hb h2
        have e := vr_leaf h1; subst e
        refine ⟨(n : Int) :: ns, rfl, fun acc => ?_⟩
        rw [List.foldl_cons, hf]
        obtain ⟨a⟩ := acc
        simp [ByteArray.push]
    · cases h

theorem convA_run (hr : RelH I ι H w) {src dst : TypeId} {x : AV} {xv : Value} (hx : VR I ι w x xv) {A : Action} (h : convA E src dst x = some A) {rid : Option Nat} (hrid : ∀ id, rid = some id → ι id = none) {v : AV} {H' : Heap} (hex : A.exec rid H = some (v, H')) :
    Post I ι H w rid H' v fun w' vm => (convert src dst xv).run P w = .ok vm w' := by
  have fromBytes : ∀ el u blk off len c (vs : List Value) (ds : List D) (bs : List UInt8) (s e : TI), E.ty src = some s → E.ty dst = some e → s.desc = .slice el → e.desc = .string → E.ty el = some u → u.desc = .int .u8 →
      vs.length = len → (∀ (j : Nat) v, vs[j]? = some v → w.cell? ⟨blk, off + j, none⟩ = some v) → VRs I ι w (ds.map .d) vs → bytesOfD ds = some bs →
      (convert src dst (.slice (some ⟨blk, off, none⟩) len c)).run P w = .ok (.string ⟨bs.toArray⟩) w := by
    intro el u blk off len c vs ds bs s e h1 h2 h3 h4 h5 h6 h7 h8 h9 h10
    rw [run_convert_bytes_string w src dst el _ len c (by rw [ok.desc _ _ h1, h3]) (by rw [ok.desc _ _ h5, h6]) (by rw [ok.desc _ _ h2, h4])]
    obtain ⟨ns, rfl, hf⟩ := bytes_cells (blk := blk) (off := off) h10 h9
    rw [run_bytesToString w _ len c ns (run_loadCells h7 h8), hf]
    simp
  unfold convA at h
  split at h
  · rename_i s e hs he
    split at h
    · rename_i k' k k'' n hd1 hd2
      cases h; cases hex
      have e' := vr_leaf hx; subst e'
      rw [wrapF_eq] at *
      refine Post.same hr (VR.leaf _) ?_
      unfold convert
      simp only [Sem.run_bind, run_underlying' ok hs, run_underlying' ok he, Result.andThen_ok, hd1, hd2]
      rfl
    · rename_i b hd1 hd2
      cases h; cases hex
      have e' := vr_leaf hx; subst e'
      refine Post.same hr (VR.leaf _) ?_
      unfold convert
      simp only [Sem.run_bind, run_underlying' ok hs, run_underlying' ok he, Result.andThen_ok, hd1, hd2]
      rfl
    · rename_i el b hd1 hd2
      split at h
      case h_2 => cases h
      rename_i u hu
      split at h
      case h_2 => cases h
      rename_i hu8
      cases hsm : Nat.ble (strLen b) 1048576 with
      | false => rw [hsm] at h; cases h
      | true =>
      rw [hsm] at h; cases h
      have e' := vr_leaf hx; subst e'
      obtain ⟨w1, hw1⟩ : ∃ w1 : World, w1 = w.drew := ⟨_, rfl⟩
      have hwh : w1.heap = w.heap := by rw [hw1]; rfl
      have hr1 : RelH I ι H w1 := relH_heap hwh hr
      have hx0 : Ext I ι H w I ι H w1 := ext_heap hwh (by rw [hw1]; rfl) (by rw [hw1]; rfl) (by rw [hw1]; rfl) (by rw [hw1]; exact Nat.le_succ _)
      obtain ⟨nc, hnc⟩ : ∃ nc, nc = grownCap w b.size 0 el := ⟨_, rfl⟩
      have hncs : b.size ≤ nc := by rw [hnc]; simp [grownCap, Question.cut]
      have hrun := run_bytes_of_string (P := P) w src dst el b (by rw [ok.desc _ _ hs, hd1]) (by rw [ok.desc _ _ he, hd2]) (by rw [ok.desc _ _ hu, hu8])
      have hsz : (bytesRow b nc).size = nc := by
        simp only [bytesRow, Array.size_append, Array.size_map, Array.size_replicate]
        have : b.data.size = b.size := rfl
        omega
      have hpost := new_post (R := fun w' vm => (convert src dst (.string b)).run P w = .ok vm w') hr1 (x := .cells 0 (bytesCells b)) (o := .cells (bytesRow b nc) el (nc, nc + 1)) (ext := nc) (fun b o h => h.1) (fun id hid => ?_) hrid hex
        (vm := .slice (some ⟨w1.heap.size, 0, none⟩) b.size nc) (fun id ι' hi => .sl hi hncs (by simp) (.inr rfl) (by intro _; omega)) (by
          have := hrun
          rw [← hnc, hsz] at this
          rw [hwh, hw1]; exact this)
      · obtain ⟨I', ι', w', vm, a, b', c, d, e⟩ := hpost
        exact ⟨I', ι', w', vm, a, b', hx0.trans c, d, e⟩
      · have hbl : (bytesCells b).length = b.size := by simp [bytesCells]
        refine ⟨Nat.zero_le _, by rw [hbl]; exact hncs, fun i hi => by omega, fun i hi => ?_, fun i hi => ?_, fun i y hy => ?_⟩
        · exact ⟨(bytesRow b nc)[i]'(by rw [hsz]; exact hi), cell?_eq.2 ⟨_, _, _, wpush_new, by
            dsimp only at hi ⊢; rw [Nat.zero_add, Array.getElem?_eq_getElem (by rw [hsz]; exact hi)]⟩⟩
        · unfold World.frozen?; dsimp only at hi ⊢; rw [wpush_new]; simp; omega
        · have hi : i < b.size := by rw [← hbl]; exact (List.getElem?_eq_some_iff.1 hy).1
          have hi' : i < b.data.size := hi
          refine ⟨.int .u8 (b.data[i].toNat : Int), cell?_eq.2 ⟨_, _, _, wpush_new, ?_⟩, ?_⟩
          · dsimp only; rw [Nat.zero_add]; simp [bytesRow, Array.getElem?_append]; rw [if_pos hi, Array.getElem?_eq_getElem hi']; rfl
          · simp only [bytesCells, List.getElem?_map, Array.getElem?_toList, Array.getElem?_eq_getElem hi', Option.map_some, Option.some.injEq] at hy
            rw [← hy]; exact VR.leaf _
    · rename_i el len ds hd1 hd2
      split at h
      · rename_i u hu
        split at h
        · rename_i hu8
          split at h
          · rename_i bs hlen hb
            cases h; cases hex
            have hlen := (lenIs_eq _ _).1 hlen
            · 
              have hx' : DR I w (.lit len ds) xv := by cases hx with | d h => exact h
              refine Post.same hr (VR.leaf _) ?_
              by_cases hds : ds = []
              · subst hds
                simp only [bytesOfD, Option.some.injEq] at hb; subst hb
                simp only [List.length_nil] at hlen; subst hlen
                obtain ⟨⟨base, c, rfl, _⟩, _⟩ := dr_lit hx'
                cases base with
                | none =>
                  rw [run_convert_bytes_string w src dst el none 0 c (by rw [ok.desc _ _ hs, hd1]) (by rw [ok.desc _ _ hu, hu8]) (by rw [ok.desc _ _ he, hd2])]
                  rfl
                | some a =>
                  rw [run_convert_bytes_string w src dst el (some a) 0 c (by rw [ok.desc _ _ hs, hd1]) (by rw [ok.desc _ _ hu, hu8]) (by rw [ok.desc _ _ he, hd2])]
                  rw [run_bytesToString w a 0 c [] rfl]; rfl
              · obtain ⟨blk, off, c, rfl, hc, hcd⟩ := (dr_lit hx').2 hds
                have hcut : cut ds 0 ds.length = some ds := by rw [cut_eq]; simp
                obtain ⟨vs, h1, h2⟩ := cellsD_take (ι := ι) hcd hcut
                exact fromBytes el u blk off len c vs ds bs s e hs he hd1 hd2 hu hu8 (by have := h1.len; simp at this; omega) (fun j v hj => (h2 j v hj).1) h1 hb
          · cases h
        · cases h
      · cases h
    · rename_i el b off len cap hd1 hd2
      split at h
      · rename_i u hu
        split at h
        · rename_i hu8
          cases h
          simp only [Action.exec] at hex
          split at hex
          · rename_i cs hg
            split at hex
            · rename_i cs' hcut
              split at hex
              · rename_i ds hds
                cases hb : bytesOfD ds with
                | none => rw [hb] at hex; cases hex
                | some bs =>
                  rw [hb] at hex; cases hex
                  have := allD_spec hds
                  subst this
                  refine Post.same hr (VR.leaf _) ?_
                  have hl := (cut_spec hcut).2.2
                  cases hx with
                  | sl hbb hc hk hbase hext =>
                    rename_i c k o e' base
                    rcases hbase with hb0 | hb0
                    · have : len = 0 := by omega
                      subst this
                      have : ds = [] := by simpa using hl
                      subst this
                      simp only [bytesOfD, Option.some.injEq] at hb; subst hb
                      rw [run_convert_bytes_string w src dst el base 0 c (by rw [ok.desc _ _ hs, hd1]) (by rw [ok.desc _ _ hu, hu8]) (by rw [ok.desc _ _ he, hd2])]
                      cases base with
                      | none => rfl
                      | some a => rw [run_bytesToString w a 0 c [] rfl]; rfl
                    · subst hb0
                      obtain ⟨vs, h1, h2⟩ := br_cut hr hbb hg hcut
                      exact fromBytes el u k (o + off) len c vs ds bs s e hs he hd1 hd2 hu hu8 (by have := h1.len; omega) h2 h1 hb
                  | sl0 =>
                    rename_i base
                    have : ds = [] := by simpa using hl
                    subst this
                    simp only [bytesOfD, Option.some.injEq] at hb; subst hb
                    rw [run_convert_bytes_string w src dst el base 0 0 (by rw [ok.desc _ _ hs, hd1]) (by rw [ok.desc _ _ hu, hu8]) (by rw [ok.desc _ _ he, hd2])]
                    cases base with
                    | none => rfl
                    | some a => rw [run_bytesToString w a 0 0 [] rfl]; rfl
              · cases hex
            · cases hex
          · cases hex
        · cases h
      · cases h
    · cases h
  · cases h

theorem lenA_run (hr : RelH I ι H w) {t : TypeId} {x : AV} {xv : Value} {ats : Array TypeId} {ty : TypeId} (h0 : ats[0]? = some t) (hx : VR I ι w x xv) {A : Action} (h : lenA E t x = some A) {rid : Option Nat} {v : AV} {H' : Heap} (hex : A.exec rid H = some (v, H')) :
    Post I ι H w rid H' v fun w' vm => (Builtin.len_ ats ty #[xv]).run P w = .ok vm w' := by
  cases A with
  | ret z =>
    cases hex
    obtain ⟨zv, h1, h2⟩ := lenA_ret (P := P) (ty := ty) ok h0 h hx
    exact Post.same hr h2 h1
  | other f =>
    unfold lenA at h
    split at h
    · cases h
    rename_i ti hty
    split at h <;> try (simp at h; done)
    rename_i kt et b hd
    simp only [Option.some.injEq, Action.other.injEq] at h
    subst h
    simp only [Action.exec] at hex
    split at hex
    · rename_i es hg
      cases hex
      cases hx with
      | map hb =>
        have hbr := hr.blk b _ hb
        rw [hg] at hbr
        obtain ⟨ents, clock, h1, h2, h3, _⟩ := hbr
        refine Post.same hr (VR.leaf _) ?_
        unfold Builtin.len_
        simp only [h0, List.getElem?_toArray, List.getElem?_cons_zero, Sem.run_bind, run_underlying' ok hty, Result.andThen_ok, hd, run_getObj_map' h1]
        have := h2.len
        simp only [List.length_map, Array.length_toList] at this
        simp only [Sem.run_pure]
        rw [this]; rfl
    · cases hex
  | load => unfold lenA at h; split at h <;> (try split at h) <;> simp at h
  | store => unfold lenA at h; split at h <;> (try split at h) <;> simp at h
  | new => unfold lenA at h; split at h <;> (try split at h) <;> simp at h
  | gather => unfold lenA at h; split at h <;> (try split at h) <;> simp at h
  | ice => unfold lenA at h; split at h <;> (try split at h) <;> simp at h

theorem makeSliceA_run (hr : RelH I ι H w) {t : TypeId} {l c : AV} {lv cv : Value} (hl : VR I ι w l lv) (hc : VR I ι w c cv) {A : Action} (h : makeSliceA E t l c = some A) {rid : Option Nat} (hrid : ∀ id, rid = some id → ι id = none) {v : AV} {H' : Heap} (hex : A.exec rid H = some (v, H')) :
    Post I ι H w rid H' v fun w' vm => (Instr.makeSlice t lv cv).run P w = .ok vm w' := by
  unfold makeSliceA at h
  split at h
  case h_2 => cases h
  rename_i ti li ci hty hli hci
  obtain ⟨k1, rfl⟩ := asNat_spec hli hl
  obtain ⟨k2, rfl⟩ := asNat_spec hci hc
  split at h
  case h_2 => cases h
  rename_i el hd
  split at h
  case h_2 => cases h
  rename_i eti he
  split at h
  case h_2 => cases h
  rename_i a2 a3 a4 a5 a6
  have a2 : li ≤ ci := of_nble a2
  have a3 : ci ≤ 2 ^ 20 := of_nble a3
  have a4 : eti.bytes ≤ 2 ^ 20 := of_nble a4
  have a5 := of_nbeq_f a5
  have a6 := (lenIs_eq _ _).1 a6
  cases h
  have w1 : IntKind.i64.wrap (li : Int) = li := by unfold IntKind.wrap; simp [IntKind.bits, IntKind.signed]; omega
  have w2 : IntKind.i64.wrap (ci : Int) = ci := by unfold IntKind.wrap; simp [IntKind.bits, IntKind.signed]; omega
  obtain ⟨inf, hi1, hi2⟩ := run_bytes' (P := P) (w := w) ok he
  obtain ⟨z, hz1, hz2, _⟩ := run_zeroValue' (P := P) (w := w) ok he
  have hzne : eti.zero ≠ [] := by intro e; rw [e] at a6; simp at a6; omega
  have hsmall : ∀ n : Int, 0 ≤ n → n ≤ (ci : Int) → ((n < 0 || (inf.bytes : Int) * n > 2 ^ 48) = false) := by
    intro n hn0 hn1
    have hb : (inf.bytes : Int) ≤ 2 ^ 20 := by rw [hi2]; exact_mod_cast a4
    have h2 : (inf.bytes : Int) * n ≤ 2 ^ 20 * 2 ^ 20 := Int.mul_le_mul hb (by omega) hn0 (by omega)
    simp only [Bool.or_eq_false_iff, decide_eq_false_iff_not]
    constructor <;> omega
  rw [ok.za el eti he] at hex
  refine new_cells_post (e := el) hr (vs := ((List.replicate ci eti.zero).flatten)) ?_ hrid hex (vm := .slice (some ⟨w.heap.size, 0, none⟩) li ci) ?_ ?_
  · refine vrs_flatten (by simp) fun i x v hx hv => ?_
    simp only [List.getElem?_replicate] at hx hv
    split at hx <;> simp_all
    subst hx hv
    exact VRs.leafs _
  · intro id ι' hi
    exact .sl hi a2 (by simp) (.inr rfl) (by simp)
  · unfold Instr.makeSlice
    simp only [Sem.run_bind, run_underlying' ok hty, hd, Result.andThen_ok, Go.asInt, run_asIntOf, Sem.run_pure, hi1, w1, w2]
    rw [hsmall ci (by omega) (Int.le_refl _)]
    simp only [Bool.false_eq_true, if_false, Bool.false_or]
    rw [if_neg (by simp; omega)]
    simp only [Sem.run_bind, run_askRoom, Result.andThen_ok, run_sizeOf' ok he, Int.toNat_natCast]
    by_cases hc0 : ci * eti.size = 0
    · simp only [hc0, if_true, Sem.run_pure, Result.andThen_ok, newRow, Sem.run_bind, run_newObj]
      have : ci = 0 := by rcases Nat.mul_eq_zero.1 hc0 with h | h <;> omega
      rw [this]
      have e0 : ∀ g : Nat → Value, Array.map g (Array.range 0) = #[] := fun g => by apply Array.ext'; simp
      rw [e0]; rfl
    · simp only [hc0, if_false, Sem.run_bind, hz1, Result.andThen_ok, Sem.run_pure, newRow, run_newObj]
      have hz3 := zero_rep (n := ci) hzne z.cells hz2
      rw [a6] at hz3
      have : (Array.map (fun x => z.cells[x % z.cells.size]!) (Array.range (ci * eti.size))) = ((List.replicate ci eti.zero).flatten).toArray := by
        apply Array.ext'; exact hz3
      rw [this]

/-- An iterator: a string's, a map's. -/
theorem rangeA_run (hr : RelH I ι H w) {t : TypeId} {x : AV} {xv : Value} (hx : VR I ι w x xv) {A : Action} (h : rangeA E t x = some A) {rid : Option Nat} (hrid : ∀ id, rid = some id → ι id = none) {v : AV} {H' : Heap} (hex : A.exec rid H = some (v, H')) :
    Post I ι H w rid H' v fun w' vm => (Instr.range t xv).run P w = .ok vm w' := by
  unfold rangeA at h
  split at h
  case h_3 => cases h
  · rename_i ti s hty
    have e := vr_leaf hx; subst e
    split at h
    case h_2 => cases h
    rename_i hd
    cases h
    refine new_post (x := .iter s 0) (o := .stringIter s 0) (ext := 0) hr (fun b o h => h) (fun id _ => ⟨wpush_new, rfl⟩) hrid hex (vm := .pointer (some ⟨w.heap.size, 0, none⟩)) (fun id ι' hi => by have := VR.ptr (I := I) (w := wpush w (.stringIter s 0)) (off := 0) hi; simpa using this) ?_
    unfold Instr.range
    simp only [Sem.run_bind, run_underlying' ok hty, Result.andThen_ok, hd, Sem.run_pure, run_newObj]
  · rename_i ti b hty
    split at h
    case h_2 => cases h
    rename_i kt et hd
    cases h
    simp only [Action.exec] at hex
    split at hex
    case h_2 => cases hex
    rename_i es hg
    cases hex
    cases hx with
    | map hb =>
      rename_i k o e
      have hbr := hr.blk b _ hb
      rw [hg] at hbr
      obtain ⟨ents, clock, h1, h2, h3, h4, h5⟩ := hbr
      have hgo : (getObj k).run P w = .ok (.map ents clock) w := run_getObj_map' h1
      have hid := inj_none hr (Nat.le_refl H.n)
      obtain ⟨r1, x1⟩ := newBlk hr (.miter b es.length [] es.length) (.mapIter (some k) clock #[] clock) H.n 0 hid (Heap.wf_push hr.wf) (by rw [Heap.n_push]; omega) (by rw [Heap.n_push]; omega) (Heap.get_push_same hr.wf) (fun j hj => Heap.get_push_ne hr.wf hj) (fun b o h => h)
        ⟨⟨_, Inj.put_mono hid _ _ hb, by rw [← h5]; exact wpush_new⟩, rfl⟩
      refine ⟨I, _, _, .pointer (some ⟨w.heap.size, 0, none⟩), r1, ?_, x1, fun id hlt _ => Inj.put_ne (by omega), ?_⟩
      · have := VR.ptr (I := I) (w := wpush w (.mapIter (some k) clock #[] clock)) (off := 0) (Inj.put_same (ι := ι) (id := H.n) (r := (w.heap.size, 0, 0)))
        simpa using this
      · unfold Instr.range
        simp only [Sem.run_bind, run_underlying' ok hty, Result.andThen_ok, hd, hgo, Sem.run_pure, run_newObj]

omit ok in
/-- The entry that was met last. -/
theorem entryA_run (hr : RelH I ι H w) {x : AV} {xv : Value} (hx : VR I ι w x xv) {A : Action} (h : entryA x = some A) {rid : Option Nat} {v : AV} {H' : Heap} (hex : A.exec rid H = some (v, H')) :
    Post I ι H w rid H' v fun w' vm => (Instr.entry xv).run P w = .ok vm w' := by
  unfold entryA at h
  split at h
  case h_2 => cases h
  rename_i b
  cases h
  simp only [Action.exec] at hex
  split at hex
  case h_2 => cases hex
  rename_i mb since i seen last hg
  split at hex
  case h_2 => cases hex
  rename_i es hgm
  cases hl : Nat.beq es.length last with
  | false => rw [hl] at hex; cases hex
  | true =>
  rw [hl] at hex
  have hl := of_nbeq hl
  simp only [cond_true] at hex
  split at hex
  case h_2 => cases hex
  rename_i kk vv hn
  cases hex
  rw [nth_eq] at hn
  cases hx with
  | ptr hb =>
    rename_i k o e
    have hbr := hr.blk b _ hb
    rw [hg] at hbr
    obtain ⟨⟨r', hm, hb1⟩, ho⟩ := hbr
    have hb1 : w.heap[k]? = some (.mapIter (some r'.1) since (i :: seen).reverse.toArray last) := hb1
    have ho : o = 0 := ho
    subst ho
    have hbm := hr.blk mb _ hm
    rw [hgm] at hbm
    obtain ⟨ents, clock, h1, h2, h3, h4, h5⟩ := hbm
    have hgo : (getObj k).run P w = .ok (.mapIter (some r'.1) since (i :: seen).reverse.toArray last) w := by simp [getObj, Sem.run, hb1]
    have hgm' : (getObj r'.1).run P w = .ok (.map ents clock) w := run_getObj_map' h1
    have hlen : ents.toList.length = es.length := by have := h2.len; simpa using this
    have hi : i < es.length := (List.getElem?_eq_some_iff.1 hn).1
    have hib : i < ents.size := by
      have : ents.toList.length = ents.size := Array.length_toList
      omega
    have hborn : ∀ j (hj : j < ents.size), ents[j].born = j := by
      intro j hj
      have := congrArg (·[j]?) h4
      simp only [List.getElem?_map, Array.getElem?_toList, Array.getElem?_eq_getElem hj, Option.map_some, List.getElem?_range (show j < es.length by rw [← hlen]; simpa using hj), Option.some.injEq] at this
      exact this
    have hfind : ents.find? (fun e => e.born == i) = some ents[i] := by
      rw [← Array.find?_toList]
      rw [List.find?_eq_some_iff_append]
      refine ⟨by rw [hborn i hib]; simp, ents.toList.take i, ents.toList.drop (i + 1), ?_, fun a ha => ?_⟩
      · have := List.drop_eq_getElem_cons (l := ents.toList) (i := i) (by simpa using hib)
        rw [Array.getElem_toList] at this
        rw [← this]
        exact (List.take_append_drop i _).symm
      · obtain ⟨j, hj, rfl⟩ := List.mem_iff_getElem.1 ha
        have hji : j < i := by simp at hj; omega
        simp only [List.getElem_take, Array.getElem_toList]
        rw [hborn j (by omega)]
        simp; omega
    have hback : ((i :: seen).reverse.toArray).back? = some i := by simp
    refine Post.same hr (vm := .tuple #[ents[i].key, ents[i].val]) (VR.tup' ((VRs.nil.cons ?_).cons ?_)) ?_
    · exact h3.at_ i vv _ (by simp [hn]) (by simp [hib])
    · exact h2.at_ i kk _ (by simp [hn]) (by simp [hib])
    · unfold Instr.entry
      simp only [Nat.add_zero, Sem.run_bind, hgo, Result.andThen_ok, hback, hgm', hfind, Sem.run_pure]
      rw [h5, hl]
      simp

omit ok in
theorem nextA_run (hr : RelH I ι H w) {x : AV} {xv : Value} {isS : Bool} (hx : VR I ι w x xv) {A : Action} (h : nextA x isS = some A) {rid : Option Nat} {v : AV} {H' : Heap} (hex : A.exec rid H = some (v, H')) (ty : TypeId) :
    Post I ι H w rid H' v fun w' vm => (Instr.next xv isS ty).run P w = .ok vm w' := by
  unfold nextA at h
  split at h
  case h_2 => cases h
  rename_i b
  cases h
  simp only [Action.exec] at hex
  split at hex
  case h_2 => cases hex
  rename_i s p hg
  cases hx with
  | ptr hb =>
    rename_i k o e
    have hbr := hr.blk b _ hb
    rw [hg] at hbr
    obtain ⟨hb1, ho⟩ := hbr
    have hb1 : w.heap[k]? = some (.stringIter s p) := hb1
    have hlt : k < w.heap.size := (Array.getElem?_eq_some_iff.1 hb1).1
    have ho : o = 0 := ho
    subst ho
    have hgo : (getObj k).run P w = .ok (.stringIter s p) w := by simp [getObj, Sem.run, hb1]
    split at hex
    · rename_i hp
      cases hex
      have hso : ∀ o, (setObj k o).run P w = .ok () { w with heap := w.heap.setIfInBounds k o } := fun o => by simp [setObj, Sem.run, hb1]
      have hne : ∀ b' o', b' ≠ k → (w.heap.setIfInBounds k o')[b']? = w.heap[b']? := fun b' o' hb' => by simp [Ne.symm hb']
      obtain ⟨a1, a2, _⟩ := updBlk (w' := { w with heap := w.heap.setIfInBounds k (.stringIter s (p + (Utf8.decode s p).2)) }) hr hb (.iter s (p + (Utf8.decode s p).2)) rfl rfl rfl rfl (by simp)
        (fun b' c e fr hbb => ⟨c, by dsimp only; rw [hne b' _ (fun e => by subst e; rw [hb1] at hbb; cases hbb)]; exact hbb, rfl, fun _ _ => rfl⟩)
        (fun b' o' hbb _ hn => by dsimp only; rw [hne b' _ (fun e => hn (by subst e; rw [hg]; rfl))]; exact hbb)
        (fun b' l hbb => ⟨l, by dsimp only; rw [hne b' _ (fun e => by subst e; rw [hb1] at hbb; cases hbb)]; exact hbb⟩)
        (fun b' o' hin => by rw [hg]; exact hin)
        (fun hvr => ⟨by show (w.heap.setIfInBounds k _)[k]? = _; simp [hlt], rfl⟩)
      refine ⟨I, ι, _, .tuple #[.bool true, goInt p, .int .i32 (Utf8.decode s p).1], a1, ?_, a2, fun _ _ _ => rfl, ?_⟩
      · exact VR.tup' (((VRs.nil.cons (VR.leaf _)).cons (VR.leaf _)).cons (VR.leaf _))
      · unfold Instr.next
        simp only [Nat.add_zero, Sem.run_bind, hgo, Result.andThen_ok, hp, if_true, hso, Sem.run_pure]
    · rename_i hp
      cases hex
      refine Post.same hr (vm := .tuple #[.bool false]) (VR.tup' (VRs.nil.cons (VR.leaf _))) ?_
      unfold Instr.next
      simp only [Nat.add_zero, Sem.run_bind, hgo, Result.andThen_ok, hp, if_false, Sem.run_pure]
end
end Go.Ab

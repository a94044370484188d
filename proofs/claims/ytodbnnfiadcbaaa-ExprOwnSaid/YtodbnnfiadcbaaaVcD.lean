import Derived.Test.YtodbnnfiadcbaaaVcC
/- The operations that make memory, or write to it. -/
set_option linter.unusedVariables false
set_option linter.unusedSimpArgs false
set_option linter.unusedSectionVars false
namespace Go.V
open Go.RowKit
variable [Wid]

def AV.leaf : AV → Bool
 | .junk | .agg _ | .tup _ => false
 | _ => true
def AV.cells : AV → List AV
 | .agg cs => cs
 | x => [x]
def leaves : List AV → Bool
 | [] => true
 | x :: r => x.leaf && leaves r
def toTs : List AV → Option (List T)
 | [] => some []
 | .t x :: r => (toTs r).map (x :: ·)
 | .nl :: r => (toTs r).map (T.sl [] :: ·)
 | _ :: _ => none
def setAt {α : Type} (l : List α) (o : Nat) : List α → List α
 | [] => l
 | v :: r => setAt (l.set o v) (o + 1) r

def AS.new (σ : AS) (o : AO) : AS := { σ with h := σ.h ++ [o] }
def AS.upd (σ : AS) (k : Nat) (o : AO) : AS := { σ with h := σ.h.set k o }

section
variable {P : Program} {τ : Tys} {C : Ctx} {w : World} {own : Own} {hd : Hd} {σ : AS} {a : Act}

theorem TV.one {x : T} {v : Value} (h : TV w own x v) : v.oneCell' = true := by cases h <;> first | assumption | rfl
theorem VR.one {x : AV} {v : Value} (h : VR w own hd x v) (hl : x.leaf = true) : v.oneCell' = true := by
 cases h with
 | t h => exact h.one
 | junk => cases hl
 | agg => cases hl
 | tup => cases hl
 | _ => rfl

theorem SX.step (h : SX C own hd σ a w) {w' : World} {own' : Own} {hd' : Hd} {h' : List AO} (j : Nat) (fr : Fr w own w' own')
 (st : Stay own hd own' hd' fun _ => true) (hs : ∀ k s, k ≠ j → k < σ.h.length → hd' (k, s) = hd (k, s))
 (blk : ∀ b r, own b = ow r → r.1 ≠ j → w'.heap[b]? = w.heap[b]? ∧ own' b = own b)
 (oth : ∀ k, k ≠ j → h'[k]? = σ.h[k]?) (me : ∀ o, h'[j]? = some o → ObjAt w' own' hd' j o)
 (dom : ∀ b r, own' b = ow r → b < w'.heap.size ∧ r.1 < h'.length) (lt : ∀ b, own' b = ext → b < w'.heap.size) : SX C own' hd' { σ with h := h' } a w' := by
 refine ⟨⟨fun k o hk => ?_, dom, lt⟩, h.fr.trans fr, h.stay.trans st (fun _ hp => ⟨hp, rfl⟩), h.gr, h.le, h.dfr, h.size, fun i hi => (h.slot i hi).same fr.keep st⟩
 by_cases hkj : k = j
 ·subst hkj; exact me o hk
 ·have hk' : σ.h[k]? = some o := by rw [← oth k hkj]; exact hk
  have hlt := (List.getElem?_eq_some_iff.1 hk').1
  exact (h.rel.obj k o hk').same fr.keep st (fun s => hs k s hkj hlt) (fun b s hb => blk b _ hb hkj)

theorem getElem?_app {α : Type} {l : List α} {x : α} {k : Nat} (hk : k ≠ l.length) : (l ++ [x])[k]? = l[k]? := by
 rcases Nat.lt_or_ge k l.length with h | h
 ·exact List.getElem?_append_left h
 ·rw [List.getElem?_append_right h, List.getElem?_eq_none h, List.getElem?_eq_none (by simp; omega)]

def own1 (own : Own) (b k : Nat) : Own := fun x => if x = b then ow (k, none) else own x
def hd1 (hd : Hd) (b k cap : Nat) : Hd := fun r => if r = (k, none) then (some (b, 0), cap) else hd r

theorem alloc_size (w : World) (o : Obj) : (w.alloc o).heap.size = w.heap.size + 1 := by
 show (w.heap.push o).size = _
 exact Array.size_push ..

theorem Fr.alloc (w : World) (own : Own) (o : Obj) (k : Nat) (lt : ∀ b, own b = ext → b < w.heap.size) : Fr w own (w.alloc o) (own1 own w.heap.size k) :=
 ⟨rfl, rfl, rfl, by rw [alloc_size]; omega, fun b hb ho => ⟨Below.heap_alloc w o b hb, by rw [own1, if_neg (by omega)]; exact ho⟩,
  fun b ho => ⟨Below.heap_alloc w o b (lt b ho), by rw [own1, if_neg (by have := lt b ho; omega)]; exact ho⟩, fun b ho => by
  rw [own1] at ho
  split at ho
  ·cases ho
  ·exact ho⟩
theorem lt_own1 {w : World} {own : Own} (lt : ∀ b, own b = ext → b < w.heap.size) (o : Obj) (k : Nat) (b : Nat) (h : own1 own w.heap.size k b = ext) : b < (w.alloc o).heap.size := by
 rw [own1] at h
 split at h
 ·cases h
 ·rw [alloc_size]; have := lt b h; omega

theorem SX.new (h : SX C own hd σ a w) {o : AO} {ob : Obj} {cap : Nat}
 (me : ObjAt (w.alloc ob) (own1 own w.heap.size σ.h.length) (hd1 hd w.heap.size σ.h.length cap) σ.h.length o) :
 SX C (own1 own w.heap.size σ.h.length) (hd1 hd w.heap.size σ.h.length cap) (σ.new o) a (w.alloc ob) := by
 have old : ∀ b r, own b = ow r → b ≠ w.heap.size := fun b r hb e => by have := (h.rel.dom b r hb).1; omega
 have oldr : ∀ b r, own b = ow r → r ≠ (σ.h.length, none) := fun b r hb e => by have := (h.rel.dom b r hb).2; rw [e] at this; exact Nat.lt_irrefl _ this
 refine h.step σ.h.length (Fr.alloc w own ob _ h.rel.lt) (fun r b _ hb => ⟨?_, ?_⟩) (fun k s hk hlt => ?_) (fun b r hb _ => ⟨?_, ?_⟩) (fun k hk => getElem?_app hk) (fun o' ho' => ?_) (fun b r hb => ?_) (lt_own1 h.rel.lt ob _)
 ·rw [hd1, if_neg (oldr b r hb)]
 ·rw [own1, if_neg (old b r hb)]; exact hb
 ·rw [hd1, if_neg (fun e => hk (congrArg Prod.fst e))]
 ·exact Below.heap_alloc w ob b (h.rel.dom b r hb).1
 ·rw [own1, if_neg (old b r hb)]
 ·rw [List.getElem?_append_right (Nat.le_refl _), Nat.sub_self] at ho'
  obtain rfl : o = o' := by simpa using ho'
  exact me
 ·rw [own1] at hb
  split at hb
  ·rename_i e; subst e; cases hb; exact ⟨by rw [alloc_size]; omega, by simp⟩
  ·have := h.rel.dom b r hb; exact ⟨by rw [alloc_size]; omega, by simp; omega⟩

theorem Stay.new (h : SX C own hd σ a w) (cap : Nat) : Stay own hd (own1 own w.heap.size σ.h.length) (hd1 hd w.heap.size σ.h.length cap) fun _ => true := fun r b _ hb => by
 have h1 := h.rel.dom b r hb
 refine ⟨?_, ?_⟩
 ·rw [hd1, if_neg (fun e => by rw [e] at h1; exact Nat.lt_irrefl _ h1.2)]
 ·rw [own1, if_neg (by omega)]; exact hb

theorem SX.new_st (h : SX C own hd σ a w) {cs : List AV} {vs : Array Value} (ty : TypeId) (hn : vs.size = cs.length) (hl : leaves cs = true)
 (hv : ∀ (i : Nat) (x : AV) (v : Value), cs[i]? = some x → vs[i]? = some v → VR w own hd x v) :
 ∃ own' hd', SX C own' hd' (σ.new (.st cs)) a (w.alloc (.cells vs ty)) ∧ VR (w.alloc (.cells vs ty)) own' hd' (.pt σ.h.length 0) (.pointer (some ⟨w.heap.size, 0, none⟩)) := by
 have leaf : ∀ (cs : List AV), leaves cs = true → ∀ (i : Nat) (x : AV), cs[i]? = some x → x.leaf = true := by
  intro cs
  induction cs with
  | nil => intro _ i x hx; simp at hx
  | cons c r ih =>
   intro hl i x hx
   simp only [leaves, Bool.and_eq_true] at hl
   cases i with
   | zero => obtain rfl := Option.some.inj hx; exact hl.1
   | succ i => exact ih hl.2 i x hx
 have fr := Fr.alloc w own (.cells vs ty) σ.h.length h.rel.lt
 have hc : ∀ j, (w.alloc (.cells vs ty)).cell? ⟨w.heap.size, 0 + j, none⟩ = vs[j]? := fun j => by rw [Nat.zero_add]; exact World.cell?_alloc_new w vs ty j
 have hp : ((hd1 hd w.heap.size σ.h.length vs.size) (σ.h.length, none)).1 = some (w.heap.size, 0) := by rw [hd1, if_pos rfl]
 have ho : own1 own w.heap.size σ.h.length w.heap.size = ow (σ.h.length, none) := by rw [own1, if_pos rfl]
 refine ⟨_, _, h.new (cap := vs.size) ⟨(w.heap.size, 0), hp, ho, fun j hj => ?_, fun j x hx => ?_⟩, .pt (p := (w.heap.size, 0)) hp ho⟩
 ·rw [hc]
  have : j < vs.size := by omega
  exact ⟨by simp [this], by rw [Nat.zero_add]; exact World.frozen?_alloc_new w vs ty j⟩
 ·have hj : j < vs.size := by rw [hn]; exact (List.getElem?_eq_some_iff.1 hx).1
  have hv' := hv j x vs[j] hx (Array.getElem?_eq_getElem hj)
  exact ⟨vs[j], by rw [hc]; exact Array.getElem?_eq_getElem hj, hv'.same fr.keep (Stay.new h _), hv'.one (leaf cs hl j x hx)⟩

structure Cells (w : World) (own : Own) (cs : Array Value) (cap s : Nat) (els : List (List T)) : Prop where
 size : cap * s ≤ cs.size
 len : ∀ (i : Nat) (el : List T), els[i]? = some el → el.length = s
 max : els.length ≤ 9223372036854775807
 le : els.length ≤ cap
 cell : ∀ (i : Nat) (el : List T) (j : Nat) (t : T), els[i]? = some el → el[j]? = some t → ∃ v, cs[i * s + j]? = some v ∧ TV w own t v

theorem SX.new_row (h : SX C own hd σ a w) {cs : Array Value} {cap s : Nat} {els : List (List T)} (ty : TypeId) (hty : Wid.W ty = s) (hc : Cells w own cs cap s els) (n : Nat) (hn : n ≤ els.length) :
 ∃ own' hd', SX C own' hd' (σ.new (.row s els)) a (w.alloc (.cells cs ty)) ∧
  VR (w.alloc (.cells cs ty)) own' hd' (.rf (σ.h.length, none) s 0 n) (.slice (some ⟨w.heap.size, 0, none⟩) n cap) := by
 have fr := Fr.alloc w own (.cells cs ty) σ.h.length h.rel.lt
 have hce : ∀ j, (w.alloc (.cells cs ty)).cell? ⟨w.heap.size, 0 + j, none⟩ = cs[j]? := fun j => by rw [Nat.zero_add]; exact World.cell?_alloc_new w cs ty j
 have hp : (hd1 hd w.heap.size σ.h.length cap) (σ.h.length, none) = (some (w.heap.size, 0), cap) := by rw [hd1, if_pos rfl]
 have ho : own1 own w.heap.size σ.h.length w.heap.size = ow (σ.h.length, none) := by rw [own1, if_pos rfl]
 refine ⟨_, _, h.new (cap := cap) (o := .row s els) ⟨hc.len, hc.max, by rw [hp]; exact hc.le, (fun e => by rw [hp] at e; cases e), fun p e => ?_, (fun p e => by rw [hp] at e; cases e; exact ⟨cs, ty, Array.getElem?_push_size, hty⟩), fun p e => ?_, fun p i el j t e hi hj => ?_⟩, .rf (by have := hc.le; omega) (fun _ => ⟨(w.heap.size, 0), by rw [hp], ho, by rw [hp]; simp, by simp⟩)⟩
 ·rw [hp] at e; cases e; exact ho
 ·rw [hp] at e ⊢; cases e
  intro j hj
  rw [hce]
  have : j < cs.size := Nat.lt_of_lt_of_le hj hc.size
  exact ⟨by simp [this], by rw [Nat.zero_add]; exact World.frozen?_alloc_new w cs ty j⟩
 ·rw [hp] at e; cases e
  obtain ⟨v, hv, ht⟩ := hc.cell i el j t hi hj
  exact ⟨v, by rw [hce]; exact hv, ht.keep fr.keep⟩


theorem setAt_length {α : Type} (vs : List α) : ∀ (l : List α) (o : Nat), (setAt l o vs).length = l.length := by
 induction vs with
 | nil => intro l o; rfl
 | cons v r ih => intro l o; rw [setAt, ih, List.length_set]

theorem setAt_get {α : Type} (vs : List α) : ∀ (l : List α) (o j : Nat), o + vs.length ≤ l.length →
 (setAt l o vs)[j]? = if o ≤ j ∧ j < o + vs.length then vs[j - o]? else l[j]? := by
 induction vs with
 | nil => intro l o j _; rw [setAt, if_neg (by simp only [List.length_nil]; omega)]
 | cons v r ih =>
  intro l o j hl
  simp only [List.length_cons] at hl ⊢
  rw [setAt, ih _ _ _ (by rw [List.length_set]; omega)]
  by_cases h1 : o = j
  ·subst h1
   rw [if_neg (by omega), if_pos (by omega), Nat.sub_self, List.getElem?_set_self (by omega)]; rfl
  ·rw [List.getElem?_set_ne h1]
   by_cases h2 : o + 1 ≤ j ∧ j < o + 1 + r.length
   ·rw [if_pos h2, if_pos (by omega), show j - o = (j - (o + 1)) + 1 by omega, List.getElem?_cons_succ]
   ·rw [if_neg h2, if_neg (by omega)]

theorem setCells_size (b : Nat) : ∀ (vs : List Value) (o : Nat) (w : World), (w.setCells b o vs).heap.size = w.heap.size
 | [], _, _ => rfl
 | v :: r, o, w => by
  rw [World.setCells, setCells_size b r]
  simp [World.setCell]
theorem setCells_other (b : Nat) : ∀ (vs : List Value) (o : Nat) (w : World) (i : Nat), i ≠ b → (w.setCells b o vs).heap[i]? = w.heap[i]?
 | [], _, _, _, _ => rfl
 | v :: r, o, w, i, hi => by
  rw [World.setCells, setCells_other b r _ _ i hi]
  exact Below.heap_setCell w _ v i hi
theorem setCells_rest (b : Nat) : ∀ (vs : List Value) (o : Nat) (w : World), (w.setCells b o vs).os = w.os ∧ (w.setCells b o vs).tape = w.tape ∧ (w.setCells b o vs).output = w.output
 | [], _, _ => ⟨rfl, rfl, rfl⟩
 | v :: r, o, w => by rw [World.setCells]; exact setCells_rest b r _ _

theorem Fr.setCells (w : World) (own : Own) {b : Nat} {r : Key} (hb : own b = ow r) (o : Nat) (vs : List Value) : Fr w own (w.setCells b o vs) own :=
 ⟨(setCells_rest b vs o w).1, (setCells_rest b vs o w).2.1, (setCells_rest b vs o w).2.2, Nat.le_of_eq (setCells_size b vs o w).symm, fun i _ ho =>
   ⟨setCells_other b vs o w i (fun e => by rw [e, hb] at ho; cases ho), ho⟩, fun i ho => ⟨setCells_other b vs o w i (fun e => by rw [e, hb] at ho; cases ho), ho⟩, fun _ ho => ho⟩
theorem Stay.refl (own : Own) (hd : Hd) : Stay own hd own hd fun _ => true := fun _ _ _ h => ⟨rfl, h⟩

theorem set_cell {b o : Nat} {vs : List Value} {n : Nat} (ht : w.there b o n) (off : Nat) (hle : off + vs.length ≤ n) (j : Nat) :
 (w.setCells b (o + off) vs).cell? ⟨b, o + j, none⟩ = if off ≤ j ∧ j < off + vs.length then vs[j - off]? else w.cell? ⟨b, o + j, none⟩ := by
 by_cases hj : off ≤ j ∧ j < off + vs.length
 ·rw [if_pos hj]
  have := World.cell?_setCells_in b vs (o + off) w (fun i hi => by have := (ht (off + i) (by omega)).1; rwa [Nat.add_assoc]) (j - off) (by omega)
  rw [show o + off + (j - off) = o + j by omega] at this
  rw [this, List.getElem?_eq_getElem (by omega)]
 ·rw [if_neg hj]
  exact World.cell?_setCells_out b vs (o + off) w _ (fun _ _ => by simp only; omega)
theorem set_pln1 {w : World} {b s : Nat} (h : Pln w b s) (a : Addr) (v : Value) : Pln (w.setCell a v) b s := by
 obtain ⟨c, t, h, e⟩ := h
 simp only [Pln, World.setCell, Array.getElem?_modify]
 split
 ·rw [h]; exact ⟨_, _, rfl, e⟩
 ·exact ⟨c, t, h, e⟩
theorem set_pln {b b' s : Nat} : ∀ (vs : List Value) (o' : Nat) {w : World}, Pln w b s → Pln (w.setCells b' o' vs) b s
 | [], _, _, h => h
 | v :: r, o', w, h => by rw [World.setCells]; exact set_pln r _ (set_pln1 h _ v)
theorem set_there {b o b' o' n : Nat} {vs : List Value} (ht : w.there b o n) : (w.setCells b' o' vs).there b o n := fun j hj => by
 rw [World.frozen?_setCells]
 refine ⟨?_, (ht j hj).2⟩
 obtain ⟨u, hu⟩ := Option.isSome_iff_exists.1 (ht j hj).1
 have : ∀ (vs : List Value) (o' : Nat) (w : World), (w.cell? ⟨b, o + j, none⟩).isSome = true → ((w.setCells b' o' vs).cell? ⟨b, o + j, none⟩).isSome = true := by
  intro vs
  induction vs with
  | nil => intro _ _ h; exact h
  | cons v r ih =>
   intro o' w h
   rw [World.setCells]
   refine ih _ _ ?_
   obtain ⟨u, hu⟩ := Option.isSome_iff_exists.1 h
   obtain ⟨v', hv'⟩ := cell?_setCell_some (p := ⟨b', o', none⟩) (x := v) hu
   rw [hv']; rfl
 exact this vs o' w (by rw [hu]; rfl)

theorem SX.store_st (h : SX C own hd σ a w) {k : Nat} {cs : List AV} (hk : σ.h[k]? = some (.st cs)) {p : Nat × Nat} (hp : (hd (k, none)).1 = some p) {off : Nat} {ys : List AV} {vs : List Value}
 (hn : vs.length = ys.length) (hl : ∀ (i : Nat) (x : AV), ys[i]? = some x → x.leaf = true)
 (hv : ∀ (i : Nat) (x : AV) (v : Value), ys[i]? = some x → vs[i]? = some v → VR w own hd x v) (hle : off + ys.length ≤ cs.length) :
 SX C own hd (σ.upd k (.st (setAt cs off ys))) a (w.setCells p.1 (p.2 + off) vs) := by
 obtain ⟨q, h1, h2, h3, h4⟩ := h.rel.obj k _ hk
 obtain rfl : p = q := Option.some.inj (hp.symm.trans h1)
 have fr := Fr.setCells w own h2 (p.2 + off) vs
 have hklt := (List.getElem?_eq_some_iff.1 hk).1
 refine h.step k fr (Stay.refl _ _) (fun _ _ _ _ => rfl) (fun b r hb hr => ⟨setCells_other _ _ _ _ _ (fun e => ?_), rfl⟩) (fun j hj => by simp [Ne.symm hj]) (fun o ho => ?_) (fun b r hb => ?_) (fun b hb => by rw [setCells_size]; exact h.rel.lt b hb)
 ·rw [e, h2] at hb; cases hb; exact hr rfl
 ·rw [List.getElem?_set_self hklt] at ho
  obtain rfl := Option.some.inj ho
  refine ⟨p, hp, h2, by rw [setAt_length]; exact set_there h3, fun j x hx => ?_⟩
  rw [setAt_get _ _ _ _ hle] at hx
  rw [set_cell h3 off (by omega)]
  by_cases hj : off ≤ j ∧ j < off + ys.length
  ·rw [if_pos hj] at hx
   rw [if_pos (by omega)]
   have hlt : j - off < vs.length := by omega
   have hv' := hv (j - off) x vs[j - off] hx (List.getElem?_eq_getElem hlt)
   exact ⟨vs[j - off], List.getElem?_eq_getElem hlt, hv'.same fr.keep (Stay.refl _ _), hv'.one (hl _ x hx)⟩
  ·rw [if_neg hj] at hx
   rw [if_neg (by omega)]
   obtain ⟨v, e1, e2, e3⟩ := h4 j x hx
   exact ⟨v, e1, e2.same fr.keep (Stay.refl _ _), e3⟩
 ·have := h.rel.dom b r hb
  exact ⟨by rw [setCells_size]; exact this.1, by rw [List.length_set]; exact this.2⟩

theorem SX.store_row (h : SX C own hd σ a w) {k s : Nat} {els : List (List T)} (hk : σ.h[k]? = some (.row s els)) {p : Nat × Nat} (hp : (hd (k, none)).1 = some p) {i off : Nat} {el ts : List T} {vs : List Value}
 (hel : els[i]? = some el) (hn : vs.length = ts.length) (hv : ∀ (j : Nat) (t : T) (v : Value), ts[j]? = some t → vs[j]? = some v → TV w own t v) (hle : off + ts.length ≤ s) :
 SX C own hd (σ.upd k (.row s (els.set i (setAt el off ts)))) a (w.setCells p.1 (p.2 + (i * s + off)) vs) := by
 obtain ⟨h1, h0, h2, h3, h4, h9, h5, h6⟩ := h.rel.obj k _ hk
 have hown := h4 p hp
 have fr := Fr.setCells w own hown (p.2 + (i * s + off)) vs
 have hklt := (List.getElem?_eq_some_iff.1 hk).1
 have hilt := (List.getElem?_eq_some_iff.1 hel).1
 have hels := h1 i el hel
 have hfit : (i + 1) * s ≤ (hd (k, none)).2 * s := Nat.mul_le_mul_right _ (by omega)
 rw [Nat.add_mul, Nat.one_mul] at hfit
 refine h.step k fr (Stay.refl _ _) (fun _ _ _ _ => rfl) (fun b r hb hr => ⟨setCells_other _ _ _ _ _ (fun e => ?_), rfl⟩) (fun j hj => by simp [Ne.symm hj]) (fun o ho => ?_) (fun b r hb => ?_) (fun b hb => by rw [setCells_size]; exact h.rel.lt b hb)
 ·rw [e, hown] at hb; cases hb; exact hr rfl
 ·rw [List.getElem?_set_self hklt] at ho
  obtain rfl := Option.some.inj ho
  have len' : ∀ (i' : Nat) (el' : List T), (els.set i (setAt el off ts))[i']? = some el' → el'.length = s := fun i' el' he => by
   by_cases hi : i = i'
   ·subst hi; rw [List.getElem?_set_self hilt] at he; obtain rfl := Option.some.inj he; rw [setAt_length]; exact hels
   ·rw [List.getElem?_set_ne hi] at he; exact h1 _ _ he
  refine ⟨len', by rw [List.length_set]; exact h0, by rw [List.length_set]; exact h2, h3, h4, (fun q hq => set_pln _ _ (h9 q hq)), fun q hq => set_there (h5 q hq), fun q i' el' j t hq he hj => ?_⟩
  obtain rfl : p = q := Option.some.inj (hp.symm.trans hq)
  have hjs : j < s := by rw [← len' i' el' he]; exact (List.getElem?_eq_some_iff.1 hj).1
  rw [set_cell (h5 p hp) (i * s + off) (by omega)]
  by_cases hi : i = i'
  ·subst hi
   rw [List.getElem?_set_self hilt] at he
   obtain rfl := Option.some.inj he
   rw [setAt_get _ _ _ _ (by omega)] at hj
   by_cases hjo : off ≤ j ∧ j < off + ts.length
   ·rw [if_pos hjo] at hj
    rw [if_pos (by omega), show i * s + j - (i * s + off) = j - off by omega]
    have hlt : j - off < vs.length := by omega
    exact ⟨vs[j - off], List.getElem?_eq_getElem hlt, (hv _ t _ hj (List.getElem?_eq_getElem hlt)).keep fr.keep⟩
   ·rw [if_neg hjo] at hj
    rw [if_neg (by omega)]
    obtain ⟨v, e1, e2⟩ := h6 p i el j t hp hel hj
    exact ⟨v, e1, e2.keep fr.keep⟩
  ·rw [List.getElem?_set_ne hi] at he
   obtain ⟨v, e1, e2⟩ := h6 p i' el' j t hp he hj
   refine ⟨v, ?_, e2.keep fr.keep⟩
   rw [if_neg ?_]
   ·exact e1
   ·intro hh
    rcases Nat.lt_or_ge i i' with hlt | hge
    ·have : (i + 1) * s ≤ i' * s := Nat.mul_le_mul_right _ hlt
     rw [Nat.add_mul] at this; omega
    ·have : (i' + 1) * s ≤ i * s := Nat.mul_le_mul_right _ (by omega)
     rw [Nat.add_mul] at this; omega
 ·have := h.rel.dom b r hb
  exact ⟨by rw [setCells_size]; exact this.1, by rw [List.length_set]; exact this.2⟩


/-! ### append -/
def nk (k : Nat) : Nat → Bool := fun i => !(Nat.beq i k)
theorem nk_ne {k i : Nat} (h : nk k i = true) : i ≠ k := fun e => by subst e; simp [nk] at h
def AS.mv (σ : AS) (k : Nat) (o : AO) : AS := { n := σ.n, m := k :: σ.m, e := σ.e, l := fun i => (σ.l i).scrub (nk k), h := (σ.h.map (AO.scrub (nk k))).set k o }

theorem SX.move (h : SX C own hd σ a w) {w' : World} {own' : Own} {hd' : Hd} (j : Nat) {o : AO} (hjl : j < σ.h.length) (fr : Fr w own w' own')
 (st : Stay own hd own' hd' (nk j)) (hs : ∀ k s, k ≠ j → hd' (k, s) = hd (k, s))
 (blk : ∀ b r, own b = ow r → r.1 ≠ j → w'.heap[b]? = w.heap[b]? ∧ own' b = own b)
 (me : ObjAt w' own' hd' j o) (dom : ∀ b r, own' b = ow r → b < w'.heap.size ∧ r.1 < σ.h.length) (lt : ∀ b, own' b = ext → b < w'.heap.size) : SX C own' hd' (σ.mv j o) a w' := by
 refine ⟨⟨fun k o' hk => ?_, fun b r hb => by have := dom b r hb; exact ⟨this.1, by simp [AS.mv]; exact this.2⟩, lt⟩, h.fr.trans fr, h.stay.trans st (fun i hp => ?_), fun i hi => by simp only [AS.mv, List.contains_cons, h.gr i hi, Bool.or_true], h.le, h.dfr, h.size, fun i hi => (h.slot i hi).keep fr.keep st⟩
 rotate_left
 ·simp only [Ctx.um, AS.mv, List.contains_cons, Bool.not_or, Bool.and_eq_true] at hp ⊢
  refine ⟨⟨hp.1, hp.2.2⟩, ?_⟩
  have := hp.2.1
  simp only [nk]
  cases hq : Nat.beq i j with
  | false => rfl
  | true => obtain rfl := Nat.eq_of_beq_eq_true hq; simp at this
 simp only [AS.mv] at hk
 by_cases hkj : k = j
 ·subst hkj
  rw [List.getElem?_set_self (by simpa using hjl)] at hk
  exact Option.some.inj hk ▸ me
 ·rw [List.getElem?_set_ne (Ne.symm hkj)] at hk
  obtain ⟨o1, ho1, rfl⟩ := getElem?_map_some hk
  exact (h.rel.obj k o1 ho1).keep fr.keep st (fun s => hs k s hkj) (fun b s hb => blk b _ hb hkj)

structure Flat (w : World) (own : Own) (s : Nat) (els : List (List T)) (vs : List Value) : Prop where
 size : vs.length = els.length * s
 len : ∀ (i : Nat) (el : List T), els[i]? = some el → el.length = s
 cell : ∀ (i : Nat) (el : List T) (j : Nat) (t : T), els[i]? = some el → el[j]? = some t → ∃ v, vs[i * s + j]? = some v ∧ TV w own t v

theorem Flat.one {s : Nat} {els : List (List T)} {vs : List Value} (h : Flat w own s els vs) : ∀ u ∈ vs, u.oneCell' = true := fun u hu => by
 obtain ⟨q, hq⟩ := List.getElem?_of_mem hu
 have hlt := (List.getElem?_eq_some_iff.1 hq).1
 rw [h.size] at hlt
 have hs : 0 < s := by rcases Nat.eq_zero_or_pos s with e | e
                       ·subst e; simp at hlt
                       ·exact e
 have hi : q / s < els.length := (Nat.div_lt_iff_lt_mul hs).2 hlt
 have hm := Nat.mod_lt q hs
 have hel := List.getElem?_eq_getElem hi
 have hj : q % s < (els[q / s]).length := by rw [h.len _ _ hel]; exact hm
 obtain ⟨v, hv, ht⟩ := h.cell _ _ _ _ hel (List.getElem?_eq_getElem hj)
 rw [show q / s * s + q % s = q by rw [Nat.mul_comm]; exact Nat.div_add_mod q s, hq] at hv
 exact Option.some.inj hv ▸ ht.one

theorem Flat.keep {w' : World} {own' : Own} {s : Nat} {els : List (List T)} {vs : List Value} (h : Flat w own s els vs) (hk : Keep w own w' own') : Flat w' own' s els vs :=
 ⟨h.size, h.len, fun i el j t hi hj => by obtain ⟨v, e1, e2⟩ := h.cell i el j t hi hj; exact ⟨v, e1, e2.keep hk⟩⟩

theorem flat_of {b o s : Nat} {els : List (List T)} (hlen : ∀ (i : Nat) (el : List T), els[i]? = some el → el.length = s)
 (hc : ∀ (i : Nat) (el : List T) (j : Nat) (t : T), els[i]? = some el → el[j]? = some t → ∃ v, w.cell? ⟨b, o + (i * s + j), none⟩ = some v ∧ TV w own t v) :
 ∃ vs, Flat w own s els vs ∧ w.rangeAt b o vs := by
 have key : ∀ q, q < els.length * s → ∃ v, w.cell? ⟨b, o + q, none⟩ = some v ∧ ∀ el t, els[q / s]? = some el → el[q % s]? = some t → TV w own t v := fun q hq => by
  have hs : 0 < s := by rcases Nat.eq_zero_or_pos s with e | e
                        ·subst e; simp at hq
                        ·exact e
  have hi : q / s < els.length := (Nat.div_lt_iff_lt_mul hs).2 hq
  have hm := Nat.mod_lt q hs
  have hel := List.getElem?_eq_getElem hi
  have hj : q % s < (els[q / s]).length := by rw [hlen _ _ hel]; exact hm
  have hjt := List.getElem?_eq_getElem hj
  obtain ⟨v, hv, ht⟩ := hc _ _ _ _ hel hjt
  have eq : q / s * s + q % s = q := by rw [Nat.mul_comm]; exact Nat.div_add_mod q s
  rw [eq] at hv
  exact ⟨v, hv, fun el t h1 h2 => by
   obtain rfl := Option.some.inj (hel.symm.trans h1)
   exact Option.some.inj (hjt.symm.trans h2) ▸ ht⟩
 obtain ⟨vs, e1, e2, e3⟩ := range_of (w := w) (b := b) (o := o) (R := fun q v => ∀ el t, els[q / s]? = some el → el[q % s]? = some t → TV w own t v) (els.length * s) key
 refine ⟨vs, ⟨e1, hlen, fun i el j t hi hj => ?_⟩, e2⟩
 have hjs : j < s := by rw [← hlen _ _ hi]; exact (List.getElem?_eq_some_iff.1 hj).1
 have hil := (List.getElem?_eq_some_iff.1 hi).1
 have hq : i * s + j < els.length * s := by
  have : (i + 1) * s ≤ els.length * s := Nat.mul_le_mul_right _ hil
  rw [Nat.add_mul] at this; omega
 have hlt : i * s + j < vs.length := by rw [e1]; exact hq
 refine ⟨vs[i * s + j], List.getElem?_eq_getElem hlt, e3 _ _ (List.getElem?_eq_getElem hlt) el t ?_ ?_⟩
 ·rw [show (i * s + j) / s = i by rw [Nat.mul_comm, Nat.mul_add_div (by omega), Nat.div_eq_of_lt hjs, Nat.add_zero]]; exact hi
 ·rw [show (i * s + j) % s = j by rw [Nat.mul_comm, Nat.mul_add_mod, Nat.mod_eq_of_lt hjs]]; exact hj

theorem take_get {els : List (List T)} {n i : Nat} {el : List T} (h : (els.take n)[i]? = some el) : i < n ∧ els[i]? = some el := by
 rw [List.getElem?_take] at h
 split at h
 ·exact ⟨by assumption, h⟩
 ·cases h

theorem SX.new_nil (h : SX C own hd σ a w) (s : Nat) (ad : Option Addr) : ∃ own' hd', SX C own' hd' (σ.new (.row s [])) a w ∧ VR w own' hd' (.rf (σ.h.length, none) s 0 0) (.slice ad 0 0) := by
 have st : Stay own hd own (fun r => if r = (σ.h.length, none) then (none, 0) else hd r) fun _ => true := fun r b _ hb => by
  have := h.rel.dom b r hb
  refine ⟨?_, hb⟩
  show (if r = (σ.h.length, none) then ((none, 0) : Option (Nat × Nat) × Nat) else hd r) = hd r
  rw [if_neg (fun e => by rw [e] at this; exact Nat.lt_irrefl _ this.2)]
 refine ⟨own, fun r => if r = (σ.h.length, none) then (none, 0) else hd r, h.step σ.h.length (Fr.refl _ _) st (fun k s hk _ => if_neg (fun e => hk (congrArg Prod.fst e))) (fun _ _ _ _ => ⟨rfl, rfl⟩) (fun k hk => getElem?_app hk) (fun o ho => ?_) (fun b r hb => ?_) h.rel.lt, .rf (Nat.le_refl _) (fun e => absurd rfl e)⟩
 ·rw [List.getElem?_append_right (Nat.le_refl _), Nat.sub_self] at ho
  obtain rfl : AO.row s [] = o := by simpa using ho
  exact ⟨fun i el h => by simp at h, by simp, by simp, fun _ => by simp, fun p e => by simp at e, fun p e => by simp at e, fun p e => by simp at e, fun p i el j t e => by simp at e⟩
 ·have := h.rel.dom b r hb; exact ⟨this.1, by simp; omega⟩


theorem Flat.append {s : Nat} {xs ys : List (List T)} {us vs : List Value} (h : Flat w own s xs us) (k : Flat w own s ys vs) : Flat w own s (xs ++ ys) (us ++ vs) := by
 refine ⟨by rw [List.length_append, List.length_append, h.size, k.size, Nat.add_mul], fun i el hi => ?_, fun i el j t hi hj => ?_⟩
 ·rcases Nat.lt_or_ge i xs.length with hl | hl
  ·rw [List.getElem?_append_left hl] at hi; exact h.len _ _ hi
  ·rw [List.getElem?_append_right hl] at hi; exact k.len _ _ hi
 ·rcases Nat.lt_or_ge i xs.length with hl | hl
  ·rw [List.getElem?_append_left hl] at hi
   obtain ⟨v, e1, e2⟩ := h.cell i el j t hi hj
   exact ⟨v, by rw [List.getElem?_append_left (List.getElem?_eq_some_iff.1 e1).1]; exact e1, e2⟩
  ·rw [List.getElem?_append_right hl] at hi
   obtain ⟨v, e1, e2⟩ := k.cell _ el j t hi hj
   have : xs.length * s ≤ i * s := Nat.mul_le_mul_right _ hl
   refine ⟨v, ?_, e2⟩
   rw [List.getElem?_append_right (by rw [h.size]; omega), h.size]
   rw [show i * s + j - xs.length * s = (i - xs.length) * s + j by rw [Nat.sub_mul]; omega]
   exact e1

theorem Flat.cells {s cap : Nat} {els : List (List T)} {vs : List Value} (h : Flat w own s els vs) (r : Array Value) (hm : els.length ≤ 9223372036854775807) (hc : els.length ≤ cap) (hs : cap * s ≤ vs.length + r.size) :
 Cells w own (vs.toArray ++ r) cap s els :=
 ⟨by simpa using hs, h.len, hm, hc, fun i el j t hi hj => by
  obtain ⟨v, e1, e2⟩ := h.cell i el j t hi hj
  have := (List.getElem?_eq_some_iff.1 e1).1
  exact ⟨v, by rw [Array.getElem?_append_left (by simpa using this)]; simpa using e1, e2⟩⟩

structure From (P : Program) (w : World) (own : Own) (s : Nat) (tx : TypeId) (v : Value) (m : Nat) (ns : List (List T)) (news : List Value) : Prop where
 src : Src P s tx v m news w
 len : ns.length = m
 flat : Flat w own s ns news

theorem app_size {need old bytes : Nat} (h : old < need) (hb : need * bytes ≤ 140737488355328) : Builtin.nextslicecap need old * bytes ≤ 281474976710656 := growslice_fits h hb

theorem SX.append (hτ : Tab P τ) (h : SX C own hd σ a w) {t tx ty e : TypeId} (ht : (τ t).k = .sl e) (he : (τ e).k ≠ .bad) (hz : (τ e).z.length = (τ e).n)
 {k n c m : Nat} {els ns : List (List T)} (hk : σ.h[k]? = some (.row (τ e).n els)) {ad : Option Addr} (hr : VR w own hd (.rf (k, none) (τ e).n 0 n) (.slice ad n c)) (hn : n ≤ els.length)
 {v : Value} {news : List Value} (hs : From P w own (τ e).n tx v m ns news) (hb : (n + m) * (τ e).sz ≤ 140737488355328) (h63 : n + m ≤ maxLen) :
 ∃ own' hd' w' u, (Builtin.append_ #[t, tx] ty #[.slice ad n c, v]).run P w = .ok u w' ∧ SX C own' hd' (σ.mv k (.row (τ e).n (els.take n ++ ns))) a w' ∧
  VR w' own' hd' (.rf (k, none) (τ e).n 0 (n + m)) u := by
 obtain ⟨_, d, _, _, hd', _, htk, _⟩ := hτ.get ht (by simp)
 obtain rfl := tk_sl htk
 obtain ⟨i, d2, z, hi, hd2, hz2, htk2, hin, hib, hzc⟩ := hτ.get (t := e) rfl he
 obtain ⟨r1, r0, r2, r3, r4, r9, r5, r6⟩ := h.rel.obj k _ hk
 have hklt := (List.getElem?_eq_some_iff.1 hk).1
 have hmx : maxLen ≤ 9223372036854775807 := by unfold maxLen; omega
 have hlen' : ∀ (i : Nat) (el : List T), (els.take n ++ ns)[i]? = some el → el.length = (τ e).n := fun i el hi => by
  rcases Nat.lt_or_ge i (els.take n).length with hl | hl
  ·rw [List.getElem?_append_left hl] at hi; exact r1 _ _ (take_get hi).2
  ·rw [List.getElem?_append_right hl] at hi; exact hs.flat.len _ _ hi
 have htake : (els.take n).length = n := by rw [List.length_take]; omega
 have nkk : ∀ r : Key, nk k r.1 = true → r ≠ (k, none) := fun r hp e => nk_ne hp (congrArg Prod.fst e)
 cases hr with
 | @rf _ _ _ _ _ _ g1 g2 =>
 by_cases hroom : n + m ≤ c
 ·by_cases hc0 : c = 0
  ·-- nothing comes, and there is no room
   subst hc0
   obtain rfl : n = 0 := by omega
   obtain rfl : m = 0 := by omega
   obtain rfl : ns = [] := List.eq_nil_of_length_eq_zero hs.len
   obtain rfl : news = [] := List.eq_nil_of_length_eq_zero (by simpa using hs.src.newsLen)
   have hlen := hs.src.len
   have hcells := hs.src.cells
   refine ⟨own, hd, w, .slice ad 0 0, ?_, ?_, .rf (Nat.le_refl _) (fun e => absurd rfl e)⟩
   ·rcases hs.src.kind with ⟨e', hk'⟩ | hk' <;> cases ad <;> simp [Builtin.append_, run_underlying hd', run_underlying hk', sizeOf, typeInfo, hi, hin, hlen, hcells, storeCells]
   ·refine h.move k hklt (Fr.refl _ _) (fun r b _ hb => ⟨rfl, hb⟩) (fun _ _ _ => rfl) (fun _ _ _ _ => ⟨rfl, rfl⟩) ⟨by simp, by simp, by simp, r3, r4, r9, r5, by simp⟩ (fun b r hb => h.rel.dom b r hb) h.rel.lt
  ·obtain ⟨p, hp, ho, hcap, rfl⟩ := g2 hc0
   have hth := r5 p hp
   have hfit : n * (τ e).n + news.length ≤ (hd (k, none)).2 * (τ e).n := by
    rw [hs.src.newsLen, ← Nat.add_mul]; exact Nat.mul_le_mul_right _ (by omega)
   simp only [Nat.zero_mul, Nat.add_zero]
   have hrun := run_append_room_src (P := P) w t tx ty e i hd' hi p.1 p.2 n c v m news (by rw [hin]; exact hs.src) hroom
    (fun j hj => by rw [hin]; have := (hth (n * (τ e).n + j) (by omega)).1; rwa [← Nat.add_assoc] at this) (fun j hj => by rw [hin]; have := (hth (n * (τ e).n + j) (by omega)).2; rwa [← Nat.add_assoc] at this)
   rw [hin] at hrun
   have fr := Fr.setCells w own ho (p.2 + n * (τ e).n) news
   refine ⟨own, hd, _, _, hrun, ?_, .rf hroom (fun _ => ⟨p, hp, ho, by omega, by simp⟩)⟩
   refine h.move k hklt fr (fun r b _ hb => ⟨rfl, hb⟩) (fun _ _ _ => rfl) (fun b r hb hr => ⟨setCells_other _ _ _ _ _ (fun e => ?_), rfl⟩) ?_ (fun b r hb => by rw [setCells_size]; exact h.rel.dom b r hb) (fun b hb => by rw [setCells_size]; exact h.rel.lt b hb)
   ·rw [e, ho] at hb; cases hb; exact hr rfl
   ·refine ⟨hlen', by rw [List.length_append, htake, hs.len]; omega, by rw [List.length_append, htake, hs.len]; omega, r3, r4, (fun q hq => set_pln _ _ (r9 q hq)), fun q hq => set_there (r5 q hq), fun q i' el j t hq he' hj => ?_⟩
    obtain rfl : p = q := Option.some.inj (hp.symm.trans hq)
    have hjs : j < (τ e).n := by rw [← hlen' i' el he']; exact (List.getElem?_eq_some_iff.1 hj).1
    rw [set_cell hth (n * (τ e).n) hfit]
    rcases Nat.lt_or_ge i' (els.take n).length with hl | hl
    ·rw [List.getElem?_append_left hl] at he'
     obtain ⟨hin', he'⟩ := take_get he'
     obtain ⟨v', e1, e2⟩ := r6 p i' el j t hp he' hj
     have : (i' + 1) * (τ e).n ≤ n * (τ e).n := Nat.mul_le_mul_right _ hin'
     rw [Nat.add_mul] at this
     exact ⟨v', by rw [if_neg (by omega)]; exact e1, e2.keep fr.keep⟩
    ·rw [List.getElem?_append_right hl, htake] at he'
     obtain ⟨v', e1, e2⟩ := hs.flat.cell _ el j t he' hj
     rw [htake] at hl
     have h1 : n * (τ e).n ≤ i' * (τ e).n := Nat.mul_le_mul_right _ hl
     have h2 := (List.getElem?_eq_some_iff.1 e1).1
     rw [Nat.sub_mul] at e1 h2
     refine ⟨v', ?_, e2.keep fr.keep⟩
     rw [if_pos (by omega), show i' * (τ e).n + j - n * (τ e).n = i' * (τ e).n - n * (τ e).n + j by omega]
     exact e1
 ·-- there is no room: a new block
  have hg : c < n + m := by omega
  have hfront : ∀ (p : Nat × Nat), (hd (k, none)).1 = some p → ∃ vs, Flat w own (τ e).n (els.take n) vs ∧ w.rangeAt p.1 p.2 vs := fun p hp =>
   flat_of (fun i el hi => r1 _ _ (take_get hi).2) (fun i el j t hi hj => r6 p i el j t hp (take_get hi).2 hj)
  have hold : ∃ olds, Flat w own (τ e).n (els.take n) olds ∧ (Builtin.firstCells i.size n (.slice ad n c)).run P w.drew = .ok olds.toArray w.drew := by
   by_cases hc0 : c = 0
   ·obtain rfl : n = 0 := by omega
    refine ⟨[], ⟨by simp, by simp, by simp⟩, ?_⟩
    cases ad with
    | none => exact run_firstCells_none _ _ _ _ _
    | some b => exact run_firstCells_some _ _ _ _ _ _ [] (by simp) (fun j v h => by simp at h)
   ·obtain ⟨p, hp, ho, hcap, rfl⟩ := g2 hc0
    obtain ⟨vs, f1, f2⟩ := hfront p hp
    refine ⟨vs, f1, run_firstCells_some _ _ _ _ _ _ vs (by rw [hin, f1.size, htake]) (fun j v hv => ?_)⟩
    have := f2 j v hv
    simp only [Nat.zero_mul, Nat.add_zero, Addr.add_mid]
    exact this
  obtain ⟨olds, f1, f2⟩ := hold
  have hrun := run_append_grow_src (P := P) w t tx ty e i z hd' hi hz2 ad n c olds f2 v m news (by rw [hin]; exact hs.src) hg (by omega) (by rw [hib]; exact app_size hg hb)
  have hge := grownCap_ge w (n + m) c e
  have hcm := grownCap_le_maxLen w (n + m) c e h63
  have hfl := f1.append hs.flat
  have hll : (els.take n ++ ns).length = n + m := by rw [List.length_append, htake, hs.len]
  have hzs : z.cells.size = (τ e).n := by rw [← hz, ← hzc]; simp
  have hcl : Cells w own ((olds ++ news).toArray ++ Builtin.zeroCells z.cells (grownCap w (n + m) c e - (n + m))) (grownCap w (n + m) c e) (τ e).n (els.take n ++ ns) :=
   hfl.cells _ (by rw [hll]; omega) (by rw [hll]; exact hge) (by rw [hfl.size, hll, size_zeroCells, hzs, ← Nat.add_mul]; exact Nat.mul_le_mul_right _ (by omega))
  generalize hob : (Obj.cells ((olds ++ news).toArray ++ Builtin.zeroCells z.cells (grownCap w (n + m) c e - (n + m))) e) = ob at hrun
  let own' : Own := fun x => if x = w.heap.size then ow (k, none) else if own x = ow (k, none) then none else own x
  let hd' : Hd := fun r => if r = (k, none) then (some (w.heap.size, 0), grownCap w (n + m) c e) else hd r
  have hdk : hd' (k, none) = (some (w.heap.size, 0), grownCap w (n + m) c e) := if_pos rfl
  have hown : own' w.heap.size = ow (k, none) := if_pos rfl
  have hsz : (w.drew.alloc ob).heap.size = w.heap.size + 1 := alloc_size w.drew ob
  have fr : Fr w own (w.drew.alloc ob) own' := ⟨rfl, rfl, rfl, by rw [hsz]; omega, fun b hb ho => ⟨Below.heap_alloc w.drew ob b hb, by
   show (if b = w.heap.size then ow (k, none) else if own b = ow (k, none) then none else own b) = none
   rw [if_neg (by omega), ho]; rfl⟩, fun b ho => ⟨Below.heap_alloc w.drew ob b (h.rel.lt b ho), by
   show (if b = w.heap.size then ow (k, none) else if own b = ow (k, none) then none else own b) = ext
   have := h.rel.lt b ho
   rw [if_neg (by omega), ho]; rfl⟩, fun b ho => by
   have hb' : (if b = w.heap.size then ow (k, none) else if own b = ow (k, none) then none else own b) = ext := ho
   split at hb'
   ·cases hb'
   ·split at hb'
    ·cases hb'
    ·exact hb'⟩
  have keepOwn : ∀ b r, own b = ow r → r.1 ≠ k → own' b = own b := fun b r hb hr => by
   show (if b = w.heap.size then ow (k, none) else if own b = ow (k, none) then none else own b) = own b
   have := (h.rel.dom b r hb).1
   rw [if_neg (by omega), if_neg (fun e => by rw [hb] at e; cases e; exact hr rfl)]
  have hce : ∀ j, (w.drew.alloc ob).cell? ⟨w.heap.size, 0 + j, none⟩ = ((olds ++ news).toArray ++ Builtin.zeroCells z.cells (grownCap w (n + m) c e - (n + m)))[j]? := fun j => by
   rw [Nat.zero_add, ← hob]; exact World.cell?_alloc_new w.drew _ e j
  refine ⟨own', hd', _, _, hrun, ?_, .rf hge (fun _ => ⟨(w.heap.size, 0), by rw [hdk], hown, by rw [hdk]; simp, by simp⟩)⟩
  refine h.move k hklt fr (fun r b hp hb => ⟨if_neg (nkk r hp), ?_⟩) (fun k' s hk' => if_neg (fun e => hk' (congrArg Prod.fst e))) (fun b r hb hr => ⟨Below.heap_alloc w.drew ob b (h.rel.dom b r hb).1, keepOwn b r hb hr⟩) ?_ (fun b r hb => ?_) (fun b hb => ?_)
  ·rw [keepOwn b r hb (nk_ne hp)]; exact hb
  ·refine ⟨hlen', by rw [hll]; omega, by rw [hdk, hll]; exact hge, (fun e => by rw [hdk] at e; cases e), fun q hq => ?_, (fun q hq => by rw [hdk] at hq; cases hq; exact ⟨_, e, (Array.getElem?_push_size (xs := w.heap)).trans (congrArg some hob.symm), hτ.wid e he⟩), fun q hq => ?_, fun q i' el j t hq he' hj => ?_⟩
   ·rw [hdk] at hq; cases hq; exact hown
   ·rw [hdk] at hq ⊢; cases hq
    intro j hj
    rw [hce]
    have : j < ((olds ++ news).toArray ++ Builtin.zeroCells z.cells (grownCap w (n + m) c e - (n + m))).size := Nat.lt_of_lt_of_le hj hcl.size
    exact ⟨by simp only [Array.getElem?_eq_getElem this, Option.isSome_some], by rw [Nat.zero_add, ← hob]; exact World.frozen?_alloc_new w.drew _ e j⟩
   ·rw [hdk] at hq; cases hq
    obtain ⟨v', e1, e2⟩ := hcl.cell i' el j t he' hj
    exact ⟨v', by rw [hce]; exact e1, e2.keep fr.keep⟩
  ·rw [hsz]
   have hb' : (if b = w.heap.size then ow (k, none) else if own b = ow (k, none) then none else own b) = ow r := hb
   split at hb'
   ·rename_i e1; cases hb'; exact ⟨by omega, hklt⟩
   ·split at hb'
    ·cases hb'
    ·have := h.rel.dom b r hb'; exact ⟨by omega, this.2⟩
  ·rw [hsz]
   have hb' : (if b = w.heap.size then ow (k, none) else if own b = ow (k, none) then none else own b) = ext := hb
   split at hb'
   ·cases hb'
   ·split at hb'
    ·cases hb'
    ·have := h.rel.lt b hb'; omega


theorem Keep.drew (w : World) (own : Own) : Keep w own w.drew own := ⟨Nat.le_refl _, fun _ _ h => ⟨rfl, h⟩⟩
theorem SX.drew (h : SX C own hd σ a w) : SX C own hd σ a w.drew :=
 ⟨⟨fun k o hk => (h.rel.obj k o hk).same (w' := w.drew) (Keep.drew w own) (Stay.refl _ _) (fun _ => rfl) (fun _ _ _ => ⟨rfl, rfl⟩), h.rel.dom, h.rel.lt⟩,
  h.fr.trans (w2 := w.drew) ⟨rfl, rfl, rfl, Nat.le_refl _, fun _ _ h => ⟨rfl, h⟩, fun _ h => ⟨rfl, h⟩, fun _ h => h⟩, h.stay, h.gr, h.le, h.dfr, h.size, fun i hi => (h.slot i hi).same (Keep.drew w own) (Stay.refl _ _)⟩

theorem SX.append_nl (hτ : Tab P τ) (h : SX C own hd σ a w) {t tx ty e : TypeId} (ht : (τ t).k = .sl e) (he : (τ e).k ≠ .bad) (hz : (τ e).z.length = (τ e).n)
 {m : Nat} {ns : List (List T)} {ad : Option Addr}
 {v : Value} {news : List Value} (hs : From P w own (τ e).n tx v m ns news) (hb : m * (τ e).sz ≤ 140737488355328) (h63 : m ≤ maxLen) :
 ∃ own' hd' w' u, (Builtin.append_ #[t, tx] ty #[.slice ad 0 0, v]).run P w = .ok u w' ∧ SX C own' hd' (σ.new (.row (τ e).n ns)) a w' ∧
  VR w' own' hd' (.rf (σ.h.length, none) (τ e).n 0 m) u := by
 obtain ⟨_, d, _, _, hd', _, htk, _⟩ := hτ.get ht (by simp)
 obtain rfl := tk_sl htk
 obtain ⟨i, d2, z, hi, hd2, hz2, htk2, hin, hib, hzc⟩ := hτ.get (t := e) rfl he
 have hmx : maxLen ≤ 9223372036854775807 := by unfold maxLen; omega
 rcases Nat.eq_zero_or_pos m with hm | hm
 ·subst hm
  obtain rfl : ns = [] := List.eq_nil_of_length_eq_zero hs.len
  obtain rfl : news = [] := List.eq_nil_of_length_eq_zero (by simpa using hs.src.newsLen)
  have hlen := hs.src.len
  have hcells := hs.src.cells
  obtain ⟨own', hd2, h1, h2⟩ := h.new_nil (τ e).n ad
  refine ⟨own', hd2, w, .slice ad 0 0, ?_, h1, h2⟩
  rcases hs.src.kind with ⟨e', hk'⟩ | hk' <;> cases ad <;> simp [Builtin.append_, run_underlying hd', run_underlying hk', sizeOf, typeInfo, hi, hin, hlen, hcells, storeCells]
 ·have f2 : (Builtin.firstCells i.size 0 (.slice ad 0 0)).run P w.drew = .ok ([] : List Value).toArray w.drew := by
   cases ad with
   | none => exact run_firstCells_none _ _ _ _ _
   | some b => exact run_firstCells_some _ _ _ _ _ _ [] (by simp) (fun j v h => by simp at h)
  have hrun := run_append_grow_src (P := P) w t tx ty e i z hd' hi hz2 ad 0 0 [] f2 v m news (by rw [hin]; exact hs.src) (by omega) (by omega) (by rw [hib]; exact app_size (by omega) (by rw [Nat.zero_add]; exact hb))
  simp only [Nat.zero_add, List.nil_append] at hrun
  have hge := grownCap_ge w m 0 e
  have hzs : z.cells.size = (τ e).n := by rw [← hz, ← hzc]; simp
  have hcl : Cells w own (news.toArray ++ Builtin.zeroCells z.cells (grownCap w m 0 e - m)) (grownCap w m 0 e) (τ e).n ns :=
   hs.flat.cells _ (by rw [hs.len]; omega) (by rw [hs.len]; exact hge) (by rw [hs.flat.size, hs.len, size_zeroCells, hzs, ← Nat.add_mul]; exact Nat.mul_le_mul_right _ (by omega))
  have hdr := h.drew
  have hcl' : Cells w.drew own (news.toArray ++ Builtin.zeroCells z.cells (grownCap w m 0 e - m)) (grownCap w m 0 e) (τ e).n ns :=
   ⟨hcl.size, hcl.len, hcl.max, hcl.le, fun i el j t hi hj => by obtain ⟨v, e1, e2⟩ := hcl.cell i el j t hi hj; exact ⟨v, e1, e2.keep (Keep.drew w own)⟩⟩
  obtain ⟨own', hd2, h1, h2⟩ := hdr.new_row e (hτ.wid e he) hcl' m (by rw [hs.len]; exact Nat.le_refl _)
  exact ⟨own', hd2, _, _, hrun, h1, h2⟩

/-! ### Sources of an append -/
theorem From.sl (hτ : Tab P τ) {tx e' : TypeId} (ht : (τ tx).k = .sl e') {els : List (List T)} {v : Value} {s : Nat} (h : TV w own (.sl els) v) (hw : Wd s els) :
 ∃ news, From P w own s tx v els.length els news := by
 obtain ⟨_, d, _, _, hd', _, htk, _⟩ := hτ.get ht (by simp)
 obtain rfl := tk_sl htk
 cases h with
 | @nil ad cap =>
  refine ⟨[], ?_, rfl, ⟨by simp, by simp, by simp⟩⟩
  cases ad with
  | none => exact .ofNil (P := P) w hd' cap
  | some b => exact .ofSlice (P := P) w hd' b 0 cap [] (by simp) (fun j v h => by simp at h) (fun _ h => nomatch h)
 | @sl _ b o cap s' ho hbl hle hmx hlen hc hv hpl hth =>
  obtain ⟨vs, f1, f2⟩ := flat_of (w := w) (own := own) (b := b) (o := o) (s := s') hlen (fun i el j t hi hj => by
   obtain ⟨v, hv'⟩ := Option.isSome_iff_exists.1 (hc i el j t hi hj)
   exact ⟨v, hv', hv i el j t v hi hj hv'⟩)
  cases els with
  | nil =>
   refine ⟨[], ?_, rfl, ⟨by simp, by simp, by simp⟩⟩
   exact .ofSlice (P := P) w hd' _ 0 cap [] (by simp) (fun j v h => by simp at h) (fun _ h => nomatch h)
  | cons el r =>
   have hs : s' = s := (hlen 0 el rfl).symm.trans (hw el (List.mem_cons_self ..))
   subst hs
   exact ⟨vs, .ofSlice (P := P) w hd' _ _ cap vs f1.size (fun j v h => by rw [Addr.add_mid]; exact f2 j v h) f1.one, rfl, f1⟩

theorem From.nl (hτ : Tab P τ) {tx e' : TypeId} (ht : (τ tx).k = .sl e') {v : Value} {s : Nat} (h : VR w own hd .nl v) : From P w own s tx v 0 [] [] := by
 obtain ⟨_, d, _, _, hd', _, htk, _⟩ := hτ.get ht (by simp)
 obtain rfl := tk_sl htk
 cases h with
 | @nl ad =>
  refine ⟨?_, rfl, ⟨by simp, by simp, by simp⟩⟩
  cases ad with
  | none => exact .ofNil (P := P) w hd' 0
  | some b => exact .ofSlice (P := P) w hd' b 0 0 [] (by simp) (fun j v h => by simp at h) (fun _ h => nomatch h)

theorem From.rf (hτ : Tab P τ) (h : SX C own hd σ a w) {tx e' : TypeId} (ht : (τ tx).k = .sl e') {v : Value} {s k off n : Nat} {els : List (List T)}
 (hk : σ.h[k]? = some (.row s els)) (hr : VR w own hd (.rf (k, none) s off n) v) (hn : off + n ≤ els.length) :
 ∃ news, From P w own s tx v n ((els.drop off).take n) news := by
 obtain ⟨_, d, _, _, hd', _, htk, _⟩ := hτ.get ht (by simp)
 obtain rfl := tk_sl htk
 obtain ⟨r1, r0, r2, r3, r4, r9, r5, r6⟩ := h.rel.obj k _ hk
 have hl : ((els.drop off).take n).length = n := by rw [List.length_take, List.length_drop]; omega
 have get : ∀ (i : Nat) (el : List T), ((els.drop off).take n)[i]? = some el → els[off + i]? = some el := fun i el hi => by
  have := (take_get hi).2
  rwa [List.getElem?_drop] at this
 cases hr with
 | @rf _ _ _ _ c ad g1 g2 =>
 by_cases hc0 : c = 0
 ·subst hc0
  obtain rfl : n = 0 := by omega
  refine ⟨[], ?_, rfl, ⟨by simp, by simp, by simp⟩⟩
  cases ad with
  | none => exact .ofNil (P := P) w hd' 0
  | some b => exact .ofSlice (P := P) w hd' b 0 0 [] (by simp) (fun j v h => by simp at h) (fun _ h => nomatch h)
 ·obtain ⟨p, hp, ho, hcap, rfl⟩ := g2 hc0
  obtain ⟨vs, f1, f2⟩ := flat_of (w := w) (own := own) (b := p.1) (o := p.2 + off * s) (s := s) (els := (els.drop off).take n) (fun i el hi => r1 _ _ (get i el hi)) (fun i el j t hi hj => by
   obtain ⟨v, e1, e2⟩ := r6 p _ el j t hp (get i el hi) hj
   refine ⟨v, ?_, e2⟩
   rw [← e1]; congr 2
   rw [Nat.add_mul]; omega)
  refine ⟨vs, ?_, hl, f1⟩
  have hsz := f1.size
  rw [hl] at hsz
  exact .ofSlice (P := P) w hd' _ _ c vs hsz (fun j v h => by rw [Addr.add_mid]; exact f2 j v h) f1.one

def bytesT (s : ByteArray) : List (List T) := s.data.toList.map fun b => [T.v (.int .u8 b.toNat)]
theorem From.str (hτ : Tab P τ) {tx : TypeId} (ht : (τ tx).k = .str) (b : ByteArray) : From P w own 1 tx (.string b) b.size (bytesT b) (byteCells b) := by
 obtain ⟨_, d, _, _, hd', _, htk, _⟩ := hτ.get ht (by simp)
 obtain rfl := tk_str htk
 have hl : (bytesT b).length = b.size := by rw [bytesT, List.length_map]; exact Array.length_toList
 refine ⟨.ofString (P := P) w hd' b, hl, ⟨by rw [byteCells_length, hl, Nat.mul_one], fun i el hi => ?_, fun i el j t hi hj => ?_⟩⟩
 ·obtain ⟨x, _, rfl⟩ := getElem?_map_some hi; rfl
 ·obtain ⟨x, hx, rfl⟩ := getElem?_map_some hi
  cases j with
  | zero =>
   obtain rfl := Option.some.inj hj
   exact ⟨.int .u8 x.toNat, by rw [byteCells, Nat.mul_one, Nat.add_zero, List.getElem?_map, hx]; rfl, .v rfl⟩
  | succ j => simp at hj

end
end Go.V

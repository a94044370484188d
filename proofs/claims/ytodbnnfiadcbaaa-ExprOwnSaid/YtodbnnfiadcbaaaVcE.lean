import Derived.Test.YtodbnnfiadcbaaaVcDn
import Derived.IntWalk
import Derived.Room.Entries
/- The operations that make memory, or write to it: what is asked of each. -/
set_option linter.unusedVariables false
set_option linter.unusedSimpArgs false
set_option linter.unusedSectionVars false
namespace Go.V
open Go.RowKit
variable [Wid]

def vStore (τ : Tys) (σ : AS) (t : TypeId) (x y : AV) (K : AS → Prop) : Prop :=
 bif (τ t).k.ok? && leaves y.cells && Nat.beq y.cells.length (τ t).n then
  match x with
  | .pt k off => match σ.h[k]? with
   | some (.st cs) => bif Nat.ble (off + y.cells.length) cs.length then (σ.upd k (.st (setAt cs off y.cells))).frc K else False
   | _ => False
  | .pe (k, none) z i off => match σ.h[k]? with
   | some (.row s els) => bif Nat.beq s z then match toTs y.cells with
    | some ts => bif Nat.ble (off + ts.length) s then ∃ el, els[i]? = some el ∧ (σ.upd k (.row s (els.set i (setAt el off ts)))).frc K else False
    | none => False
    else False
   | some (.nest z' s els) => match y with
    | .rf (j, none) s' 0 n => match σ.h[j]? with
     | some (.row s'' els') => bif Nat.beq z' z && Nat.beq s' s && Nat.beq s'' s && Nat.beq (off + 1) z then ∃ pre inner, els[i]? = some (pre, inner) ∧ n = els'.length ∧ 0 < n ∧ (σ.lay k j (.nest z s (els.set i (pre, els')))).frc K else False
     | _ => False
    | _ => False
   | _ => False
  | .pe (k, some j) z i off => match σ.h[k]? with
   | some (.nest z' s els) => bif Nat.beq s z then match toTs y.cells with
    | some ts => bif Nat.ble (off + ts.length) s then ∃ pre inner el, els[j]? = some (pre, inner) ∧ inner[i]? = some el ∧ (σ.upd k (.nest z' s (els.set j (pre, inner.set i (setAt el off ts))))).frc K else False
    | none => False
    else False
   | _ => False
  | _ => False
 else False

def vFill (place : Nat → Option (Nat × Nat)) (cells : List AV) : List (Nat × AV) → Option (List AV)
 | [] => some cells
 | (i, x) :: r => match place i with
  | some (off, n) => bif leaves x.cells && Nat.beq x.cells.length n && Nat.ble (off + n) cells.length then vFill place (setAt cells off x.cells) r else none
  | none => none

def chunk (s : Nat) : Nat → List T → List (List T)
 | 0, _ => []
 | n + 1, l => l.take s :: chunk s n (l.drop s)

def vBuild (τ : Tys) (σ : AS) (t : TypeId) (parts : Array (Nat × Operand)) (K : AV → Prop) : Prop :=
 let ps := parts.toList.map fun p => (p.1, σ.ev p.2)
 let zs := (τ t).z.map cell0
 match (τ t).k with
 | .st fs => bif fs.all (fun f => (τ f.2).k.ok?) then match vFill (fun i => (fs[i]?).map fun f => (f.1, (τ f.2).n)) zs ps with
  | some cs => K (.agg cs)
  | none => False
  else False
 | .ar _ e => bif (τ e).k.ok? then match vFill (fun i => some (i * (τ e).n, (τ e).n)) zs ps with
  | some cs => K (.agg cs)
  | none => False
  else False
 | _ => False

def vLit (τ : Tys) (σ : AS) (t : TypeId) (len : Nat) (parts : Array (Nat × Operand)) (dst : Option Nat) (K : AS → Prop) : Prop :=
 match (τ t).k with
 | .sl e => bif (τ e).k.ok? && Nat.ble (len * (τ e).n) 16777216 && Nat.ble len 16777216 then
  match vFill (fun i => some (i * (τ e).n, (τ e).n)) (List.replicate (len * (τ e).n) .junk) (parts.toList.map fun p => (p.1, σ.ev p.2)) with
  | some cs => match toTs cs with
   | some ts => (σ.new (.row (τ e).n (chunk (τ e).n len ts))).frc fun σ' => σ'.set dst (.rf (σ.h.length, none) (τ e).n 0 len) K
   | none => False
  | none => False
  else False
 | _ => False

def vMake (τ : Tys) (σ : AS) (t : TypeId) (l c : AV) (dst : Option Nat) (K : AS → Prop) : Prop :=
 match (τ t).k with
 | .sl e => bif (τ e).k.ok? && Nat.beq (τ e).z.length (τ e).n && !(Nat.beq (τ e).n 0) then
  match toTs ((τ e).z.map cell0) with
  | some z => vInt l fun l => vInt c fun c => 0 ≤ l ∧ l ≤ c ∧ c * (τ e).sz ≤ 140737488355328 ∧ c ≤ 140737488355328 ∧ (σ.new (.row (τ e).n (List.replicate l.toNat z))).frc fun σ' => σ'.set dst (.rf (σ.h.length, none) (τ e).n 0 l.toNat) K
  | none => False
  else False
 | _ => False

def vSrc (τ : Tys) (σ : AS) (tx : TypeId) (z : Nat) (x : AV) (K : List (List T) → Nat → Prop) : Prop :=
 match (τ tx).k, x with
 | .sl _, .t (.sl els) => Wd z els ∧ K els els.length
 | .sl _, .nl => K [] 0
 | .sl _, .rf (k, none) z' off n => match σ.h[k]? with
  | some (.row s els) => bif Nat.beq s z && Nat.beq z' z then off + n ≤ els.length ∧ K ((els.drop off).take n) n else False
  | _ => False
 | .str, .t (.v (.string b)) => bif Nat.beq z 1 then K (bytesT b) b.size else False
 | _, _ => False

def vApp (τ : Tys) (σ : AS) (t tx : TypeId) (x y : AV) (dst : Option Nat) (K : AS → Prop) : Prop :=
 match (τ t).k with
 | .sl e => bif (τ e).k.ok? && Nat.beq (τ e).z.length (τ e).n && Nat.ble 1 (τ e).sz then
  vSrc τ σ tx (τ e).n y fun ns m => match x with
   | .nl => m * (τ e).sz ≤ 140737488355328 ∧ (σ.new (.row (τ e).n ns)).frc fun σ' => σ'.set dst (.rf (σ.h.length, none) (τ e).n 0 m) K
   | .rf (k, none) z off n => match σ.h[k]? with
    | some (.row s els) => bif Nat.beq s (τ e).n && Nat.beq z (τ e).n && Nat.beq off 0 then
     n ≤ els.length ∧ (n + m) * (τ e).sz ≤ 140737488355328 ∧ (σ.mv k (.row (τ e).n (els.take n ++ ns))).frc fun σ' => σ'.set dst (.rf (k, none) (τ e).n 0 (n + m)) K
     else False
    | _ => False
   | _ => False
  else False
 | _ => False

def vE (τ : Tys) (σ : AS) (o : Op) (dst : Option Nat) (K : AS → Prop) : Prop :=
 match o with
 | .alloc e => bif (τ e).k.ok? && leaves ((τ e).z.map cell0) then (σ.new (.st ((τ e).z.map cell0))).frc fun σ' => σ'.set dst (.pt σ.h.length 0) K else False
 | .box _ x => bif leaves (σ.ev x).cells then (σ.new (.st (σ.ev x).cells)).frc fun σ' => σ'.set dst (.pt σ.h.length 0) K else False
 | .store t x y => vStore τ σ t (σ.ev x) (σ.ev y) fun σ' => σ'.set dst .junk K
 | .build t parts => vBuild τ σ t parts fun x => σ.set dst x K
 | .buildSlice t len parts => vLit τ σ t len parts dst K
 | .makeSlice t l c => vMake τ σ t (σ.ev l) (σ.ev c) dst K
 | .call { callee := .builtin .append, args, argTypes } => match args.toList, argTypes.toList with
  | [x, y], [t, tx] => vApp τ σ t tx (σ.ev x) (σ.ev y) dst K
  | _, _ => False
 | _ => False

section
variable {P : Program} {τ : Tys} {C : Ctx} {w : World} {own : Own} {hd : Hd} {σ : AS} {a : Act}

def EOk (P : Program) (C : Ctx) (a : Act) (w : World) (o : Op) (ty : TypeId) (dst : Option Nat) (K : AS → Prop) : Prop :=
 ∃ n w' v σ' own' hd', (∀ pos after gd, (execOp a.eval ⟨dst, o, ty, pos, after, gd⟩).run P w = .ok n w') ∧ (n = .value v ∨ n = .skip ∧ v = undef) ∧
  SX C own' hd' σ' (a.put dst v) w' ∧ K σ'

theorem leaves_get : ∀ {cs : List AV}, leaves cs = true → ∀ (i : Nat) (x : AV), cs[i]? = some x → x.leaf = true
 | [], _, i, x, hx => by simp at hx
 | c :: r, hl, i, x, hx => by
  simp only [leaves, Bool.and_eq_true] at hl
  cases i with
  | zero => obtain rfl := Option.some.inj hx; exact hl.1
  | succ i => exact leaves_get hl.2 i x hx

theorem VR.cells {x : AV} {v : Value} (h : VR w own hd x v) (hl : leaves x.cells = true) :
 v.cells.size = x.cells.length ∧ ∀ (i : Nat) (y : AV) (u : Value), x.cells[i]? = some y → v.cells[i]? = some u → VR w own hd y u := by
 have gen : ∀ (x : AV) (v : Value), VR w own hd x v → x.leaf = true → v.cells.size = x.cells.length ∧ ∀ (i : Nat) (y : AV) (u : Value), x.cells[i]? = some y → v.cells[i]? = some u → VR w own hd y u := fun x v h hl => by
  have h1 := h.one hl
  have e1 : x.cells = [x] := by cases x <;> first | rfl | cases hl
  have e2 : v.cells = #[v] := by cases v <;> first | rfl | (simp [Value.oneCell'] at h1)
  rw [e1, e2]
  refine ⟨rfl, fun i y u hy hu => ?_⟩
  cases i with
  | zero =>
   obtain rfl := Option.some.inj hy
   obtain rfl : v = u := Option.some.inj hu
   exact h
  | succ i => simp at hy
 cases x with
 | agg cs => cases h with | agg h1 h2 => exact ⟨h1, h2⟩
 | junk => cases hl
 | tup => cases hl
 | _ => exact gen _ _ h rfl

def CellsR (w : World) (own : Own) (hd : Hd) (cs : List AV) (vs : Array Value) : Prop :=
 vs.size = cs.length ∧ ∀ (i : Nat) (x : AV) (v : Value), cs[i]? = some x → vs[i]? = some v → VR w own hd x v

theorem cells_set {l : List Value} : ∀ (vs : List Value) (k : Nat) (off : Nat) (cells : Array Value),
 ((vs.zipIdx k).foldl (fun (cs : Array Value) (p : Value × Nat) => cs.setIfInBounds (off + p.2) p.1) cells).toList = setAt cells.toList (off + k) vs
 | [], k, off, cells => rfl
 | v :: r, k, off, cells => by
  rw [List.zipIdx_cons, List.foldl_cons, cells_set (l := l) r (k + 1) off, setAt, Array.toList_setIfInBounds, Nat.add_assoc]

theorem CellsR.set {cs : List AV} {vs : Array Value} (h : CellsR w own hd cs vs) {x : AV} {v : Value} (hx : VR w own hd x v) (hl : leaves x.cells = true) {off : Nat} (hle : off + x.cells.length ≤ cs.length) :
 CellsR w own hd (setAt cs off x.cells) (v.cells.zipIdx.foldl (fun cs (p : Value × Nat) => cs.setIfInBounds (off + p.2) p.1) vs) := by
 obtain ⟨h1, h2⟩ := hx.cells hl
 have e : (v.cells.zipIdx.foldl (fun cs (p : Value × Nat) => cs.setIfInBounds (off + p.2) p.1) vs).toList = setAt vs.toList off v.cells.toList := by
  rw [← Array.foldl_toList, Array.toList_zipIdx]
  exact cells_set (l := []) v.cells.toList 0 off vs
 generalize v.cells.zipIdx.foldl (fun cs (p : Value × Nat) => cs.setIfInBounds (off + p.2) p.1) vs = us at e
 have hlv : v.cells.toList.length = x.cells.length := by simpa using h1
 have hlc : vs.toList.length = cs.length := by simpa using h.1
 refine ⟨by rw [← Array.length_toList, e, setAt_length, setAt_length]; exact hlc, fun i y u hy hu => ?_⟩
 rw [← Array.getElem?_toList, e, setAt_get _ _ _ _ (by rw [hlv, hlc]; exact hle)] at hu
 rw [setAt_get _ _ _ _ hle] at hy
 rw [hlv] at hu
 by_cases hi : off ≤ i ∧ i < off + x.cells.length
 ·rw [if_pos hi] at hy hu
  exact h2 _ _ _ hy (by rw [← Array.getElem?_toList]; exact hu)
 ·rw [if_neg hi] at hy hu
  exact h.2 _ _ _ hy (by rw [← Array.getElem?_toList]; exact hu)

theorem vFill_ok {place : Nat → Option (Nat × Nat)} : ∀ (ps : List (Nat × AV)) (qs : List (Nat × Value)) (cs cs' : List AV) (vs : Array Value), CellsR w own hd cs vs → ps.length = qs.length →
 (∀ (j : Nat) (p : Nat × AV) (q : Nat × Value), ps[j]? = some p → qs[j]? = some q → p.1 = q.1 ∧ VR w own hd p.2 q.2) → vFill place cs ps = some cs' →
 ∃ vs', Instr.fill place vs qs = some vs' ∧ CellsR w own hd cs' vs'
 | [], [], cs, cs', vs, h, _, _, e => by cases e; exact ⟨vs, rfl, h⟩
 | (i, x) :: ps, (i', v) :: qs, cs, cs', vs, h, hl, hp, e => by
  obtain ⟨rfl, hx⟩ := hp 0 _ _ rfl rfl
  simp only [vFill] at e
  simp only [Instr.fill]
  cases hpl : place i with
  | none => rw [hpl] at e; cases e
  | some on =>
   obtain ⟨off, n⟩ := on
   simp only [hpl] at e
   cases hc : (leaves x.cells && Nat.beq x.cells.length n && Nat.ble (off + n) cs.length) with
   | false => rw [hc] at e; cases e
   | true =>
    simp only [hc, cond_true] at e
    simp only [Bool.and_eq_true] at hc
    obtain ⟨⟨c1, c2⟩, c3⟩ := hc
    obtain rfl := Nat.eq_of_beq_eq_true c2
    have c3 := Nat.le_of_ble_eq_true c3
    have hsz := (hx.cells c1).1
    have h' := h.set hx c1 c3
    obtain ⟨vs', r1, r2⟩ := vFill_ok ps qs _ cs' _ h' (by simpa using hl) (fun j p q h1 h2 => hp (j + 1) p q h1 h2) e
    refine ⟨vs', ?_, r2⟩
    simp only
    rw [if_neg]
    ·exact r1
    ·simp only [hsz, ne_eq, not_true_eq_false, decide_false, Bool.false_or, decide_eq_true_eq]
     rw [h.1]; omega
 | [], _ :: _, _, _, _, _, hl, _, _ => by simp at hl
 | _ :: _, [], _, _, _, _, hl, _, _ => by simp at hl

theorem cells0_ok (z : Array Value) : CellsR w own hd (z.toList.map cell0) z :=
 ⟨by simp, fun i x v hx hv => by
  obtain ⟨y, hy, rfl⟩ := getElem?_map_some hx
  rw [Array.getElem?_toList, hv] at hy
  exact Option.some.inj hy ▸ cell0_ok v⟩

theorem EOk.mk {o : Op} {ty : TypeId} {dst : Option Nat} {K : AS → Prop} {w' : World} {v : Value} {σ' : AS} {own' : Own} {hd' : Hd} {x : AV}
 (hr : ∀ pos after gd, (execOp a.eval ⟨dst, o, ty, pos, after, gd⟩).run P w = .ok (.value v) w') (hs : SX C own' hd' σ' a w') (hx : VR w' own' hd' x v) (hK : σ'.set dst x K) :
 EOk P C a w o ty dst K := by
 obtain ⟨σ2, h1, h2⟩ := hs.set hx hK
 exact ⟨_, w', v, σ2, own', hd', hr, .inl rfl, h1, h2⟩

theorem toTs_get : ∀ {cs : List AV} {ts : List T}, toTs cs = some ts → ts.length = cs.length ∧ ∀ (j : Nat) (t : T), ts[j]? = some t → cs[j]? = some (.t t) ∨ (cs[j]? = some .nl ∧ t = .sl []) := by
 intro cs
 induction cs with
 | nil => intro ts h; simp [toTs] at h; subst h; simp
 | cons c r ih =>
  intro ts h
  cases c with
  | t x =>
   simp only [toTs, Option.map_eq_some_iff] at h
   obtain ⟨l, hl, rfl⟩ := h
   obtain ⟨i1, i2⟩ := ih hl
   refine ⟨by simp [i1], fun j t hj => ?_⟩
   cases j with
   | zero => obtain rfl := Option.some.inj hj; exact .inl rfl
   | succ j => exact i2 j t hj
  | nl =>
   simp only [toTs, Option.map_eq_some_iff] at h
   obtain ⟨l, hl, rfl⟩ := h
   obtain ⟨i1, i2⟩ := ih hl
   refine ⟨by simp [i1], fun j t hj => ?_⟩
   cases j with
   | zero => obtain rfl := Option.some.inj hj; exact .inr ⟨rfl, rfl⟩
   | succ j => exact i2 j t hj
  | _ => simp [toTs] at h

theorem vStore_ok (hτ : Tab P τ) (h : SX C own hd σ a w) {t : TypeId} {x y : AV} {p v : Value} (hx : VR w own hd x p) (hy : VR w own hd y v) {K : AS → Prop} (hK : vStore τ σ t x y K) :
 ∃ w' σ', (Instr.storeAt t p v).run P w = .ok () w' ∧ ∃ own' hd', SX C own' hd' σ' a w' ∧ K σ' := by
 unfold vStore at hK
 cases hc : ((τ t).k.ok? && leaves y.cells && Nat.beq y.cells.length (τ t).n) with
 | false => simp only [hc, cond_false] at hK
 | true =>
  simp only [hc, cond_true] at hK
  simp only [Bool.and_eq_true] at hc
  obtain ⟨⟨c1, c2⟩, c3⟩ := hc
  have c3 := Nat.eq_of_beq_eq_true c3
  have hb : (τ t).k ≠ .bad := fun e => by rw [e] at c1; cases c1
  obtain ⟨e1, e2⟩ := hy.cells c2
  obtain ⟨i, d, z, hi, hd', hz, htk, hn, _⟩ := hτ.get (t := t) rfl hb
  have hle := leaves_get c2
  have hv1 : ∀ u ∈ v.cells.toList, u.oneCell' = true := fun u hu => by
   obtain ⟨q, hq⟩ := List.getElem?_of_mem hu
   have hlt := (List.getElem?_eq_some_iff.1 hq).1
   have hlt' : q < y.cells.length := by rw [← e1]; simpa using hlt
   exact (e2 q _ u (List.getElem?_eq_getElem hlt') (by rw [← Array.getElem?_toList]; exact hq)).one (hle q _ (List.getElem?_eq_getElem hlt'))
  have run : ∀ b o, w.there b o y.cells.length → (Instr.storeAt t (.pointer (some ⟨b, o, none⟩)) v).run P w = .ok () (w.setCells b o v.cells.toList) := fun b o ht => by
   have := run_storeCells_cells (P := P) b o v.cells.toList 0 w (fun j hj => by simpa using (ht j (by rw [← e1]; simpa using hj)).1) (fun j hj => by simpa using (ht j (by rw [← e1]; simpa using hj)).2) hv1
   simp only [Nat.add_zero] at this
   simp [Instr.storeAt, Instr.sureAddr, storeVar, sizeOf, typeInfo, hi, hn, e1, c3, this]
  split at hK
  ·rename_i k off
   split at hK
   ·rename_i cs hk
    cases hf : Nat.ble (off + y.cells.length) cs.length with
    | false => simp only [hf, cond_false] at hK
    | true =>
     simp only [hf, cond_true] at hK
     have hf := Nat.le_of_ble_eq_true hf
     cases hx with
     | @pt _ _ q hp ho =>
      obtain ⟨q', g1, g2, g3, g4⟩ := h.rel.obj k _ hk
      obtain rfl : q = q' := Option.some.inj (hp.symm.trans g1)
      refine ⟨_, _, run q.1 (q.2 + off) (fun j hj => by have := g3 (off + j) (by omega); rwa [← Nat.add_assoc] at this), own, hd, h.store_st hk hp (ys := y.cells) (vs := v.cells.toList) (by simpa using e1) hle (fun i x u h1 h2 => e2 i x u h1 (by rw [← Array.getElem?_toList]; exact h2)) hf, AS.frc_iff.1 hK⟩
   ·exact hK.elim
  ·rename_i k z' i' off
   split at hK
   ·rename_i s els hk
    cases hs : Nat.beq s z' with
    | false => simp only [hs, cond_false] at hK
    | true =>
     simp only [hs, cond_true] at hK
     obtain rfl := Nat.eq_of_beq_eq_true hs
     split at hK
     ·rename_i ts hts
      cases hf : Nat.ble (off + ts.length) s with
      | false => simp only [hf, cond_false] at hK
      | true =>
       simp only [hf, cond_true] at hK
       have hf := Nat.le_of_ble_eq_true hf
       obtain ⟨el, hel, hK⟩ := hK
       obtain ⟨t1, t2⟩ := toTs_get hts
       cases hx with
       | @pe _ _ _ _ q hp ho =>
        obtain ⟨r1, r0, r2, r3, r4, r9, r5, r6⟩ := h.rel.obj k _ hk
        have hil := (List.getElem?_eq_some_iff.1 hel).1
        have hfit : (i' + 1) * s ≤ (hd (k, none)).2 * s := Nat.mul_le_mul_right _ (by omega)
        rw [Nat.add_mul, Nat.one_mul] at hfit
        refine ⟨_, _, run q.1 (q.2 + (i' * s + off)) (fun j hj => by have := r5 q hp (i' * s + off + j) (by omega); rwa [← Nat.add_assoc] at this), own, hd, h.store_row hk hp hel (ts := ts) (vs := v.cells.toList) (by rw [t1]; simpa using e1) (fun j t u h1 h2 => ?_) hf, AS.frc_iff.1 hK⟩
        rcases t2 j t h1 with h3 | ⟨h3, rfl⟩
        ·exact (e2 j _ u h3 (by rw [← Array.getElem?_toList]; exact h2)).t'
        ·have := e2 j _ u h3 (by rw [← Array.getElem?_toList]; exact h2)
         cases this with
         | nl => exact .nil
     ·exact hK.elim
   ·rename_i z1 s els hk
    split at hK
    ·rename_i j s1 n hdup
     split at hK
     ·rename_i s2 els' hj
      cases hs : (Nat.beq z1 z' && Nat.beq s1 s && Nat.beq s2 s && Nat.beq (off + 1) z') with
      | false => simp only [hs, cond_false] at hK
      | true =>
       simp only [hs, cond_true] at hK
       simp only [Bool.and_eq_true] at hs
       obtain ⟨⟨⟨q1, q2⟩, q3⟩, q4⟩ := hs
       obtain rfl := Nat.eq_of_beq_eq_true q1
       obtain rfl := Nat.eq_of_beq_eq_true q2
       obtain rfl := Nat.eq_of_beq_eq_true q3
       have q4 := Nat.eq_of_beq_eq_true q4
       obtain ⟨pre, inner, hel, rfl, hn0, hK⟩ := hK
       cases hx with
       | @pe _ _ _ _ q hp ho =>
        have hN := h.rel.obj k _ hk
        have hz := hN.len i' pre inner hel
        obtain rfl : off = pre.length := by omega
        have hil := (List.getElem?_eq_some_iff.1 hel).1
        have hfit : (i' + 1) * z1 ≤ (hd (k, none)).2 * z1 := Nat.mul_le_mul_right _ (by have := hN.le; omega)
        rw [Nat.add_mul, Nat.one_mul] at hfit
        have hvc : v.cells.toList = [v] := by
         have h1 : v.cells.size = 1 := e1
         cases hy with | rf => rfl
        obtain ⟨o', d', hS⟩ := h.lay hk hj hel hp hy hn0
        rw [← hvc] at hS
        refine ⟨_, _, run q.1 (q.2 + (i' * z1 + pre.length)) (fun j hj => by
         have hj : j < 1 := hj
         have := hN.there q hp (i' * z1 + pre.length + j) (by omega); rwa [← Nat.add_assoc] at this), o', d', hS, AS.frc_iff.1 hK⟩
     ·exact hK.elim
    ·exact hK.elim
   ·exact hK.elim
  ·rename_i k j z' i' off
   split at hK
   ·rename_i z1 s els hk
    cases hs : Nat.beq s z' with
    | false => simp only [hs, cond_false] at hK
    | true =>
     simp only [hs, cond_true] at hK
     obtain rfl := Nat.eq_of_beq_eq_true hs
     split at hK
     ·rename_i ts hts
      cases hf : Nat.ble (off + ts.length) s with
      | false => simp only [hf, cond_false] at hK
      | true =>
       simp only [hf, cond_true] at hK
       have hf := Nat.le_of_ble_eq_true hf
       obtain ⟨pre, inner, el, hpi, hel, hK⟩ := hK
       obtain ⟨t1, t2⟩ := toTs_get hts
       cases hx with
       | @pe _ _ _ _ q hp ho =>
        obtain ⟨r1, r0, r2, r3, r4, r9, r5, r6⟩ := (h.rel.obj k _ hk).sub j pre inner hpi
        have hil := (List.getElem?_eq_some_iff.1 hel).1
        have hfit : (i' + 1) * s ≤ (hd (k, some j)).2 * s := Nat.mul_le_mul_right _ (by omega)
        rw [Nat.add_mul, Nat.one_mul] at hfit
        refine ⟨_, _, run q.1 (q.2 + (i' * s + off)) (fun j hj => by have := r5 q hp (i' * s + off + j) (by omega); rwa [← Nat.add_assoc] at this), own, hd, h.store_sub hk hpi hp hel (ts := ts) (vs := v.cells.toList) (by rw [t1]; simpa using e1) (fun j t u h1 h2 => ?_) hf, AS.frc_iff.1 hK⟩
        rcases t2 j t h1 with h3 | ⟨h3, rfl⟩
        ·exact (e2 j _ u h3 (by rw [← Array.getElem?_toList]; exact h2)).t'
        ·have := e2 j _ u h3 (by rw [← Array.getElem?_toList]; exact h2)
         cases this with
         | nl => exact .nil
     ·exact hK.elim
   ·exact hK.elim
  ·exact hK.elim

theorem CellsR.ts {cs : List AV} {vs : Array Value} (h : CellsR w own hd cs vs) {ts : List T} (ht : toTs cs = some ts) : vs.size = ts.length ∧ ∀ (j : Nat) (t : T), ts[j]? = some t → ∃ v, vs[j]? = some v ∧ TV w own t v := by
 obtain ⟨t1, t2⟩ := toTs_get ht
 refine ⟨by rw [t1]; exact h.1, fun j t hj => ?_⟩
 have hlt : j < vs.size := by rw [h.1, ← t1]; exact (List.getElem?_eq_some_iff.1 hj).1
 refine ⟨vs[j], Array.getElem?_eq_getElem hlt, ?_⟩
 rcases t2 j t hj with h3 | ⟨h3, rfl⟩
 ·exact (h.2 j _ _ h3 (Array.getElem?_eq_getElem hlt)).t'
 ·have := h.2 j _ _ h3 (Array.getElem?_eq_getElem hlt)
  generalize vs[j] = q at this
  cases this with
  | nl => exact .nil

theorem chunk_get (s : Nat) : ∀ (n : Nat) (l : List T) (i : Nat) (el : List T), n * s ≤ l.length → (chunk s n l)[i]? = some el → i < n ∧ el = (l.drop (i * s)).take s
 | 0, _, i, el, _, h => by simp [chunk] at h
 | n + 1, l, 0, el, _, h => by simp [chunk] at h; exact ⟨by omega, by rw [Nat.zero_mul, List.drop_zero]; exact h.symm⟩
 | n + 1, l, i + 1, el, hl, h => by
  simp only [chunk, List.getElem?_cons_succ] at h
  rw [Nat.add_mul] at hl
  obtain ⟨h1, h2⟩ := chunk_get s n (l.drop s) i el (by rw [List.length_drop]; omega) h
  refine ⟨by omega, ?_⟩
  rw [h2, List.drop_drop, Nat.add_mul, Nat.one_mul, Nat.add_comm s]
theorem chunk_length (s : Nat) : ∀ (n : Nat) (l : List T), (chunk s n l).length = n
 | 0, _ => rfl
 | n + 1, l => by rw [chunk, List.length_cons, chunk_length s n]

theorem cells_chunk {vs : Array Value} {ts : List T} {s len : Nat} (hm : len ≤ 16777216) (hn : vs.size = len * s) (h : vs.size = ts.length) (hv : ∀ (j : Nat) (t : T), ts[j]? = some t → ∃ v, vs[j]? = some v ∧ TV w own t v) :
 Cells w own vs len s (chunk s len ts) := by
 have hts : len * s ≤ ts.length := by omega
 have key : ∀ (i : Nat) (el : List T), (chunk s len ts)[i]? = some el → el.length = s ∧ ∀ (j : Nat) (t : T), el[j]? = some t → ts[i * s + j]? = some t := fun i el hi => by
  obtain ⟨h1, rfl⟩ := chunk_get s len ts i el hts hi
  have : (i + 1) * s ≤ len * s := Nat.mul_le_mul_right _ h1
  rw [Nat.add_mul] at this
  refine ⟨by rw [List.length_take, List.length_drop]; omega, fun j t hj => ?_⟩
  rw [List.getElem?_take] at hj
  split at hj
  ·rwa [List.getElem?_drop] at hj
  ·cases hj
 exact ⟨by omega, fun i el hi => (key i el hi).1, by rw [chunk_length]; omega, by rw [chunk_length]; exact Nat.le_refl _, fun i el j t hi hj => hv _ _ ((key i el hi).2 j t hj)⟩

theorem parts_ok (h : SX C own hd σ a w) (parts : Array (Nat × Operand)) (j : Nat) (p : Nat × AV) (q : Nat × Value)
 (hp : (parts.toList.map fun p => (p.1, σ.ev p.2))[j]? = some p) (hq : ((parts.map fun (i, x) => (i, a.eval x)).toList)[j]? = some q) : p.1 = q.1 ∧ VR w own hd p.2 q.2 := by
 obtain ⟨x, hx, rfl⟩ := getElem?_map_some hp
 rw [Array.toList_map] at hq
 obtain ⟨y, hy, rfl⟩ := getElem?_map_some hq
 rw [hx] at hy
 obtain rfl := Option.some.inj hy
 exact ⟨rfl, h.ev x.2⟩


theorem zero_run {e : TypeId} {i : TypeInfo} {z : Value} (hi : P.info? e = some i) (hz : i.zero = some z) : (zeroValue e).run P w = .ok z w := by
 simp [zeroValue, typeInfo, hi, hz]

theorem vSrc_ok (hτ : Tab P τ) (h : SX C own hd σ a w) {tx : TypeId} {z : Nat} {x : AV} {v : Value} (hx : VR w own hd x v) {K : List (List T) → Nat → Prop} (hK : vSrc τ σ tx z x K) :
 ∃ ns m news, From P w own z tx v m ns news ∧ K ns m := by
 unfold vSrc at hK
 split at hK
 ·rename_i e els ht
  obtain ⟨news, hf⟩ := From.sl (P := P) hτ ht hx.t' hK.1
  exact ⟨_, _, news, hf, hK.2⟩
 ·rename_i e ht
  exact ⟨_, _, _, From.nl (P := P) hτ ht hx, hK⟩
 ·rename_i e k z' off n ht
  split at hK
  ·rename_i s els hk
   cases hc : (Nat.beq s z && Nat.beq z' z) with
   | false => simp only [hc, cond_false] at hK
   | true =>
    simp only [hc, cond_true] at hK
    simp only [Bool.and_eq_true] at hc
    obtain rfl := Nat.eq_of_beq_eq_true hc.1
    obtain rfl := Nat.eq_of_beq_eq_true hc.2
    obtain ⟨news, hf⟩ := From.rf (P := P) hτ h ht hk hx hK.1
    exact ⟨_, _, news, hf, hK.2⟩
  ·exact hK.elim
 ·rename_i b ht
  cases hc : Nat.beq z 1 with
  | false => simp only [hc, cond_false] at hK
  | true =>
   simp only [hc, cond_true] at hK
   obtain rfl := Nat.eq_of_beq_eq_true hc
   obtain ⟨rfl, _⟩ := hx.v'
   exact ⟨_, _, _, From.str (P := P) hτ ht b, hK⟩
 ·exact hK.elim

theorem run_places (hτ : Tab P τ) : ∀ (l : List Field), (∀ f ∈ l, (τ f.type).k ≠ .bad) → ∀ w : World,
 (l.mapM fun f => (do pure (f.offset, ← sizeOf f.type) : Sem (Nat × Nat))).run P w = .ok (l.map fun f => (f.offset, (τ f.type).n)) w
 | [], _, w => by simp
 | f :: r, hl, w => by
  simp only [List.mapM_cons, Sem.run_bind, tk_sizeOf hτ w (hl f (by simp)), Result.andThen_ok, Sem.run_pure, run_places hτ r (fun g hg => hl g (by simp [hg])) w, List.map_cons]

theorem vE_ok (hτ : Tab P τ) (h : SX C own hd σ a w) {o : Op} {ty : TypeId} {dst : Option Nat} {K : AS → Prop} (hK : vE τ σ o dst K) : EOk P C a w o ty dst K := by
 unfold vE at hK
 split at hK
 ·-- alloc
  rename_i e
  cases hc : ((τ e).k.ok? && leaves ((τ e).z.map cell0)) with
  | false => simp only [hc, cond_false] at hK
  | true =>
   simp only [hc, cond_true] at hK
   simp only [Bool.and_eq_true] at hc
   have hb : (τ e).k ≠ .bad := fun e' => by rw [e'] at hc; cases hc.1
   obtain ⟨i, d, z, hi, hd', hz, htk, hn, _, hzc⟩ := hτ.get (t := e) rfl hb
   rw [← hzc] at hc hK
   obtain ⟨c1, c2⟩ := cells0_ok (w := w) (own := own) (hd := hd) z.cells
   obtain ⟨own', hd2, g1, g2⟩ := h.new_st e c1 hc.2 c2
   exact .mk (fun _ _ _ => by simp [execOp, Instr.alloc, zero_run hi hz, newVar, newRow]) g1 g2 (AS.frc_iff.1 hK)
 ·-- box
  rename_i e x
  cases hc : leaves (σ.ev x).cells with
  | false => simp only [hc, cond_false] at hK
  | true =>
   simp only [hc, cond_true] at hK
   obtain ⟨c1, c2⟩ := (h.ev x).cells hc
   obtain ⟨own', hd2, g1, g2⟩ := h.new_st e c1 hc c2
   exact .mk (fun _ _ _ => by simp [execOp, Instr.box, newVar, newRow]) g1 g2 (AS.frc_iff.1 hK)
 ·-- store
  rename_i t x y
  obtain ⟨w', σ', r1, own2, hd2, r2, r3⟩ := vStore_ok (P := P) hτ h (h.ev x) (h.ev y) hK
  obtain ⟨σ2, g1, g2⟩ := r2.set (v := undef) .junk r3
  exact ⟨_, w', undef, σ2, own2, hd2, fun _ _ _ => by simp [execOp, r1], .inr ⟨rfl, rfl⟩, g1, g2⟩
 ·-- build
  rename_i t parts
  unfold vBuild at hK
  simp only at hK
  split at hK
  ·rename_i fs hk
   cases hc : fs.all (fun f => (τ f.2).k.ok?) with
   | false => simp only [hc, cond_false] at hK
   | true =>
    simp only [hc, cond_true] at hK
    split at hK
    ·rename_i cs hcs
     obtain ⟨i, d, z, hi, hd', hz, htk, hn, _, hzc⟩ := hτ.get hk (by simp)
     obtain ⟨fl, rfl, rfl⟩ := tk_st htk
     rw [← hzc] at hcs
     obtain ⟨vs, f1, f2⟩ := vFill_ok _ _ _ _ _ (cells0_ok (w := w) (own := own) (hd := hd) z.cells) (by simp) (parts_ok h parts) hcs
     have hok : ∀ f ∈ fl.toList, (τ f.type).k ≠ .bad := fun f hf e => by
      have := List.all_eq_true.1 hc (f.offset, f.type) (List.mem_map.2 ⟨f, hf, rfl⟩)
      simp only [e] at this
      cases this
     have hplA : (fl.mapM fun f => (do pure (f.offset, ← sizeOf f.type) : Sem (Nat × Nat))).run P w = .ok ((fl.toList.map fun f => (f.offset, (τ f.type).n)).toArray) w := by
      rw [← Array.toArray_toList (xs := fl), List.mapM_toArray, map_eq_pure_bind, Sem.run_bind, run_places hτ fl.toList hok w]
      rfl
     refine .mk (v := .agg vs) (fun _ _ _ => ?_) h (.agg f2.1 f2.2) hK
     have hfun : (fun (i : Nat) => ((fl.toList.map fun f => (f.offset, f.type))[i]?).map fun (f : Nat × TypeId) => (f.1, (τ f.2).n)) = fun (i : Nat) => ((fl.toList.map fun f => (f.offset, (τ f.type).n)).toArray)[i]? := by
      funext i
      simp [List.getElem?_map, Option.map_map, Function.comp_def]
     rw [hfun] at f1
     simp only [execOp, Instr.build, Sem.run_bind, zero_run hi hz, Result.andThen_ok, run_underlying hd', hplA]
     simp only [f1]
     rfl
    ·exact hK.elim
  ·rename_i len e hk
   cases hc : (τ e).k.ok? with
   | false => simp only [hc, cond_false] at hK
   | true =>
    simp only [hc, cond_true] at hK
    have hb : (τ e).k ≠ .bad := fun e' => by rw [e'] at hc; cases hc
    split at hK
    ·rename_i cs hcs
     obtain ⟨i, d, z, hi, hd', hz, htk, hn, _, hzc⟩ := hτ.get hk (by simp)
     obtain rfl := tk_ar htk
     rw [← hzc] at hcs
     obtain ⟨vs, f1, f2⟩ := vFill_ok _ _ _ _ _ (cells0_ok (w := w) (own := own) (hd := hd) z.cells) (by simp) (parts_ok h parts) hcs
     refine .mk (v := .agg vs) (fun _ _ _ => ?_) h (.agg f2.1 f2.2) hK
     simp only [execOp, Instr.build, Sem.run_bind, zero_run hi hz, Result.andThen_ok, run_underlying hd', tk_sizeOf hτ w hb]
     simp only [f1]
     rfl
    ·exact hK.elim
  ·exact hK.elim
 ·-- buildSlice
  rename_i t len parts
  unfold vLit at hK
  split at hK
  ·rename_i e hk
   cases hc : ((τ e).k.ok? && Nat.ble (len * (τ e).n) 16777216 && Nat.ble len 16777216) with
   | false => simp only [hc, cond_false] at hK
   | true =>
    simp only [hc, cond_true] at hK
    simp only [Bool.and_eq_true] at hc
    have hlm := Nat.le_of_ble_eq_true hc.2
    replace hc := hc.1
    have hb : (τ e).k ≠ .bad := fun e' => by rw [e'] at hc; cases hc.1
    have hle := Nat.le_of_ble_eq_true hc.2
    obtain ⟨_, d, _, _, hd', _, htk, _⟩ := hτ.get hk (by simp)
    obtain rfl := tk_sl htk
    obtain ⟨i, d2, z, hi, hd2, hz, _, hn, _, hzc⟩ := hτ.get (t := e) rfl hb
    split at hK
    ·rename_i cs hcs
     split at hK
     ·rename_i ts hts
      have hjunk : ∀ vs : Array Value, vs.size = len * (τ e).n → CellsR w own hd (List.replicate (len * (τ e).n) .junk) vs := fun vs hs => ⟨by simp [hs], fun i x v hx _ => by
       rw [List.getElem?_replicate] at hx
       split at hx
       ·obtain rfl := Option.some.inj hx; exact .junk
       ·cases hx⟩
      have hzr : (if len * (τ e).n = 0 then pure #[] else do pure (← zeroValue e).cells : Sem (Array Value)).run P w = .ok (if len * (τ e).n = 0 then #[] else z.cells) w := by
       split <;> simp [zero_run hi hz]
      generalize hzz : (if len * (τ e).n = 0 then #[] else z.cells) = zz at hzr
      obtain ⟨vs, f1, f2⟩ := vFill_ok _ _ _ _ _ (hjunk ((Array.range (len * (τ e).n)).map (zz[· % zz.size]!)) (by simp)) (by simp) (parts_ok h parts) hcs
      have hcl : vs.size = len * (τ e).n := by
       have : ∀ (ps : List (Nat × AV)) (cs cs' : List AV), vFill (fun i => some (i * (τ e).n, (τ e).n)) cs ps = some cs' → cs'.length = cs.length := by
        intro ps
        induction ps with
        | nil => intro cs cs' h; cases h; rfl
        | cons p r ih =>
         obtain ⟨j, x⟩ := p
         intro cs cs' h
         simp only [vFill] at h
         cases hq : (leaves x.cells && Nat.beq x.cells.length (τ e).n && Nat.ble (j * (τ e).n + (τ e).n) cs.length) with
         | false => rw [hq] at h; cases h
         | true => rw [hq, cond_true] at h; rw [ih _ _ h, setAt_length]
       rw [f2.1, this _ _ _ hcs]; simp
      obtain ⟨t1, t2⟩ := f2.ts hts
      obtain ⟨own', hd3, g1, g2⟩ := h.new_row e (hτ.wid e (by assumption)) (cells_chunk hlm hcl t1 t2) len (by rw [chunk_length]; exact Nat.le_refl _)
      refine .mk (fun _ _ _ => ?_) g1 g2 (AS.frc_iff.1 hK)
      simp only [execOp, Instr.buildSlice, Sem.run_bind, run_underlying hd', Result.andThen_ok, tk_sizeOf hτ w hb]
      rw [if_neg (by omega)]
      by_cases h0 : len * (τ e).n = 0
      ·rw [if_pos h0] at hzz ⊢
       subst hzz
       simp only [Sem.run_bind, Sem.run_pure, Result.andThen_ok]
       simp only [f1]
       simp [newRow]
      ·rw [if_neg h0] at hzz ⊢
       subst hzz
       simp only [Sem.run_bind, Sem.run_pure, Result.andThen_ok, zero_run hi hz]
       simp only [f1]
       simp [newRow]
     ·exact hK.elim
    ·exact hK.elim
  ·exact hK.elim
 ·-- makeSlice
  rename_i t l c
  unfold vMake at hK
  split at hK
  ·rename_i e hk
   cases hc : ((τ e).k.ok? && Nat.beq (τ e).z.length (τ e).n && !(Nat.beq (τ e).n 0)) with
   | false => simp only [hc, cond_false] at hK
   | true =>
    simp only [hc, cond_true] at hK
    simp only [Bool.and_eq_true, Bool.not_eq_true'] at hc
    obtain ⟨⟨c1, c2⟩, c3⟩ := hc
    have c2 := Nat.eq_of_beq_eq_true c2
    have hb : (τ e).k ≠ .bad := fun e' => by rw [e'] at c1; cases c1
    have hnz : (τ e).n ≠ 0 := fun e' => by rw [e'] at c3; cases c3
    obtain ⟨_, d, _, _, hd', _, htk, _⟩ := hτ.get hk (by simp)
    obtain rfl := tk_sl htk
    obtain ⟨i, d2, z, hi, hd2, hz, _, hn, hby, hzc⟩ := hτ.get (t := e) rfl hb
    split at hK
    ·rename_i zs hzs
     obtain ⟨k1, ln, hl, hK⟩ := vInt_ok (h.ev l) hK
     obtain ⟨k2, cn, hcv, q0, q1, q2, q3, hK⟩ := vInt_ok (h.ev c) hK
     rw [← hzc] at hzs c2
     obtain ⟨t1, t2⟩ := (cells0_ok (w := w) (own := own) (hd := hd) z.cells).ts hzs
     have hzsz : z.cells.size = (τ e).n := by simpa using c2
     have hcl : Cells w own ((Array.range (cn.toNat * (τ e).n)).map (z.cells[· % z.cells.size]!)) cn.toNat (τ e).n (List.replicate ln.toNat zs) := by
      refine ⟨by simp, fun i el hi => ?_, by simp; omega, by simp; omega, fun i el j t hi hj => ?_⟩
      ·rw [List.getElem?_replicate] at hi
       split at hi
       ·obtain rfl := Option.some.inj hi; omega
       ·cases hi
      ·rw [List.getElem?_replicate] at hi
       split at hi
       ·rename_i hil
        obtain rfl := Option.some.inj hi
        obtain ⟨v, hv, ht⟩ := t2 j t hj
        have hjs : j < (τ e).n := by have := (List.getElem?_eq_some_iff.1 hj).1; omega
        have : (i + 1) * (τ e).n ≤ cn.toNat * (τ e).n := Nat.mul_le_mul_right _ (by omega)
        rw [Nat.add_mul] at this
        refine ⟨v, ?_, ht⟩
        rw [Array.getElem?_map, Array.getElem?_range, if_pos (by omega)]
        simp only [Option.map_some, Option.some.injEq]
        rw [hzsz, show (i * (τ e).n + j) % (τ e).n = j by rw [Nat.mul_comm, Nat.mul_add_mod, Nat.mod_eq_of_lt hjs]]
        rw [getElem!_pos z.cells j (by omega)]
        rw [Array.getElem?_eq_getElem (by omega)] at hv
        exact Option.some.inj hv
       ·cases hi
     obtain ⟨own', hd3, g1, g2⟩ := h.new_row e (hτ.wid e (by assumption)) hcl ln.toNat (by simp)
     refine .mk (fun _ _ _ => ?_) g1 g2 (AS.frc_iff.1 hK)
     have hwl : IntKind.i64.wrap ln = ln := IntWalk.i64_in _ (by omega)
     have hwc : IntKind.i64.wrap cn = cn := IntWalk.i64_in _ (by omega)
     have hbig : ((i.bytes : Int) * cn ≤ 281474976710656) := by rw [hby, Int.mul_comm]; omega
     have e1 : ¬ cn < 0 := by omega
     have e2 : ¬ ((i.bytes : Int) * cn > 2 ^ 48) := by omega
     have e3 : ¬ ln < 0 := by omega
     have e4 : ¬ ln > cn := by omega
     have hsize := fun w' : World => tk_sizeOf (P := P) hτ w' hb
     simp only [execOp, Instr.makeSlice, Sem.run_bind, run_underlying hd', Result.andThen_ok, hl, hcv, Go.asInt, Go.asIntOf, Sem.run_pure, typeInfo, run_program, hi, hwl, hwc]
     simp only [e1, e2, e3, e4, decide_false, Bool.or_self, Bool.false_eq_true, if_false]
     simp only [Sem.run_bind, run_askRoom, Result.andThen_ok, hsize]
     by_cases h0 : cn.toNat * (τ e).n = 0
     ·rw [if_pos h0, h0]; simp [newRow, show Array.range 0 = #[] from rfl]
     ·rw [if_neg h0]; simp [newRow, zero_run hi hz]
    ·exact hK.elim
  ·exact hK.elim
 ·-- append
  rename_i args ats
  split at hK
  ·rename_i x y t tx ha hat
   unfold vApp at hK
   split at hK
   ·rename_i e hk
    cases hc : ((τ e).k.ok? && Nat.beq (τ e).z.length (τ e).n && Nat.ble 1 (τ e).sz) with
    | false => simp only [hc, cond_false] at hK
    | true =>
     simp only [hc, cond_true] at hK
     simp only [Bool.and_eq_true] at hc
     obtain ⟨⟨c1, c2⟩, c3⟩ := hc
     have c2 := Nat.eq_of_beq_eq_true c2
     have c3 := Nat.le_of_ble_eq_true c3
     have hb : (τ e).k ≠ .bad := fun e' => by rw [e'] at c1; cases c1
     obtain ⟨ns, m, news, hf, hK⟩ := vSrc_ok (P := P) hτ h (h.ev y) hK
     have hat' : ats = #[t, tx] := by rw [← Array.toArray_toList (xs := ats), hat]
     have ha' : args.map a.eval = #[a.eval x, a.eval y] := by rw [← Array.toArray_toList (xs := args), ha]; simp
     have run : ∀ {u : Value} {w' : World}, (Builtin.append_ #[t, tx] ty #[a.eval x, a.eval y]).run P w = .ok u w' → ∀ pos after gd,
      (execOp a.eval ⟨dst, .call { callee := .builtin .append, args, argTypes := ats }, ty, pos, after, gd⟩).run P w = .ok (.value u) w' := fun hr pos after gd => by
      simp only [execOp, resolve, Sem.run_bind, Sem.run_pure, Result.andThen_ok, invoke, builtin, hat', ha', hr]
     have hx := h.ev x
     split at hK
     ·rename_i e2
      rw [e2] at hx
      generalize hq : a.eval x = q at hx
      cases hx with
      | @nl ad =>
       obtain ⟨own', hd', w', u, r1, r2, r3⟩ := h.append_nl (P := P) (ty := ty) (ad := ad) hτ hk hb c2 hf hK.1 (by
        have : m * 1 ≤ m * (τ e).sz := Nat.mul_le_mul_left _ c3
        unfold maxLen; omega)
       exact .mk (run (by rw [hq]; exact r1)) r2 r3 (AS.frc_iff.1 hK.2)
     ·rename_i k z' off n e2
      rw [e2] at hx
      split at hK
      ·rename_i s els hke
       cases hc : (Nat.beq s (τ e).n && Nat.beq z' (τ e).n && Nat.beq off 0) with
       | false => simp only [hc, cond_false] at hK
       | true =>
        simp only [hc, cond_true] at hK
        simp only [Bool.and_eq_true] at hc
        obtain rfl := Nat.eq_of_beq_eq_true hc.1.1
        obtain rfl := Nat.eq_of_beq_eq_true hc.1.2
        obtain rfl := Nat.eq_of_beq_eq_true hc.2
        generalize hq : a.eval x = q at hx
        cases hx with
        | @rf _ _ _ _ c ad g1 g2 =>
         obtain ⟨own', hd', w', u, r1, r2, r3⟩ := h.append (P := P) (ty := ty) hτ hk hb c2 hke (.rf g1 g2) hK.1 hf hK.2.1 (by
          have : (n + m) * 1 ≤ (n + m) * (τ e).sz := Nat.mul_le_mul_left _ c3
          unfold maxLen; omega)
         exact .mk (run (by rw [hq]; exact r1)) r2 r3 (AS.frc_iff.1 hK.2.2)
      ·exact hK.elim
     ·exact hK.elim
   ·exact hK.elim
  ·exact hK.elim
 ·exact hK.elim

end
end Go.V

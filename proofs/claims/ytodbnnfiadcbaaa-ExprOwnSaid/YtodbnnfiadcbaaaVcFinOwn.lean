/- ExprOwn holds; no condition beside the row's own. -/
import Derived.Test.YtodbnnfiadcbaaaRows
import Derived.Test.YtodbnnfiadcbaaaVcP5
import Derived.Test.YtodbnnfiadcbaaaVcXf
import Derived.Test.YtodbnnfiadcbaaaVcP5
import Derived.WalkKit
import Derived.ProofKit
import Derived.OpenShut
import Derived.ShutString
import Derived.ChangeOld
import Derived.Below
import Derived.SizedLaws
set_option linter.unusedVariables false
set_option linter.unusedSimpArgs false
set_option linter.unusedSectionVars false
namespace Go.V.S
open Go.Proofs Go.RowKit Go.Proofs.Ytodbnnfiadcbaaa.P Go.Proofs.YtodbnnfiadcbaaaW.PrintWords
theorem rowC_cap {w : World} {a : Option Addr} {len cap : Nat} {z : List Int} (h : (a = none ∧ len = 0 ∧ cap = 0 ∧ z = []) ∨ ∃ x, a = some x ∧ len ≤ cap ∧ cap ≤ maxLen ∧ z.length = cap ∧ (∀ i, i < z.length → w.cell? (x.add i) = some (.int .i64 (z.getD i 0))) ∧ ∀ n ∈ z, (Lit.int .i64 n).wf = true) :
 ∀ x, a = some x → ∀ j, j < cap → (w.cell? (x.add j)).isSome = true := fun x hx j hj => by
 rcases h with ⟨h, _⟩ | ⟨y, h1, _, _, h2, h3, _⟩
 ·rw [h] at hx; cases hx
 ·rw [h1] at hx; cases hx
  rw [h3 j (by omega)]; rfl
theorem ints_TV {w : World} {A : Option Addr} {l : List Int} {c : Nat} (h : ReadsInt w .i64 A l.length l) (hc : l.length ≤ c) (hk : ∀ x, A = some x → ∀ j, j < c → (w.cell? (x.add j)).isSome = true) : TV w (fun _ => none) (intsE l) (.slice A l.length c) := by
 rcases Nat.eq_zero_or_pos l.length with hn | hn
 ·obtain rfl := List.eq_nil_of_length_eq_zero hn
  exact .nil
 ·obtain ⟨⟨b, o, sp⟩, rfl, hcell⟩ := h.2.2 hn
  have h0 := hcell 0 hn
  have hb := World.block_lt_of_cell? w _ h0
  obtain rfl : sp = none := by
   cases sp with
   | none => rfl
   | some x =>
    simp only [Addr.add, World.cell?] at h0
    split at h0 <;> simp at h0
  have key := TV.sl (w := w) (own := fun _ => none) (els := l.map fun n => [T.v (.int .i64 n)]) (b := b) (o := o) (cap := c) (s := 1) rfl hb (by rw [List.length_map]; exact hc) (by rw [List.length_map]; exact h.2.1)
   (fun i el hi => by obtain ⟨x, _, rfl⟩ := getElem?_map_some hi; rfl)
   (fun i el j t hi hj => by
    obtain ⟨x, hx, rfl⟩ := getElem?_map_some hi
    have hl := (List.getElem?_eq_some_iff.1 hx).1
    cases j with
    | zero => have := hcell i hl; rw [Addr.add_mid] at this; rw [Nat.mul_one, Nat.add_zero, this]; rfl
    | succ j => cases hj)
   (fun i el j t v hi hj hv => by
    obtain ⟨x, hx, rfl⟩ := getElem?_map_some hi
    have hl := (List.getElem?_eq_some_iff.1 hx).1
    cases j with
    | zero =>
     have := hcell i hl
     rw [Addr.add_mid] at this
     rw [Nat.mul_one, Nat.add_zero, this] at hv
     obtain rfl := Option.some.inj hv
     obtain rfl := Option.some.inj hj
     rw [List.getD_eq_getElem?_getD, hx]
     exact .v rfl
    | succ j => cases hj)
   (.inr ⟨rfl, fun i el j t hi hj => by
    obtain ⟨x, hx, rfl⟩ := getElem?_map_some hi
    cases j with
    | zero => exact ⟨_, (Option.some.inj hj).symm⟩
    | succ j => cases hj⟩) (fun j hj => by
    have := hk _ rfl j (by omega)
    rwa [Addr.add_mid] at this)
  rwa [List.length_map] at key
theorem Own_walk (a0 : Int) (a1 : Option Addr) (len1 cap1 : Nat) (z1 : List Int) (a2 : Option Addr) (len2 cap2 : Nat) (z2 : List Int) (w : World) (w0 : (Lit.int .i64 a0).wf = true) (w1 : (a1 = none ∧ len1 = 0 ∧ cap1 = 0 ∧ z1 = []) ∨ ∃ x, a1 = some x ∧ len1 ≤ cap1 ∧ cap1 ≤ maxLen ∧ z1.length = cap1 ∧ (∀ i, i < z1.length → w.cell? (x.add i) = some (.int .i64 (z1.getD i 0))) ∧ ∀ n ∈ z1, (Lit.int .i64 n).wf = true)
 (y1 : len1 * 8 ≤ 140737488351232) (w2 : (a2 = none ∧ len2 = 0 ∧ cap2 = 0 ∧ z2 = []) ∨ ∃ x, a2 = some x ∧ len2 ≤ cap2 ∧ cap2 ≤ maxLen ∧ z2.length = cap2 ∧ (∀ i, i < z2.length → w.cell? (x.add i) = some (.int .i64 (z2.getD i 0))) ∧ ∀ n ∈ z2, (Lit.int .i64 n).wf = true)
 (y2 : len2 * 8 ≤ 140737488351232) :
 Calls Try.prog 12 #[.int .i64 a0, .slice a1 len1 cap1, .slice a2 len2 cap2] w fun e w' => e = .returned (.bool true) ∧ Below w.heap.size w w' := by
 have hk1 := rowC_cap w1
 obtain ⟨l1, rfl, hr1, hm1, hw1, hc1⟩ := ReadsInt.ofRowC w1
 have hk2 := rowC_cap w2
 obtain ⟨l2, rfl, hr2, hm2, hw2, hc2⟩ := ReadsInt.ofRowC w2
 refine MV.calls (Own12 a0 l1 l2 y1 y2) ⟨rfl, fun i x v hx hv => ?_⟩
 match i, hx, hv with
 | 0, rfl, rfl => exact .t (.v rfl)
 | 1, rfl, rfl => exact .t (ints_TV hr1 hc1 hk1)
 | 2, rfl, rfl => exact .t (ints_TV hr2 hc2 hk2)
end Go.V.S
namespace Go.Proofs.Ytodbnnfiadcbaaa.exprOwn
open Go.ChangeShapes Go.WideShapes Go.ChangeAt Go.RowKit
open Go.ChangeMaps (open_string shut_string)
set_option linter.unusedVariables false
theorem own : ownKnob Try.prog.godebug = none := by kernel_rfl
theorem laidOut : laidOutB Try.prog = true := by kernel_rfl
def IsRow (k : IntKind) (w : World) (a : Option Addr) (len cap : Nat) (zs : List Int) : Prop :=
 (a = none ∧ len = 0 ∧ cap = 0 ∧ zs = []) ∨
 ∃ x, a = some x ∧ len ≤ cap ∧ cap ≤ maxLen ∧ zs.length = cap ∧ (∀ i, i < zs.length → w.cell? (x.add i) = some (.int k (zs.getD i 0))) ∧ ∀ n ∈ zs, (Lit.int k n).wf = true
set_option maxRecDepth 100000 in
theorem lifted (os : Os) (started : os.Started) (H : Type) (enc : TypeId × Value → H) :
 ReturnsInHanded {} Try.checked os 12 .any (Rows.exprOwnSpec.pre6 enc Try.prog Try.f12 Rows.exprOwnRow.domain false) (Rows.exprOwnSpec.post enc Try.prog Try.f12 false true false false) := by
 refine returnsInHanded_of_change_sized (C := Try.checked) own started (by kernel_rfl) Try.func12
  (ChangeSpec.witness6 (enc := enc) (C := Try.checked) false ⟨#[], #[.int .i64 0, .slice none 0 0, .slice none 0 0], []⟩ 8 (by kernel_rfl) (by kernel_rfl) (by kernel_rfl) (by kernel_rfl)) ?_
 intro W base args ds gs before hval0 hW hcnd hsz0 _
 have hsz : (DataW.weightsEach Try.prog (Try.f12.params.toList ++ Rows.exprOwnSpec.plain.varTypes Try.prog) (ds ++ gs)).all (· ≤ reachBytes) = true := hsz0
 have hval : ∀ (j : Nat) t v, Try.f12.params[j]? = some t → args[j]? = some v → Value.okWide Try.prog W .any base t v := hval0
 have hW' := hW
 obtain ⟨p, q, hA0, hV, rfl, hfz, hnd⟩ := hW
 have hA : DataW.TrodAll enc Try.prog W 0 (fun _ => true) true Try.f12.params.toList args.toList ds p := hA0
 rw [Try.params12] at hA hval hsz
 obtain ⟨v0, vs0, d0, ds0, p0, q0, hargs, rfl, rfl, h0, r0⟩ := trodAll_cons hA
 obtain ⟨v1, vs1, d1, ds1, p1, q1, rfl, rfl, rfl, h1, r1⟩ := trodAll_cons r0
 obtain ⟨v2, vs2, d2, ds2, p2, q2, rfl, rfl, rfl, h2, r2⟩ := trodAll_cons r1
 obtain ⟨rfl, rfl, rfl⟩ := trodAll_nil r2
 obtain rfl : args = #[v0, v1, v2] := by cases args; simp_all
 obtain ⟨rfl, rfl⟩ := trodVars_none hV
 obtain ⟨a0, rfl, rfl, rfl, w0⟩ := open_int Try.underlying3 (hval 0 3 v0 rfl rfl) h0
 obtain ⟨a1, len1, cap1, rfl⟩ := okWide_slice Try.underlying22 (hval 1 22 v1 rfl rfl)
 have k1 := h1
 have lt1 : ∀ x ∈ p1, x.block < W.heap.size := by obtain ⟨m, hm⟩ := k1; exact DataW.trod_lt m _ _ _ hm
 obtain ⟨z1, w1⟩ : ∃ zs, IsRow .i64 W a1 len1 cap1 zs := by
  obtain ⟨fuel, hf⟩ := h1
  rcases open_ints Try.underlying22 Try.underlying3 (by kernel_rfl) hf with ⟨hcs, _⟩ | ⟨x, l, c, zs, hcs, _, hl, hm, hz, _, hcell, hwz⟩
  ·simp [Value.cells] at hcs
   obtain ⟨rfl, rfl, rfl⟩ := hcs
   exact ⟨[], .inl ⟨rfl, rfl, rfl, rfl⟩⟩
  ·simp [Value.cells] at hcs
   obtain ⟨rfl, rfl, rfl⟩ := hcs
   exact ⟨zs, .inr ⟨_, rfl, hl, hm, by simpa using hz, hcell, hwz⟩⟩
 have y1 : len1 * 8 ≤ 140737488351232 := Go.Proofs.YtodbnnfiadcbaaaW.PrintWords.sized_ints hsz (j := 1) (t := 22) rfl rfl Try.underlying22 Try.underlying3 (by kernel_rfl) (by kernel_rfl) h1
 obtain ⟨a2, len2, cap2, rfl⟩ := okWide_slice Try.underlying22 (hval 2 22 v2 rfl rfl)
 have k2 := h2
 have lt2 : ∀ x ∈ p2, x.block < W.heap.size := by obtain ⟨m, hm⟩ := k2; exact DataW.trod_lt m _ _ _ hm
 obtain ⟨z2, w2⟩ : ∃ zs, IsRow .i64 W a2 len2 cap2 zs := by
  obtain ⟨fuel, hf⟩ := h2
  rcases open_ints Try.underlying22 Try.underlying3 (by kernel_rfl) hf with ⟨hcs, _⟩ | ⟨x, l, c, zs, hcs, _, hl, hm, hz, _, hcell, hwz⟩
  ·simp [Value.cells] at hcs
   obtain ⟨rfl, rfl, rfl⟩ := hcs
   exact ⟨[], .inl ⟨rfl, rfl, rfl, rfl⟩⟩
  ·simp [Value.cells] at hcs
   obtain ⟨rfl, rfl, rfl⟩ := hcs
   exact ⟨zs, .inr ⟨_, rfl, hl, hm, by simpa using hz, hcell, hwz⟩⟩
 have y2 : len2 * 8 ≤ 140737488351232 := Go.Proofs.YtodbnnfiadcbaaaW.PrintWords.sized_ints hsz (j := 2) (t := 22) rfl rfl Try.underlying22 Try.underlying3 (by kernel_rfl) (by kernel_rfl) h2
 clear hA0 hval0 hsz0 hsz
 refine (Go.V.S.Own_walk a0 a1 len1 cap1 z1 a2 len2 cap2 z2 W w0 w1 y1 w2 y2).mono fun e W' ⟨he, bel⟩ => ?_
 subst he
 exact ⟨_, rfl, _, _, _, [], _, [], hW', trodAll_mk1 (shut_bool Try.underlying4 _), (trodAll_cons_mk (shut_int Try.underlying3 w0) (trodAll_cons_mk (Below.trod laidOut (by kernel_rfl) (of_decide_eq_true (by kernel_rfl)) k1 bel lt1) (trodAll_cons_mk (Below.trod laidOut (by kernel_rfl) (of_decide_eq_true (by kernel_rfl)) k2 bel lt2) trodAll_mk0))), rfl, bel.frame _, fun h => by cases h⟩
theorem over : Rows.exprOwnRow.holds Try.pinned (OpenSpec.ofChange Rows.exprOwnSpec) :=
 OpenClaim.holds_of_wide 12 Try.f12 rfl rfl rfl rfl rfl rfl rfl ⟨rfl, rfl, rfl, rfl, rfl⟩ rfl rfl rfl rfl rfl (by kernel_rfl) Try.func12 (by kernel_rfl)
  (of_decide_eq_true (by kernel_rfl)) (by unfold Func.isWrapper; first | (rw [if_pos (by decide +kernel)]; kernel_rfl) | (rw [if_neg (by decide +kernel)]; exact ⟨rfl, rfl⟩))
  (fun os started H enc _ => lifted os started H enc)
theorem proved : Rows.ExprOwnSaid := over
#print axioms proved
end Go.Proofs.Ytodbnnfiadcbaaa.exprOwn
namespace Go.Proofs.Ytodbnnfiadcbaaa
theorem exprOwn_holds : Rows.ExprOwnSaid := exprOwn.proved
end Go.Proofs.Ytodbnnfiadcbaaa

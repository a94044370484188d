-- written by pp.py (wip/tools of this session's repo) out of the seat's translation
import Derived.Test.YtiibfkjfanglbaaPx0
import Derived.Test.YtiibfkjfanglbaaPx2
import Derived.Test.YtiibfkjfanglbaaPx3
import Derived.Test.YtiibfkjfanglbaaPx5
import Derived.Test.YtiibfkjfanglbaaPx14
import Derived.Test.YtiibfkjfanglbaaPx16
import Derived.Test.YtiibfkjfanglbaaPx17
import Derived.Test.YtiibfkjfanglbaaPx18
namespace Go.Proofs.Ytiibfkjfanglbaa.P
open Go.RowKit Go.Proofs.YtiibfkjfanglbaaW.PrintWords Go.Proofs.YtiibfkjfanglbaaW.PrintLast Go.Proofs.YtiibfkjfanglbaaW.PrintMore
attribute [local go_sem] max2_int min2_int max_two min_two max_three min_three max_four min_four   -- for this text's walks alone
set_option linter.unusedVariables false
set_option linter.unusedSimpArgs false

theorem R_lit_g {α : Type} {P : Program} {ops : Array Oper} {rest : List Oper} {o : Oper} {a : Act} {Q : Exit → Act → World → Prop} (d : Kd α) {w0 W : World} (base e : Nat) (hgd : Region.wanted o (yielded ops a.tmps) = true) {N : Tmp} (hd : o.dst = some N) {xs : List α} {inner : List Value} {ok okp : Nat → Prop}
    (hrun : (execOp a.eval o).run P W = .ok (.value (.slice (some ⟨W.heap.size, 0, none⟩) xs.length xs.length)) (W.alloc (.cells inner.toArray e)))
    (hrep : Reps (d.M W base okp) d.sz xs inner) (hok : ∀ k, okp k → ok k) (hfresh : ok W.heap.size) (HB : Below base w0 W) (hbase : base ≤ W.heap.size) (hm : xs.length ≤ 9223372036854775807)
    (h : ∀ v1 w1, d.R e w1 base ok v1 xs → Below base w0 w1 → W.grownBy w1 none → (∃ b, v1.ownBlock = some b ∧ W.heap.size ≤ b) → wpList P ops Q rest (a.put o.dst v1) w1) : wpList P ops Q (o :: rest) a W :=
  wpList_step fun _ hK => Kd.R_lit_step d base e hgd hd hrun hrep hok hfresh HB hbase hm fun v1 w1 h1 h2 h3 h4 => hK _ _ (h v1 w1 h1 h2 h3 h4)
theorem R_append_rows_g {α : Type} {P : Program} {ops : Array Oper} {rest : List Oper} {o : Oper} {a : Act} {Q : Exit → Act → World → Prop} (d : Kd α) {Rr : α → List Value → Prop} {w0 W : World} (base : Nat) (hgd : Region.wanted o (yielded ops a.tmps) = true) (s x : Operand) (t e : TypeId) (z : Value) (bytes : Nat)
    (ho : o.op = .call { callee := .builtin .append, args := #[s, x], argTypes := #[t, t] })
    (ht : P.underlying t = some (.slice e)) (hinfo : (P.info? e).map (fun i => (i.zero, i.size, i.bytes)) = some (some z, d.sz, bytes)) (hz : z.cells.size = d.sz) (hs0 : 0 < d.sz) (hb0 : 0 < bytes)
    (v : Value) (xs ys : List α) (A : Option Addr) (m c : Nat) (ok okp : Nat → Prop) (hs : a.eval s = v) (hx : a.eval x = .slice A m c)
    (HO : d.R e W base ok v xs) (HR : ReadsRow Rr d.sz W A m ys) (hKM : ∀ x cs, Rr x cs → d.M W base okp x cs) (hokp : ∀ k, okp k → ok k ∧ some k ≠ v.ownBlock) (hfresh : ∀ k, W.heap.size ≤ k → ok k)
    (HB : Below base w0 W) (hbase : base ≤ W.heap.size) (hl : (xs.length + m) * bytes ≤ 140737488355328)
    (h : ∀ v1 w1, d.R e w1 base ok v1 (xs ++ ys) → Below base w0 w1 → W.grownBy w1 v.ownBlock → (v1.ownBlock = v.ownBlock ∨ ∃ b, v1.ownBlock = some b ∧ W.heap.size ≤ b) → wpList P ops Q rest (a.put o.dst v1) w1) :
    wpList P ops Q (o :: rest) a W :=
  wpList_step fun _ hK => Kd.R_append_rows_step d base hgd s x t e z bytes ho ht hinfo hz hs0 hb0 v xs ys A m c ok okp hs hx HO HR hKM hokp hfresh HB hbase hl fun v1 w1 h1 h2 h3 h4 => hK _ _ (h v1 w1 h1 h2 h3 h4)
/-! ### canopylaw1_WordParts: function 10 -/
mutual
def canopylaw1_WordParts.j0 : Nat → List (S40) → List Int → List Int → Int → Bool → Option (Bool)
  | 0, _, _, _, _, _ => none
  | k + 1, x9, x10, x11, x12, x59 => if x59 = true then (some false) else ((word_Whole.f k x9 x11).bind fun t486 => (if t486 = true then ((word_Match.f k x9 x10).bind fun t487 => ((some (([] : List Int) : List Int)).bind fun y490 => (if 0 ≤ x12 then (if x12 ≤ (x10.length : Int) then ((some (x10.take (x12 : Int).toNat : List Int)).bind fun y493 => (if y490.length + y493.length < 17592186044416 then ((some (y490 ++ y493 : List Int)).bind fun y497 => (if y497.length + x11.length < 17592186044416 then ((some (y497 ++ x11 : List Int)).bind fun y500 => ((some (x10.drop (x12 : Int).toNat : List Int)).bind fun y503 => (if y500.length + y503.length < 17592186044416 then ((word_Match.f k x9 (y500 ++ y503)).bind fun t510 => (if (t487.length : Int) = (x10.length : Int) then (canopylaw1_WordParts.j1 k x10 x11 x12 t487 t510 ((t510.length : Int) != (wrap64 ((x10.length : Int) + (x11.length : Int))))) else (canopylaw1_WordParts.j1 k x10 x11 x12 t487 t510 true))) else (none)))) else (none))) else (none))) else (none)) else (none)))) else (some true)))
def canopylaw1_WordParts.j1 : Nat → List Int → List Int → Int → List Int → List Int → Bool → Option (Bool)
  | 0, _, _, _, _, _, _ => none
  | k + 1, x10, x11, x12, x13, x14, x94 => if x94 = true then (some false) else (canopylaw1_WordParts.l0 k x10 x11 x12 x13 x14 0)
def canopylaw1_WordParts.l0 : Nat → List Int → List Int → Int → List Int → List Int → Int → Option (Bool)
  | 0, _, _, _, _, _, _ => none
  | k + 1, x10, x11, x12, x13, x14, x15 => if x15 < (x10.length : Int) then (if 0 ≤ x15 then (if x15 < (x13.length : Int) then (if x15 ≥ x12 then (canopylaw1_WordParts.j3 k x10 x11 x12 x13 x14 x15 (wrap64 (x15 + (x11.length : Int))) (rd x13 x15)) else (canopylaw1_WordParts.j3 k x10 x11 x12 x13 x14 x15 x15 (rd x13 x15))) else (none)) else (none)) else (some true)
def canopylaw1_WordParts.j3 : Nat → List Int → List Int → Int → List Int → List Int → Int → Int → Int → Option (Bool)
  | 0, _, _, _, _, _, _, _, _ => none
  | k + 1, x10, x11, x12, x13, x14, x15, x16, x17 => if x17 ≥ x12 then (if 0 ≤ x16 then (if x16 < (x14.length : Int) then (if (rd x14 x16) = (wrap64 (x17 + (x11.length : Int))) then (canopylaw1_WordParts.l0 k x10 x11 x12 x13 x14 (wrap64 (x15 + 1))) else (some false)) else (none)) else (none)) else (if 0 ≤ x16 then (if x16 < (x14.length : Int) then (if (rd x14 x16) = x17 then (canopylaw1_WordParts.l0 k x10 x11 x12 x13 x14 (wrap64 (x15 + 1))) else (some false)) else (none)) else (none))
end
def canopylaw1_WordParts.f (k : Nat) (a0 : Int) (l1 : List Int) (l2 : List Int) (a3 : Int) : Option (Bool) := (canopylaw1_known.f k).bind fun t463 => (if t463 = true then ((canopylaw1_Syms.f a0 l1).bind fun t464 => ((canopylaw1_Word.f k t464 l1 20).bind fun t467 => ((canopylaw1_Word.f k t464 l2 20).bind fun t470 => ((canopylaw1_within.f a3 (wrap64 ((t467.length : Int) + 1))).bind fun t473 => (if (t470.length : Int) > 0 then (if (t467.length : Int) > 0 then ((some (([] : List Int) : List Int)).bind fun y474 => (if y474.length + t467.length < 17592186044416 then ((some (y474 ++ t467 : List Int)).bind fun y477 => (if y477.length + t470.length < 17592186044416 then ((word_Text.f k t464 (y477 ++ t470)).bind fun t483 => ((word_Text.f k t464 t467).bind fun t484 => (if t484.size + 1 ≤ 9223372036854775807 then ((word_Text.f k t464 t470).bind fun t485 => (if (t484 ++ (⟨#[32]⟩ : ByteArray)).size + t485.size ≤ 9223372036854775807 then (canopylaw1_WordParts.j0 k t464 t467 t470 t473 (t483.toList != ((t484 ++ (⟨#[32]⟩ : ByteArray)) ++ t485).toList)) else (none))) else (none)))) else (none))) else (none))) else (canopylaw1_WordParts.j0 k t464 t467 t470 t473 false)) else (canopylaw1_WordParts.j0 k t464 t467 t470 t473 false)))))) else (some false))
theorem canopylaw1_WordParts.mono_l : ∀ k, (∀ y0 y1 y2 y3 y4, LeO (canopylaw1_WordParts.j0 k y0 y1 y2 y3 y4) (canopylaw1_WordParts.j0 (k + 1) y0 y1 y2 y3 y4)) ∧ (∀ y0 y1 y2 y3 y4 y5, LeO (canopylaw1_WordParts.j1 k y0 y1 y2 y3 y4 y5) (canopylaw1_WordParts.j1 (k + 1) y0 y1 y2 y3 y4 y5)) ∧ (∀ y0 y1 y2 y3 y4 y5, LeO (canopylaw1_WordParts.l0 k y0 y1 y2 y3 y4 y5) (canopylaw1_WordParts.l0 (k + 1) y0 y1 y2 y3 y4 y5)) ∧ (∀ y0 y1 y2 y3 y4 y5 y6 y7, LeO (canopylaw1_WordParts.j3 k y0 y1 y2 y3 y4 y5 y6 y7) (canopylaw1_WordParts.j3 (k + 1) y0 y1 y2 y3 y4 y5 y6 y7))
  | 0 => ⟨fun _ _ _ _ _ r h => by simp [canopylaw1_WordParts.j0] at h, fun _ _ _ _ _ _ r h => by simp [canopylaw1_WordParts.j1] at h, fun _ _ _ _ _ _ r h => by simp [canopylaw1_WordParts.l0] at h, fun _ _ _ _ _ _ _ _ r h => by simp [canopylaw1_WordParts.j3] at h⟩
  | k + 1 => by
    obtain ⟨ih0, ih1, ih2, ih3⟩ := canopylaw1_WordParts.mono_l k
    refine ⟨?_, ?_, ?_, ?_⟩
    · intro y0 y1 y2 y3 y4
      unfold canopylaw1_WordParts.j0
      repeat' first
      | (with_reducible exact ih0 _ _ _ _ _)
      | (with_reducible exact ih1 _ _ _ _ _ _)
      | (with_reducible exact ih2 _ _ _ _ _ _)
      | (with_reducible exact ih3 _ _ _ _ _ _ _ _)
      | (with_reducible exact canopylaw1_Word.mono _ _ _ _)
      | (with_reducible exact canopylaw1_known.mono _)
      | (with_reducible exact word_Match.mono _ _ _)
      | (with_reducible exact word_Text.mono _ _ _)
      | (with_reducible exact word_Whole.mono _ _ _)
      | (with_reducible exact LeO.refl _)
      | (with_reducible exact LeO.none _)
      | (with_reducible refine LeO.ite ?_ ?_)
      | (with_reducible refine LeO.bind ?_ (fun _ => ?_))
      | exact ih0 _ _ _ _ _
      | exact ih1 _ _ _ _ _ _
      | exact ih2 _ _ _ _ _ _
      | exact ih3 _ _ _ _ _ _ _ _
      | exact canopylaw1_Word.mono _ _ _ _
      | exact canopylaw1_known.mono _
      | exact word_Match.mono _ _ _
      | exact word_Text.mono _ _ _
      | exact word_Whole.mono _ _ _
      | exact LeO.none _
      | refine LeO.ite ?_ ?_
      | refine LeO.bind ?_ (fun _ => ?_)
    · intro y0 y1 y2 y3 y4 y5
      unfold canopylaw1_WordParts.j1
      repeat' first
      | (with_reducible exact ih0 _ _ _ _ _)
      | (with_reducible exact ih1 _ _ _ _ _ _)
      | (with_reducible exact ih2 _ _ _ _ _ _)
      | (with_reducible exact ih3 _ _ _ _ _ _ _ _)
      | (with_reducible exact canopylaw1_Word.mono _ _ _ _)
      | (with_reducible exact canopylaw1_known.mono _)
      | (with_reducible exact word_Match.mono _ _ _)
      | (with_reducible exact word_Text.mono _ _ _)
      | (with_reducible exact word_Whole.mono _ _ _)
      | (with_reducible exact LeO.refl _)
      | (with_reducible exact LeO.none _)
      | (with_reducible refine LeO.ite ?_ ?_)
      | (with_reducible refine LeO.bind ?_ (fun _ => ?_))
      | exact ih0 _ _ _ _ _
      | exact ih1 _ _ _ _ _ _
      | exact ih2 _ _ _ _ _ _
      | exact ih3 _ _ _ _ _ _ _ _
      | exact canopylaw1_Word.mono _ _ _ _
      | exact canopylaw1_known.mono _
      | exact word_Match.mono _ _ _
      | exact word_Text.mono _ _ _
      | exact word_Whole.mono _ _ _
      | exact LeO.none _
      | refine LeO.ite ?_ ?_
      | refine LeO.bind ?_ (fun _ => ?_)
    · intro y0 y1 y2 y3 y4 y5
      unfold canopylaw1_WordParts.l0
      repeat' first
      | (with_reducible exact ih0 _ _ _ _ _)
      | (with_reducible exact ih1 _ _ _ _ _ _)
      | (with_reducible exact ih2 _ _ _ _ _ _)
      | (with_reducible exact ih3 _ _ _ _ _ _ _ _)
      | (with_reducible exact canopylaw1_Word.mono _ _ _ _)
      | (with_reducible exact canopylaw1_known.mono _)
      | (with_reducible exact word_Match.mono _ _ _)
      | (with_reducible exact word_Text.mono _ _ _)
      | (with_reducible exact word_Whole.mono _ _ _)
      | (with_reducible exact LeO.refl _)
      | (with_reducible exact LeO.none _)
      | (with_reducible refine LeO.ite ?_ ?_)
      | (with_reducible refine LeO.bind ?_ (fun _ => ?_))
      | exact ih0 _ _ _ _ _
      | exact ih1 _ _ _ _ _ _
      | exact ih2 _ _ _ _ _ _
      | exact ih3 _ _ _ _ _ _ _ _
      | exact canopylaw1_Word.mono _ _ _ _
      | exact canopylaw1_known.mono _
      | exact word_Match.mono _ _ _
      | exact word_Text.mono _ _ _
      | exact word_Whole.mono _ _ _
      | exact LeO.none _
      | refine LeO.ite ?_ ?_
      | refine LeO.bind ?_ (fun _ => ?_)
    · intro y0 y1 y2 y3 y4 y5 y6 y7
      unfold canopylaw1_WordParts.j3
      repeat' first
      | (with_reducible exact ih0 _ _ _ _ _)
      | (with_reducible exact ih1 _ _ _ _ _ _)
      | (with_reducible exact ih2 _ _ _ _ _ _)
      | (with_reducible exact ih3 _ _ _ _ _ _ _ _)
      | (with_reducible exact canopylaw1_Word.mono _ _ _ _)
      | (with_reducible exact canopylaw1_known.mono _)
      | (with_reducible exact word_Match.mono _ _ _)
      | (with_reducible exact word_Text.mono _ _ _)
      | (with_reducible exact word_Whole.mono _ _ _)
      | (with_reducible exact LeO.refl _)
      | (with_reducible exact LeO.none _)
      | (with_reducible refine LeO.ite ?_ ?_)
      | (with_reducible refine LeO.bind ?_ (fun _ => ?_))
      | exact ih0 _ _ _ _ _
      | exact ih1 _ _ _ _ _ _
      | exact ih2 _ _ _ _ _ _
      | exact ih3 _ _ _ _ _ _ _ _
      | exact canopylaw1_Word.mono _ _ _ _
      | exact canopylaw1_known.mono _
      | exact word_Match.mono _ _ _
      | exact word_Text.mono _ _ _
      | exact word_Whole.mono _ _ _
      | exact LeO.none _
      | refine LeO.ite ?_ ?_
      | refine LeO.bind ?_ (fun _ => ?_)
theorem canopylaw1_WordParts.mono : ∀ a0 a1 a2 a3 k, LeO (canopylaw1_WordParts.f k a0 a1 a2 a3) (canopylaw1_WordParts.f (k + 1) a0 a1 a2 a3) := by
  intro a0 a1 a2 a3 k
  obtain ⟨ih0, ih1, ih2, ih3⟩ := canopylaw1_WordParts.mono_l k
  unfold canopylaw1_WordParts.f
  repeat' first
      | (with_reducible exact ih0 _ _ _ _ _)
      | (with_reducible exact ih1 _ _ _ _ _ _)
      | (with_reducible exact ih2 _ _ _ _ _ _)
      | (with_reducible exact ih3 _ _ _ _ _ _ _ _)
      | (with_reducible exact canopylaw1_Word.mono _ _ _ _)
      | (with_reducible exact canopylaw1_known.mono _)
      | (with_reducible exact word_Match.mono _ _ _)
      | (with_reducible exact word_Text.mono _ _ _)
      | (with_reducible exact word_Whole.mono _ _ _)
      | (with_reducible exact LeO.refl _)
      | (with_reducible exact LeO.none _)
      | (with_reducible refine LeO.ite ?_ ?_)
      | (with_reducible refine LeO.bind ?_ (fun _ => ?_))
      | exact ih0 _ _ _ _ _
      | exact ih1 _ _ _ _ _ _
      | exact ih2 _ _ _ _ _ _
      | exact ih3 _ _ _ _ _ _ _ _
      | exact canopylaw1_Word.mono _ _ _ _
      | exact canopylaw1_known.mono _
      | exact word_Match.mono _ _ _
      | exact word_Text.mono _ _ _
      | exact word_Whole.mono _ _ _
      | exact LeO.none _
      | refine LeO.ite ?_ ?_
      | refine LeO.bind ?_ (fun _ => ?_)
def canopylaw1_WordParts.T10 : Bool × List (List Nat × List Nat) := (true, [([], []), ([], []), ([0, 1], [0, 1]), ([], []), ([], []), ([], []), ([], []), ([5, 6], [5, 6]), ([4, 7, 2], [4, 7]), ([], []), ([8, 9, 8], [8, 9]), ([], []), ([], []), ([11, 12], [11, 12]), ([10, 13, 10], [10, 13]), ([3, 14, 14], [3, 14]), ([2, 15, 0, 1, 2], [2]), ([15, 16, 0, 1, 2, 3, 4, 5, 6, 7, 8, 9, 10, 11, 12, 13, 14, 15, 16], [15])])
def canopylaw1_WordParts.B10 : List Nat := [0, 0, 3, 0, 0, 0, 0, 96, 247, 0, 1015, 0, 0, 6144, 16375, 32767, 65535, 131071]
theorem canopylaw1_WordParts.tab10 : rtab .any (opsOf Try.f10 10) = canopylaw1_WordParts.T10 := by kernel_rfl
theorem canopylaw1_WordParts.bits10 : waitsOk canopylaw1_WordParts.T10.2 canopylaw1_WordParts.B10 = true := by kernel_rfl
set_option maxHeartbeats 8000000 in
set_option maxRecDepth 100000 in
theorem canopylaw1_WordParts.calls (k : Nat) (a0 : Int) (A1 : Option Addr) (c1 : Nat) (l1 : List Int) (A2 : Option Addr) (c2 : Nat) (l2 : List Int) (a3 : Int) (r : Bool) (w : World) (hr1 : Kd.C (Kd.int .i64) w A1 l1.length l1) (hc1 : l1.length ≤ c1) (hr2 : Kd.C (Kd.int .i64) w A2 l2.length l2) (hc2 : l2.length ≤ c2) (h : canopylaw1_WordParts.f k a0 l1 l2 a3 = some r) :
    Calls Try.prog 10 #[.int .i64 a0, .slice A1 l1.length c1, .slice A2 l2.length c2, .int .i64 a3] w fun e w' => e = .returned (.bool r) ∧ Below w.heap.size w w' := by
  have HR1 := Aside0.mk hr1
  have HC1 := Aside0.mk hc1
  clear hr1 hc1
  have HR2 := Aside0.mk hr2
  have HC2 := Aside0.mk hc2
  clear hr2 hc2
  have HB := Aside0.mk (Below.refl w.heap.size w)
  have H : ((canopylaw1_known.f k).bind fun t463 => (if t463 = true then ((canopylaw1_Syms.f a0 l1).bind fun t464 => ((canopylaw1_Word.f k t464 l1 20).bind fun t467 => ((canopylaw1_Word.f k t464 l2 20).bind fun t470 => ((canopylaw1_within.f a3 (wrap64 ((t467.length : Int) + 1))).bind fun t473 => (if (t470.length : Int) > 0 then (if (t467.length : Int) > 0 then ((some (([] : List Int) : List Int)).bind fun y474 => (if y474.length + t467.length < 17592186044416 then ((some (y474 ++ t467 : List Int)).bind fun y477 => (if y477.length + t470.length < 17592186044416 then ((word_Text.f k t464 (y477 ++ t470)).bind fun t483 => ((word_Text.f k t464 t467).bind fun t484 => (if t484.size + 1 ≤ 9223372036854775807 then ((word_Text.f k t464 t470).bind fun t485 => (if (t484 ++ (⟨#[32]⟩ : ByteArray)).size + t485.size ≤ 9223372036854775807 then (canopylaw1_WordParts.j0 k t464 t467 t470 t473 (t483.toList != ((t484 ++ (⟨#[32]⟩ : ByteArray)) ++ t485).toList)) else (none))) else (none)))) else (none))) else (none))) else (canopylaw1_WordParts.j0 k t464 t467 t470 t473 false)) else (canopylaw1_WordParts.j0 k t464 t467 t470 t473 false)))))) else (some false))) = some r := h
  clear h
  replace H := Option.bind_eq_some_iff.mp H
  obtain ⟨t463, A50, H⟩ := H
  replace H : (if t463 = true then ((canopylaw1_Syms.f a0 l1).bind fun t464 => ((canopylaw1_Word.f k t464 l1 20).bind fun t467 => ((canopylaw1_Word.f k t464 l2 20).bind fun t470 => ((canopylaw1_within.f a3 (wrap64 ((t467.length : Int) + 1))).bind fun t473 => (if (t470.length : Int) > 0 then (if (t467.length : Int) > 0 then ((some (([] : List Int) : List Int)).bind fun y474 => (if y474.length + t467.length < 17592186044416 then ((some (y474 ++ t467 : List Int)).bind fun y477 => (if y477.length + t470.length < 17592186044416 then ((word_Text.f k t464 (y477 ++ t470)).bind fun t483 => ((word_Text.f k t464 t467).bind fun t484 => (if t484.size + 1 ≤ 9223372036854775807 then ((word_Text.f k t464 t470).bind fun t485 => (if (t484 ++ (⟨#[32]⟩ : ByteArray)).size + t485.size ≤ 9223372036854775807 then (canopylaw1_WordParts.j0 k t464 t467 t470 t473 (t483.toList != ((t484 ++ (⟨#[32]⟩ : ByteArray)) ++ t485).toList)) else (none))) else (none)))) else (none))) else (none))) else (canopylaw1_WordParts.j0 k t464 t467 t470 t473 false)) else (canopylaw1_WordParts.j0 k t464 t467 t470 t473 false)))))) else (some false)) = some r := H
  have A5 := Aside0.mk A50
  clear A50
  by_cases c6 : t463 = true
  · subst c6
    have H1 : ((canopylaw1_Syms.f a0 l1).bind fun t464 => ((canopylaw1_Word.f k t464 l1 20).bind fun t467 => ((canopylaw1_Word.f k t464 l2 20).bind fun t470 => ((canopylaw1_within.f a3 (wrap64 ((t467.length : Int) + 1))).bind fun t473 => (if (t470.length : Int) > 0 then (if (t467.length : Int) > 0 then ((some (([] : List Int) : List Int)).bind fun y474 => (if y474.length + t467.length < 17592186044416 then ((some (y474 ++ t467 : List Int)).bind fun y477 => (if y477.length + t470.length < 17592186044416 then ((word_Text.f k t464 (y477 ++ t470)).bind fun t483 => ((word_Text.f k t464 t467).bind fun t484 => (if t484.size + 1 ≤ 9223372036854775807 then ((word_Text.f k t464 t470).bind fun t485 => (if (t484 ++ (⟨#[32]⟩ : ByteArray)).size + t485.size ≤ 9223372036854775807 then (canopylaw1_WordParts.j0 k t464 t467 t470 t473 (t483.toList != ((t484 ++ (⟨#[32]⟩ : ByteArray)) ++ t485).toList)) else (none))) else (none)))) else (none))) else (none))) else (canopylaw1_WordParts.j0 k t464 t467 t470 t473 false)) else (canopylaw1_WordParts.j0 k t464 t467 t470 t473 false)))))) = some r := by rw [if_pos rfl] at H; exact H
    clear H
    have H := H1
    clear H1
    replace H := Option.bind_eq_some_iff.mp H
    obtain ⟨t464, A70, H⟩ := H
    replace H : ((canopylaw1_Word.f k t464 l1 20).bind fun t467 => ((canopylaw1_Word.f k t464 l2 20).bind fun t470 => ((canopylaw1_within.f a3 (wrap64 ((t467.length : Int) + 1))).bind fun t473 => (if (t470.length : Int) > 0 then (if (t467.length : Int) > 0 then ((some (([] : List Int) : List Int)).bind fun y474 => (if y474.length + t467.length < 17592186044416 then ((some (y474 ++ t467 : List Int)).bind fun y477 => (if y477.length + t470.length < 17592186044416 then ((word_Text.f k t464 (y477 ++ t470)).bind fun t483 => ((word_Text.f k t464 t467).bind fun t484 => (if t484.size + 1 ≤ 9223372036854775807 then ((word_Text.f k t464 t470).bind fun t485 => (if (t484 ++ (⟨#[32]⟩ : ByteArray)).size + t485.size ≤ 9223372036854775807 then (canopylaw1_WordParts.j0 k t464 t467 t470 t473 (t483.toList != ((t484 ++ (⟨#[32]⟩ : ByteArray)) ++ t485).toList)) else (none))) else (none)))) else (none))) else (none))) else (canopylaw1_WordParts.j0 k t464 t467 t470 t473 false)) else (canopylaw1_WordParts.j0 k t464 t467 t470 t473 false))))) = some r := H
    have A7 := Aside0.mk A70
    clear A70
    replace H := Option.bind_eq_some_iff.mp H
    obtain ⟨t467, A80, H⟩ := H
    replace H : ((canopylaw1_Word.f k t464 l2 20).bind fun t470 => ((canopylaw1_within.f a3 (wrap64 ((t467.length : Int) + 1))).bind fun t473 => (if (t470.length : Int) > 0 then (if (t467.length : Int) > 0 then ((some (([] : List Int) : List Int)).bind fun y474 => (if y474.length + t467.length < 17592186044416 then ((some (y474 ++ t467 : List Int)).bind fun y477 => (if y477.length + t470.length < 17592186044416 then ((word_Text.f k t464 (y477 ++ t470)).bind fun t483 => ((word_Text.f k t464 t467).bind fun t484 => (if t484.size + 1 ≤ 9223372036854775807 then ((word_Text.f k t464 t470).bind fun t485 => (if (t484 ++ (⟨#[32]⟩ : ByteArray)).size + t485.size ≤ 9223372036854775807 then (canopylaw1_WordParts.j0 k t464 t467 t470 t473 (t483.toList != ((t484 ++ (⟨#[32]⟩ : ByteArray)) ++ t485).toList)) else (none))) else (none)))) else (none))) else (none))) else (canopylaw1_WordParts.j0 k t464 t467 t470 t473 false)) else (canopylaw1_WordParts.j0 k t464 t467 t470 t473 false)))) = some r := H
    have A8 := Aside0.mk A80
    clear A80
    replace H := Option.bind_eq_some_iff.mp H
    obtain ⟨t470, A90, H⟩ := H
    replace H : ((canopylaw1_within.f a3 (wrap64 ((t467.length : Int) + 1))).bind fun t473 => (if (t470.length : Int) > 0 then (if (t467.length : Int) > 0 then ((some (([] : List Int) : List Int)).bind fun y474 => (if y474.length + t467.length < 17592186044416 then ((some (y474 ++ t467 : List Int)).bind fun y477 => (if y477.length + t470.length < 17592186044416 then ((word_Text.f k t464 (y477 ++ t470)).bind fun t483 => ((word_Text.f k t464 t467).bind fun t484 => (if t484.size + 1 ≤ 9223372036854775807 then ((word_Text.f k t464 t470).bind fun t485 => (if (t484 ++ (⟨#[32]⟩ : ByteArray)).size + t485.size ≤ 9223372036854775807 then (canopylaw1_WordParts.j0 k t464 t467 t470 t473 (t483.toList != ((t484 ++ (⟨#[32]⟩ : ByteArray)) ++ t485).toList)) else (none))) else (none)))) else (none))) else (none))) else (canopylaw1_WordParts.j0 k t464 t467 t470 t473 false)) else (canopylaw1_WordParts.j0 k t464 t467 t470 t473 false))) = some r := H
    have A9 := Aside0.mk A90
    clear A90
    replace H := Option.bind_eq_some_iff.mp H
    obtain ⟨t473, A100, H⟩ := H
    replace H : (if (t470.length : Int) > 0 then (if (t467.length : Int) > 0 then ((some (([] : List Int) : List Int)).bind fun y474 => (if y474.length + t467.length < 17592186044416 then ((some (y474 ++ t467 : List Int)).bind fun y477 => (if y477.length + t470.length < 17592186044416 then ((word_Text.f k t464 (y477 ++ t470)).bind fun t483 => ((word_Text.f k t464 t467).bind fun t484 => (if t484.size + 1 ≤ 9223372036854775807 then ((word_Text.f k t464 t470).bind fun t485 => (if (t484 ++ (⟨#[32]⟩ : ByteArray)).size + t485.size ≤ 9223372036854775807 then (canopylaw1_WordParts.j0 k t464 t467 t470 t473 (t483.toList != ((t484 ++ (⟨#[32]⟩ : ByteArray)) ++ t485).toList)) else (none))) else (none)))) else (none))) else (none))) else (canopylaw1_WordParts.j0 k t464 t467 t470 t473 false)) else (canopylaw1_WordParts.j0 k t464 t467 t470 t473 false)) = some r := H
    have A10 := Aside0.mk A100
    clear A100
    have HC11 := Aside0.mk H
    clear H
    go_enter Try.func10, Try.ntmps10
    go_upto_region 6 with (first | ((with_reducible refine gate_callee (f := 13) rfl ?_); refine goesL_ (some 18) rfl rfl Try.func13 (by kernel_rfl) rfl #[] rfl (by (try simp only [List.map_toArray, List.map_cons, List.map_nil]); first | done | rfl | (simp only [List.length_drop, List.length_take]; rfl)) ?_; (with_reducible refine (canopylaw1_known.calls k  true _ A5.out).mono ?_); rintro e w12 ⟨rfl, hb⟩; refine ⟨_, rfl, ?_⟩; have n0_ := Aside0.mk (below_step (by repeat (first | (with_reducible first | exact HB.out | apply below_alloc | apply pw_below_drewN | apply below_drew1) | exact HB.out)) hb); clear HB; have HB := n0_; clear n0_; (try clear hb); (try clear hb2); (try clear hk); (try clear hi)) | ((with_reducible refine gate_callee (f := 14) rfl ?_); refine goesL_ (some 22) rfl rfl Try.func14 (by kernel_rfl) rfl #[.int .i64 a0, .slice A1 l1.length c1] rfl (by (try simp only [List.map_toArray, List.map_cons, List.map_nil]); first | done | rfl | (simp only [List.length_drop, List.length_take]; rfl)) ?_; (with_reducible refine (canopylaw1_Syms.calls a0 _ _ l1 t464 _ ?side1 ?side2 A7.out).mono ?_); (case side1 => repeat (first | exact (Kd.C_below HR1.out HB.out) | (with_reducible refine Kd.C_alloc ?_ _) | (with_reducible refine Kd.C_drewN ?_ _) | (with_reducible refine Kd.C_drew ?_))); (case side2 => exact HC1.out); rintro e w13 ⟨v465, rfl, ho0, hb⟩; refine ⟨_, rfl, ?_⟩; have n0_ := Aside0.mk (Kd.R_lower ho0 (below_size (by repeat (first | (with_reducible first | exact HB.out | apply below_alloc | apply pw_below_drewN | apply below_drew1) | exact HB.out)))); have n1_ := Aside0.mk (below_step (by repeat (first | (with_reducible first | exact HB.out | apply below_alloc | apply pw_below_drewN | apply below_drew1) | exact HB.out)) hb); clear HB; have HO466 := n0_; have HB := n1_; clear n0_ n1_; (try clear hb); (try clear hb2); (try clear hk); (try clear hi); (try clear ho0); obtain ⟨Ao14, co14, eo14⟩ := Kd.R_slice HO466.out; subst eo14) | ((with_reducible refine gate_callee (f := 15) rfl ?_); refine goesL_ (some 25) rfl rfl Try.func15 (by kernel_rfl) rfl #[.slice Ao14 t464.length co14, .slice A1 l1.length c1, .int .i64 20] rfl (by (try simp only [List.map_toArray, List.map_cons, List.map_nil]); first | done | rfl | (simp only [List.length_drop, List.length_take]; rfl)) ?_; (with_reducible refine (canopylaw1_Word.calls k _ _ t464 _ _ l1 20 t467 _ ?side1 ?side2 ?side3 ?side4 A8.out).mono ?_); (case side1 => repeat (first | exact (Kd.R_reads' HO466.out).2.2 | (with_reducible refine Kd.C_alloc ?_ _) | (with_reducible refine Kd.C_drewN ?_ _) | (with_reducible refine Kd.C_drew ?_))); (case side2 => exact (Kd.R_reads' HO466.out).2.1); (case side3 => repeat (first | exact (Kd.C_below HR1.out HB.out) | (with_reducible refine Kd.C_alloc ?_ _) | (with_reducible refine Kd.C_drewN ?_ _) | (with_reducible refine Kd.C_drew ?_))); (case side4 => exact HC1.out); rintro e w15 ⟨v468, rfl, ho0, hb⟩; refine ⟨_, rfl, ?_⟩; have n0_ := Aside0.mk (Kd.R_below (by (with_reducible repeat (first | apply Kd.R_alloc | apply Kd.R_drewN | apply Kd.R_drew)); exact HO466.out) hb); have n1_ := Aside0.mk (Kd.R_lower ho0 (below_size (by repeat (first | (with_reducible first | exact HB.out | apply below_alloc | apply pw_below_drewN | apply below_drew1) | exact HB.out)))); have n2_ := Aside0.mk (below_step (by repeat (first | (with_reducible first | exact HB.out | apply below_alloc | apply pw_below_drewN | apply below_drew1) | exact HB.out)) hb); clear HO466; clear HB; have HO466 := n0_; have HO469 := n1_; have HB := n2_; clear n0_ n1_ n2_; (try clear hb); (try clear hb2); (try clear hk); (try clear hi); (try clear ho0)) | ((with_reducible refine gate_callee (f := 15) rfl ?_); refine goesL_ (some 28) rfl rfl Try.func15 (by kernel_rfl) rfl #[.slice Ao14 t464.length co14, .slice A2 l2.length c2, .int .i64 20] rfl (by (try simp only [List.map_toArray, List.map_cons, List.map_nil]); first | done | rfl | (simp only [List.length_drop, List.length_take]; rfl)) ?_; (with_reducible refine (canopylaw1_Word.calls k _ _ t464 _ _ l2 20 t470 _ ?side1 ?side2 ?side3 ?side4 A9.out).mono ?_); (case side1 => repeat (first | exact (Kd.R_reads' HO466.out).2.2 | (with_reducible refine Kd.C_alloc ?_ _) | (with_reducible refine Kd.C_drewN ?_ _) | (with_reducible refine Kd.C_drew ?_))); (case side2 => exact (Kd.R_reads' HO466.out).2.1); (case side3 => repeat (first | exact (Kd.C_below HR2.out HB.out) | (with_reducible refine Kd.C_alloc ?_ _) | (with_reducible refine Kd.C_drewN ?_ _) | (with_reducible refine Kd.C_drew ?_))); (case side4 => exact HC2.out); rintro e w16 ⟨v471, rfl, ho0, hb⟩; refine ⟨_, rfl, ?_⟩; have n0_ := Aside0.mk (Kd.R_below (by (with_reducible repeat (first | apply Kd.R_alloc | apply Kd.R_drewN | apply Kd.R_drew)); exact HO466.out) hb); have n1_ := Aside0.mk (Kd.R_elder' (by (with_reducible repeat (first | apply Kd.R_alloc | apply Kd.R_drewN | apply Kd.R_drew)); exact HO469.out) (Kd.R_base ho0) hb); have n2_ := Aside0.mk (Kd.R_lower (Kd.R_new' ho0 (Kd.R_lt (by (with_reducible repeat (first | apply Kd.R_alloc | apply Kd.R_drewN | apply Kd.R_drew)); exact HO469.out))) (below_size (by repeat (first | (with_reducible first | exact HB.out | apply below_alloc | apply pw_below_drewN | apply below_drew1) | exact HB.out)))); have n3_ := Aside0.mk (below_step (by repeat (first | (with_reducible first | exact HB.out | apply below_alloc | apply pw_below_drewN | apply below_drew1) | exact HB.out)) hb); clear HO466; clear HO469; clear HB; have HO466 := n0_; have HO469 := n1_; have HO472 := n2_; have HB := n3_; clear n0_ n1_ n2_ n3_; (try clear hb); (try clear hb2); (try clear hk); (try clear hi); (try clear ho0); obtain ⟨Ao17, co17, eo17⟩ := Kd.R_slice HO469.out; subst eo17) | ((with_reducible refine gate_callee (f := 18) rfl ?_); refine goesL_ (some 33) rfl rfl Try.func18 (by kernel_rfl) rfl #[.int .i64 a3, .int .i64 (wrap64 ((t467.length : Int) + 1))] rfl (by (try simp only [List.map_toArray, List.map_cons, List.map_nil]); first | done | rfl | (simp only [List.length_drop, List.length_take]; rfl)) ?_; (with_reducible refine (canopylaw1_within.calls a3 (wrap64 ((t467.length : Int) + 1)) t473 _ A10.out).mono ?_); rintro e w' ⟨rfl, rfl⟩; refine ⟨_, rfl, ?_⟩))
    (try simp only [Act.put, List.setIfInBounds_toArray, List.set_cons_zero, List.set_cons_succ])
    go_cut [59] (fun v59 wc => ∃ (kq : Nat) (x59_10 : Bool), v59 = .bool x59_10 ∧ Aside0 (canopylaw1_WordParts.j0 kq t464 t467 t470 t473 x59_10 = some r) ∧ Aside0 (kq ≤ k) ∧ Aside0 (Kd.R k40 40 wc w.heap.size (fun _ => True) (.slice Ao14 t464.length co14) t464) ∧ Aside0 (Kd.R (Kd.int .i64) 3 wc w.heap.size (fun k_ => some k_ ≠ (v471 : Value).ownBlock) (.slice Ao17 t467.length co17) t467) ∧ Aside0 (Kd.R (Kd.int .i64) 3 wc w.heap.size (fun k_ => some k_ ≠ ((.slice Ao17 t467.length co17) : Value).ownBlock) v471 t470) ∧ Aside0 (Below w.heap.size w wc))
    case first =>
      have H := HC11.out
      clear HC11
      by_cases c18 : (t470.length : Int) > 0
      · rw [if_pos c18] at H
        have c18b0 : decide (0 < (t470.length : Int)) = true := decide_eq_true c18
        have c18b1 : decide (0 < t470.length) = true := decide_eq_true (by omega)
        clear c18
        (first | rw [c18b0] | (simp only [i64_w, i32_w]; rw [c18b0]) | skip)
        by_cases c19 : (t467.length : Int) > 0
        · rw [if_pos c19] at H
          have c19b0 : decide (0 < (t467.length : Int)) = true := decide_eq_true c19
          have c19b1 : decide (0 < t467.length) = true := decide_eq_true (by omega)
          clear c19
          obtain ⟨y474, hy474⟩ : ∃ y_ : List Int, y_ = (([] : List Int)) := ⟨_, rfl⟩
          replace H : (if y474.length + t467.length < 17592186044416 then ((some (y474 ++ t467 : List Int)).bind fun y477 => (if y477.length + t470.length < 17592186044416 then ((word_Text.f k t464 (y477 ++ t470)).bind fun t483 => ((word_Text.f k t464 t467).bind fun t484 => (if t484.size + 1 ≤ 9223372036854775807 then ((word_Text.f k t464 t470).bind fun t485 => (if (t484 ++ (⟨#[32]⟩ : ByteArray)).size + t485.size ≤ 9223372036854775807 then (canopylaw1_WordParts.j0 k t464 t467 t470 t473 (t483.toList != ((t484 ++ (⟨#[32]⟩ : ByteArray)) ++ t485).toList)) else (none))) else (none)))) else (none))) else (none)) = some r := by first | (rw [hy474]; with_reducible exact H) | (have H2_ := (Option.bind_some _ _).symm.trans H; rw [hy474]; with_reducible exact H2_) | (have H2_ := (Option.bind_some _ _).symm.trans H; with_reducible exact H2_) | with_reducible exact H | (rw [hy474]; exact H) | exact H
          have Ny474 := Aside0.mk hy474
          clear hy474
          by_cases c20 : y474.length + t467.length < 17592186044416
          · rw [if_pos c20] at H
            have LMc20 := Aside0.mk c20
            clear c20
            obtain ⟨y477, hy477⟩ : ∃ y_ : List Int, y_ = (y474 ++ t467) := ⟨_, rfl⟩
            replace H : (if y477.length + t470.length < 17592186044416 then ((word_Text.f k t464 (y477 ++ t470)).bind fun t483 => ((word_Text.f k t464 t467).bind fun t484 => (if t484.size + 1 ≤ 9223372036854775807 then ((word_Text.f k t464 t470).bind fun t485 => (if (t484 ++ (⟨#[32]⟩ : ByteArray)).size + t485.size ≤ 9223372036854775807 then (canopylaw1_WordParts.j0 k t464 t467 t470 t473 (t483.toList != ((t484 ++ (⟨#[32]⟩ : ByteArray)) ++ t485).toList)) else (none))) else (none)))) else (none)) = some r := by first | (rw [hy477]; with_reducible exact H) | (have H2_ := (Option.bind_some _ _).symm.trans H; rw [hy477]; with_reducible exact H2_) | (have H2_ := (Option.bind_some _ _).symm.trans H; with_reducible exact H2_) | with_reducible exact H | (rw [hy477]; exact H) | exact H
            have Ny477 := Aside0.mk hy477
            clear hy477
            by_cases c21 : y477.length + t470.length < 17592186044416
            · rw [if_pos c21] at H
              have LMc21 := Aside0.mk c21
              clear c21
              obtain ⟨y480, hy480⟩ : ∃ y_ : List Int, y_ = (y477 ++ t470) := ⟨_, rfl⟩
              replace H : ((word_Text.f k t464 y480).bind fun t483 => ((word_Text.f k t464 t467).bind fun t484 => (if t484.size + 1 ≤ 9223372036854775807 then ((word_Text.f k t464 t470).bind fun t485 => (if (t484 ++ (⟨#[32]⟩ : ByteArray)).size + t485.size ≤ 9223372036854775807 then (canopylaw1_WordParts.j0 k t464 t467 t470 t473 (t483.toList != ((t484 ++ (⟨#[32]⟩ : ByteArray)) ++ t485).toList)) else (none))) else (none)))) = some r := by first | (rw [hy480]; with_reducible exact H) | (have H2_ := (Option.bind_some _ _).symm.trans H; rw [hy480]; with_reducible exact H2_) | (have H2_ := (Option.bind_some _ _).symm.trans H; with_reducible exact H2_) | with_reducible exact H | (rw [hy480]; exact H) | exact H
              have Ny480 := Aside0.mk hy480
              clear hy480
              replace H := Option.bind_eq_some_iff.mp H
              obtain ⟨t483, A220, H⟩ := H
              replace H : ((word_Text.f k t464 t467).bind fun t484 => (if t484.size + 1 ≤ 9223372036854775807 then ((word_Text.f k t464 t470).bind fun t485 => (if (t484 ++ (⟨#[32]⟩ : ByteArray)).size + t485.size ≤ 9223372036854775807 then (canopylaw1_WordParts.j0 k t464 t467 t470 t473 (t483.toList != ((t484 ++ (⟨#[32]⟩ : ByteArray)) ++ t485).toList)) else (none))) else (none))) = some r := H
              have A22 := Aside0.mk A220
              clear A220
              replace H := Option.bind_eq_some_iff.mp H
              obtain ⟨t484, A230, H⟩ := H
              replace H : (if t484.size + 1 ≤ 9223372036854775807 then ((word_Text.f k t464 t470).bind fun t485 => (if (t484 ++ (⟨#[32]⟩ : ByteArray)).size + t485.size ≤ 9223372036854775807 then (canopylaw1_WordParts.j0 k t464 t467 t470 t473 (t483.toList != ((t484 ++ (⟨#[32]⟩ : ByteArray)) ++ t485).toList)) else (none))) else (none)) = some r := H
              have A23 := Aside0.mk A230
              clear A230
              by_cases c24 : t484.size + 1 ≤ 9223372036854775807
              · rw [if_pos c24] at H
                have c24b0 := eq_true c24
                have c24b1 : decide (t484.size + 1 ≤ 9223372036854775807) = true := decide_eq_true c24
                try have c24b2 : (9223372036854775807 < t484.size + 1) = False := eq_false (Nat.not_lt.2 c24)
                replace H := Option.bind_eq_some_iff.mp H
                obtain ⟨t485, A250, H⟩ := H
                replace H : (if (t484 ++ (⟨#[32]⟩ : ByteArray)).size + t485.size ≤ 9223372036854775807 then (canopylaw1_WordParts.j0 k t464 t467 t470 t473 (t483.toList != ((t484 ++ (⟨#[32]⟩ : ByteArray)) ++ t485).toList)) else (none)) = some r := H
                have A25 := Aside0.mk A250
                clear A250
                by_cases c26 : (t484 ++ (⟨#[32]⟩ : ByteArray)).size + t485.size ≤ 9223372036854775807
                · rw [if_pos c26] at H
                  have c26b0 := eq_true c26
                  have c26b1 : decide ((t484 ++ (⟨#[32]⟩ : ByteArray)).size + t485.size ≤ 9223372036854775807) = true := decide_eq_true c26
                  try have c26b2 : (9223372036854775807 < (t484 ++ (⟨#[32]⟩ : ByteArray)).size + t485.size) = False := eq_false (Nat.not_lt.2 c26)
                  have c26b3 : (9223372036854775807 < t484.size + 1 + t485.size) = False := eq_false (by have z_ := c26; (try simp only [ByteArray.size_append] at z_ ⊢); simp only [Nat.not_lt]; exact z_)
                  have H' := Aside0.mk H
                  clear H
                  obtain ⟨Ao27, co27, eo27⟩ := Kd.R_slice HO472.out
                  subst eo27
                  go_wp2_with (first | ((with_reducible refine gate_dst (N := 44) rfl ?_); refine R_lit_g (Kd.int .i64) _ 3 ?hg (N := 44) ?hd (xs := ([] : List Int)) (inner := []) (ok := fun _ => True) (okp := fun _ => True) ?hr ?hp (fun _ hk => hk) trivial (Below.refl _ _) (Nat.le_refl _) (by simp) ?_; (case hd => rfl); (case hg => first | rfl | (go_simp; done) | simp [Region.wanted, yielded]); (case hr => first | (go_simp; done) | (go_simp; rfl)); (case hp => exact (Reps.none _ _)); intro v475 w28 ho29 hb hg_ hnew_; clear hg_ hnew_; (first | rw [← Ny474.out] at ho29 | (simp only [Int.reduceToNat] at ho29; rw [← Ny474.out] at ho29)); have n0_ := Aside0.mk (Kd.R_below (by (with_reducible repeat (first | apply Kd.R_alloc | apply Kd.R_drewN | apply Kd.R_drew)); exact HO466.out) hb); have n1_ := Aside0.mk (Kd.R_elder' (by (with_reducible repeat (first | apply Kd.R_alloc | apply Kd.R_drewN | apply Kd.R_drew)); exact HO469.out) (Kd.R_base ho29) hb); have n2_ := Aside0.mk (Kd.R_elder' (by (with_reducible repeat (first | apply Kd.R_alloc | apply Kd.R_drewN | apply Kd.R_drew)); exact HO472.out) (Kd.R_base ho29) hb); have n3_ := Aside0.mk (Kd.R_lower (Kd.R_new' (Kd.R_new' ho29 (Kd.R_lt (by (with_reducible repeat (first | apply Kd.R_alloc | apply Kd.R_drewN | apply Kd.R_drew)); exact HO469.out))) (Kd.R_lt (by (with_reducible repeat (first | apply Kd.R_alloc | apply Kd.R_drewN | apply Kd.R_drew)); exact HO472.out))) (below_size (by repeat (first | (with_reducible first | exact HB.out | apply below_alloc | apply pw_below_drewN | apply below_drew1) | exact HB.out)))); have n4_ := Aside0.mk (below_step (by repeat (first | (with_reducible first | exact HB.out | apply below_alloc | apply pw_below_drewN | apply below_drew1) | exact HB.out)) hb); clear HO466; clear HO469; clear HO472; clear HB; have HO466 := n0_; have HO469 := n1_; have HO472 := n2_; have HO476 := n3_; have HB := n4_; clear n0_ n1_ n2_ n3_ n4_; clear hb ho29) | ((with_reducible refine gate_builtin (b := .append) (xs := #[.tmp 44, .tmp 45]) rfl ?_); at_builtin; refine R_append_rows_g (Kd.int .i64) (w0 := w) w.heap.size (by first | rfl | (go_simp; done) | simp [Region.wanted, yielded]) (.tmp 44) (.tmp 45) 22 3 (.int .i64 0) 8 rfl Try.underlying22 info3 rfl (by decide) (by omega) v475 y474 t467 _ _ _ (fun k_ => some k_ ≠ (.slice Ao17 t467.length co17 : Value).ownBlock ∧ some k_ ≠ (.slice Ao27 t470.length co27 : Value).ownBlock) (fun _ => False) rfl rfl ?aO ?aR (fun _ _ h => h) (fun _ h => h.elim) ?aF ?aB ?aS ?aL ?_; (case aR => repeat (first | exact (Kd.R_reads' HO469.out).2.2 | (with_reducible refine Kd.C_alloc ?_ _) | (with_reducible refine Kd.C_drewN ?_ _) | (with_reducible refine Kd.C_drew ?_))); (case aB => exact (by repeat (first | (with_reducible first | exact HB.out | apply below_alloc | apply pw_below_drewN | apply below_drew1) | exact HB.out))); (case aF => exact (fun k_ hk => ⟨Kd.fresh' (Kd.R_lt (by (with_reducible repeat (first | apply Kd.R_alloc | apply Kd.R_drewN | apply Kd.R_drew)); exact HO469.out)) k_ hk, Kd.fresh' (Kd.R_lt (by (with_reducible repeat (first | apply Kd.R_alloc | apply Kd.R_drewN | apply Kd.R_drew)); exact HO472.out)) k_ hk⟩)); (case aO => exact (by (with_reducible repeat (first | apply Kd.R_alloc | apply Kd.R_drewN | apply Kd.R_drew)); exact Kd.R_mono HO476.out (fun _ hk => ⟨hk.1.2, hk.2⟩))); (case aS => exact (below_size (by repeat (first | (with_reducible first | exact HB.out | apply below_alloc | apply pw_below_drewN | apply below_drew1) | exact HB.out)))); (case aL => have := LMc20.out; omega); intro v478 w30 ho hb hg hat; rw [← Ny477.out] at ho; have n0_ := Aside0.mk (Kd.R_over' (by (with_reducible repeat (first | apply Kd.R_alloc | apply Kd.R_drewN | apply Kd.R_drew)); exact HO466.out) (Kd.R_typed (by (with_reducible repeat (first | apply Kd.R_alloc | apply Kd.R_drewN | apply Kd.R_drew)); exact HO476.out)) (by decide) hg); have n1_ := Aside0.mk (Kd.R_after (ok := (fun k_ => some k_ ≠ (.slice Ao27 t470.length co27 : Value).ownBlock)) (by (with_reducible repeat (first | apply Kd.R_alloc | apply Kd.R_drewN | apply Kd.R_drew)); exact Kd.R_mono HO469.out (fun _ hk => ⟨hk.1.2, hk.2⟩)) hg hat); have n2_ := Aside0.mk (Kd.R_after (ok := (fun k_ => some k_ ≠ (.slice Ao17 t467.length co17 : Value).ownBlock)) (by (with_reducible repeat (first | apply Kd.R_alloc | apply Kd.R_drewN | apply Kd.R_drew)); exact Kd.R_mono HO472.out (fun _ hk => ⟨hk.1.2, hk.2⟩)) hg hat); have n3_ := Aside0.mk (hb); have n4_ := Aside0.mk (ho); clear HO466; clear HO469; clear HO472; clear HB; clear HO476; have HO466 := n0_; have HO469 := n1_; have HO472 := n2_; have HB := n3_; have HO479 := n4_; clear n0_ n1_ n2_ n3_ n4_; clear ho hb hg hat) | ((with_reducible refine gate_builtin (b := .append) (xs := #[.tmp 46, .tmp 47]) rfl ?_); at_builtin; refine R_append_rows_g (Kd.int .i64) (w0 := w) w.heap.size (by first | rfl | (go_simp; done) | simp [Region.wanted, yielded]) (.tmp 46) (.tmp 47) 22 3 (.int .i64 0) 8 rfl Try.underlying22 info3 rfl (by decide) (by omega) v478 y477 t470 _ _ _ (fun k_ => some k_ ≠ (.slice Ao17 t467.length co17 : Value).ownBlock ∧ some k_ ≠ (.slice Ao27 t470.length co27 : Value).ownBlock) (fun _ => False) rfl rfl ?aO ?aR (fun _ _ h => h) (fun _ h => h.elim) ?aF ?aB ?aS ?aL ?_; (case aR => repeat (first | exact (Kd.R_reads' HO472.out).2.2 | (with_reducible refine Kd.C_alloc ?_ _) | (with_reducible refine Kd.C_drewN ?_ _) | (with_reducible refine Kd.C_drew ?_))); (case aB => exact (by repeat (first | (with_reducible first | exact HB.out | apply below_alloc | apply pw_below_drewN | apply below_drew1) | exact HB.out))); (case aF => exact (fun k_ hk => ⟨Kd.fresh' (Kd.R_lt (by (with_reducible repeat (first | apply Kd.R_alloc | apply Kd.R_drewN | apply Kd.R_drew)); exact HO469.out)) k_ hk, Kd.fresh' (Kd.R_lt (by (with_reducible repeat (first | apply Kd.R_alloc | apply Kd.R_drewN | apply Kd.R_drew)); exact HO472.out)) k_ hk⟩)); (case aO => exact (by (with_reducible repeat (first | apply Kd.R_alloc | apply Kd.R_drewN | apply Kd.R_drew)); exact HO479.out)); (case aS => exact (below_size (by repeat (first | (with_reducible first | exact HB.out | apply below_alloc | apply pw_below_drewN | apply below_drew1) | exact HB.out)))); (case aL => have := LMc21.out; omega); intro v481 w31 ho hb hg hat; rw [← Ny480.out] at ho; have n0_ := Aside0.mk (Kd.R_over' (by (with_reducible repeat (first | apply Kd.R_alloc | apply Kd.R_drewN | apply Kd.R_drew)); exact HO466.out) (Kd.R_typed (by (with_reducible repeat (first | apply Kd.R_alloc | apply Kd.R_drewN | apply Kd.R_drew)); exact HO479.out)) (by decide) hg); have n1_ := Aside0.mk (Kd.R_after (ok := (fun k_ => some k_ ≠ (.slice Ao27 t470.length co27 : Value).ownBlock)) (by (with_reducible repeat (first | apply Kd.R_alloc | apply Kd.R_drewN | apply Kd.R_drew)); exact HO469.out) hg hat); have n2_ := Aside0.mk (Kd.R_after (ok := (fun k_ => some k_ ≠ (.slice Ao17 t467.length co17 : Value).ownBlock)) (by (with_reducible repeat (first | apply Kd.R_alloc | apply Kd.R_drewN | apply Kd.R_drew)); exact HO472.out) hg hat); have n3_ := Aside0.mk (hb); have n4_ := Aside0.mk (ho); clear HO466; clear HO469; clear HO472; clear HB; clear HO479; have HO466 := n0_; have HO469 := n1_; have HO472 := n2_; have HB := n3_; have HO482 := n4_; clear n0_ n1_ n2_ n3_ n4_; clear ho hb hg hat; obtain ⟨Ao32, co32, eo32⟩ := Kd.R_slice HO482.out; subst eo32) | (go_at_call 16; (with_reducible refine (word_Text.calls k _ _ t464 _ _ y480 t483 _ ?side1 ?side2 ?side3 ?side4 A22.out).mono ?_); (case side1 => repeat (first | exact (Kd.R_reads' HO466.out).2.2 | (with_reducible refine Kd.C_alloc ?_ _) | (with_reducible refine Kd.C_drewN ?_ _) | (with_reducible refine Kd.C_drew ?_))); (case side2 => exact (Kd.R_reads' HO466.out).2.1); (case side3 => repeat (first | exact (Kd.R_reads' HO482.out).2.2 | (with_reducible refine Kd.C_alloc ?_ _) | (with_reducible refine Kd.C_drewN ?_ _) | (with_reducible refine Kd.C_drew ?_))); (case side4 => exact (Kd.R_reads' HO482.out).2.1); rintro e w33 ⟨rfl, hb⟩; have n0_ := Aside0.mk (Kd.R_below (by (with_reducible repeat (first | apply Kd.R_alloc | apply Kd.R_drewN | apply Kd.R_drew)); exact HO466.out) hb); have n1_ := Aside0.mk (Kd.R_below (by (with_reducible repeat (first | apply Kd.R_alloc | apply Kd.R_drewN | apply Kd.R_drew)); exact HO469.out) hb); have n2_ := Aside0.mk (Kd.R_below (by (with_reducible repeat (first | apply Kd.R_alloc | apply Kd.R_drewN | apply Kd.R_drew)); exact HO472.out) hb); have n3_ := Aside0.mk (Kd.R_below (by (with_reducible repeat (first | apply Kd.R_alloc | apply Kd.R_drewN | apply Kd.R_drew)); exact HO482.out) hb); have n4_ := Aside0.mk (below_step (by repeat (first | (with_reducible first | exact HB.out | apply below_alloc | apply pw_below_drewN | apply below_drew1) | exact HB.out)) hb); clear HO466; clear HO469; clear HO472; clear HO482; clear HB; have HO466 := n0_; have HO469 := n1_; have HO472 := n2_; have HO482 := n3_; have HB := n4_; clear n0_ n1_ n2_ n3_ n4_; (try clear hb); (try clear hb2); (try clear hk); (try clear hi)) | (go_at_call 16; (with_reducible refine (word_Text.calls k _ _ t464 _ _ t467 t484 _ ?side1 ?side2 ?side3 ?side4 A23.out).mono ?_); (case side1 => repeat (first | exact (Kd.R_reads' HO466.out).2.2 | (with_reducible refine Kd.C_alloc ?_ _) | (with_reducible refine Kd.C_drewN ?_ _) | (with_reducible refine Kd.C_drew ?_))); (case side2 => exact (Kd.R_reads' HO466.out).2.1); (case side3 => repeat (first | exact (Kd.R_reads' HO469.out).2.2 | (with_reducible refine Kd.C_alloc ?_ _) | (with_reducible refine Kd.C_drewN ?_ _) | (with_reducible refine Kd.C_drew ?_))); (case side4 => exact (Kd.R_reads' HO469.out).2.1); rintro e w34 ⟨rfl, hb⟩; have n0_ := Aside0.mk (Kd.R_below (by (with_reducible repeat (first | apply Kd.R_alloc | apply Kd.R_drewN | apply Kd.R_drew)); exact HO466.out) hb); have n1_ := Aside0.mk (Kd.R_below (by (with_reducible repeat (first | apply Kd.R_alloc | apply Kd.R_drewN | apply Kd.R_drew)); exact HO469.out) hb); have n2_ := Aside0.mk (Kd.R_below (by (with_reducible repeat (first | apply Kd.R_alloc | apply Kd.R_drewN | apply Kd.R_drew)); exact HO472.out) hb); have n3_ := Aside0.mk (Kd.R_below (by (with_reducible repeat (first | apply Kd.R_alloc | apply Kd.R_drewN | apply Kd.R_drew)); exact HO482.out) hb); have n4_ := Aside0.mk (below_step (by repeat (first | (with_reducible first | exact HB.out | apply below_alloc | apply pw_below_drewN | apply below_drew1) | exact HB.out)) hb); clear HO466; clear HO469; clear HO472; clear HO482; clear HB; have HO466 := n0_; have HO469 := n1_; have HO472 := n2_; have HO482 := n3_; have HB := n4_; clear n0_ n1_ n2_ n3_ n4_; (try clear hb); (try clear hb2); (try clear hk); (try clear hi)) | (go_at_call 16; (with_reducible refine (word_Text.calls k _ _ t464 _ _ t470 t485 _ ?side1 ?side2 ?side3 ?side4 A25.out).mono ?_); (case side1 => repeat (first | exact (Kd.R_reads' HO466.out).2.2 | (with_reducible refine Kd.C_alloc ?_ _) | (with_reducible refine Kd.C_drewN ?_ _) | (with_reducible refine Kd.C_drew ?_))); (case side2 => exact (Kd.R_reads' HO466.out).2.1); (case side3 => repeat (first | exact (Kd.R_reads' HO472.out).2.2 | (with_reducible refine Kd.C_alloc ?_ _) | (with_reducible refine Kd.C_drewN ?_ _) | (with_reducible refine Kd.C_drew ?_))); (case side4 => exact (Kd.R_reads' HO472.out).2.1); rintro e w35 ⟨rfl, hb⟩; have n0_ := Aside0.mk (Kd.R_below (by (with_reducible repeat (first | apply Kd.R_alloc | apply Kd.R_drewN | apply Kd.R_drew)); exact HO466.out) hb); have n1_ := Aside0.mk (Kd.R_below (by (with_reducible repeat (first | apply Kd.R_alloc | apply Kd.R_drewN | apply Kd.R_drew)); exact HO469.out) hb); have n2_ := Aside0.mk (Kd.R_below (by (with_reducible repeat (first | apply Kd.R_alloc | apply Kd.R_drewN | apply Kd.R_drew)); exact HO472.out) hb); have n3_ := Aside0.mk (Kd.R_below (by (with_reducible repeat (first | apply Kd.R_alloc | apply Kd.R_drewN | apply Kd.R_drew)); exact HO482.out) hb); have n4_ := Aside0.mk (below_step (by repeat (first | (with_reducible first | exact HB.out | apply below_alloc | apply pw_below_drewN | apply below_drew1) | exact HB.out)) hb); clear HO466; clear HO469; clear HO472; clear HO482; clear HB; have HO466 := n0_; have HO469 := n1_; have HO472 := n2_; have HO482 := n3_; have HB := n4_; clear n0_ n1_ n2_ n3_ n4_; (try clear hb); (try clear hb2); (try clear hk); (try clear hi)))
                  go_meet
                  case rel => exact ⟨_, ((t483.toList != ((t484 ++ (⟨#[32]⟩ : ByteArray)) ++ t485).toList)), (by first | rfl | (simp; done) | (simp [*]; done)), H', ⟨by first | omega | exact Nat.le_refl _⟩, ⟨by (with_reducible repeat (first | apply Kd.R_alloc | apply Kd.R_drewN | apply Kd.R_drew)); exact HO466.out⟩, ⟨by (with_reducible repeat (first | apply Kd.R_alloc | apply Kd.R_drewN | apply Kd.R_drew)); exact Kd.R_mono HO469.out (fun _ hk => hk.1)⟩, ⟨by (with_reducible repeat (first | apply Kd.R_alloc | apply Kd.R_drewN | apply Kd.R_drew)); exact Kd.R_mono HO472.out (fun _ hk => hk.1)⟩, ⟨by repeat (first | (with_reducible first | exact HB.out | apply below_alloc | apply pw_below_drewN | apply below_drew1) | exact HB.out)⟩⟩
                · rw [if_neg c26] at H
                  exact absurd H (by simp)
              · rw [if_neg c24] at H
                exact absurd H (by simp)
            · rw [if_neg c21] at H
              exact absurd H (by simp)
          · rw [if_neg c20] at H
            exact absurd H (by simp)
        · rw [if_neg c19] at H
          have c19b0 : decide (0 < (t467.length : Int)) = false := decide_eq_false c19
          have c19b1 : decide (0 < t467.length) = false := decide_eq_false (by omega)
          clear c19
          have H' := Aside0.mk H
          clear H
          obtain ⟨Ao36, co36, eo36⟩ := Kd.R_slice HO472.out
          subst eo36
          go_wp2
          go_meet
          case rel => exact ⟨_, (false), (by first | rfl | (simp; done) | (simp [*]; done)), H', ⟨by first | omega | exact Nat.le_refl _⟩, ⟨by (with_reducible repeat (first | apply Kd.R_alloc | apply Kd.R_drewN | apply Kd.R_drew)); exact HO466.out⟩, ⟨by (with_reducible repeat (first | apply Kd.R_alloc | apply Kd.R_drewN | apply Kd.R_drew)); exact Kd.R_mono HO469.out (fun _ hk => hk.2)⟩, ⟨by (with_reducible repeat (first | apply Kd.R_alloc | apply Kd.R_drewN | apply Kd.R_drew)); exact Kd.R_mono HO472.out (fun _ hk => hk.2)⟩, ⟨by repeat (first | (with_reducible first | exact HB.out | apply below_alloc | apply pw_below_drewN | apply below_drew1) | exact HB.out)⟩⟩
      · rw [if_neg c18] at H
        have c18b0 : decide (0 < (t470.length : Int)) = false := decide_eq_false c18
        have c18b1 : decide (0 < t470.length) = false := decide_eq_false (by omega)
        clear c18
        (first | rw [c18b0] | (simp only [i64_w, i32_w]; rw [c18b0]) | skip)
        have H' := Aside0.mk H
        clear H
        obtain ⟨Ao37, co37, eo37⟩ := Kd.R_slice HO472.out
        subst eo37
        go_wp2
        go_meet
        case rel => exact ⟨_, (false), (by first | rfl | (simp; done) | (simp [*]; done)), H', ⟨by first | omega | exact Nat.le_refl _⟩, ⟨by (with_reducible repeat (first | apply Kd.R_alloc | apply Kd.R_drewN | apply Kd.R_drew)); exact HO466.out⟩, ⟨by (with_reducible repeat (first | apply Kd.R_alloc | apply Kd.R_drewN | apply Kd.R_drew)); exact Kd.R_mono HO469.out (fun _ hk => hk.2)⟩, ⟨by (with_reducible repeat (first | apply Kd.R_alloc | apply Kd.R_drewN | apply Kd.R_drew)); exact Kd.R_mono HO472.out (fun _ hk => hk.2)⟩, ⟨by repeat (first | (with_reducible first | exact HB.out | apply below_alloc | apply pw_below_drewN | apply below_drew1) | exact HB.out)⟩⟩
    case rest =>
      clear HC11
      try clear c1
      try clear c2
      try clear p2
      try clear c6
      try clear p6
      try clear c10
      try clear c13
      try clear c14
      try clear c15
      try clear c18
      try clear c18b0
      try clear c18b1
      try clear c19
      try clear c19b0
      try clear c19b1
      try clear c20
      try clear c21
      try clear c24
      try clear c24b0
      try clear c24b1
      try clear c24b2
      try clear c26
      try clear c26b0
      try clear c26b1
      try clear c26b2
      obtain ⟨kq, x59_10, rfl, HA, HJ10, HO_9, HO_10, HO_11, HB⟩ := hcut
      cases kq with
      | zero => exact absurd HA.out (by simp [canopylaw1_WordParts.j0])
      | succ kj10 =>
        have H := HA.out
        clear HA
        simp only [canopylaw1_WordParts.j0] at H
        by_cases c38 : x59_10 = true
        · subst c38
          have H1 : (some false) = some r := by rw [if_pos rfl] at H; exact H
          clear H
          have H := H1
          clear H1
          obtain rfl := Option.some.inj H
          go_wp2
          go_ret
          exact ⟨by first | rfl | (simp [errW_none, errW_some] <;> rfl) | (simp [*, errW_none, errW_some] <;> rfl), by repeat (first | (with_reducible first | exact HB.out | apply below_alloc | apply pw_below_drewN | apply below_drew1) | exact HB.out)⟩
        · replace c38 := Bool.eq_false_iff.mpr c38
          subst c38
          have H1 : ((word_Whole.f kj10 t464 t470).bind fun t486 => (if t486 = true then ((word_Match.f kj10 t464 t467).bind fun t487 => ((some (([] : List Int) : List Int)).bind fun y490 => (if 0 ≤ t473 then (if t473 ≤ (t467.length : Int) then ((some (t467.take (t473 : Int).toNat : List Int)).bind fun y493 => (if y490.length + y493.length < 17592186044416 then ((some (y490 ++ y493 : List Int)).bind fun y497 => (if y497.length + t470.length < 17592186044416 then ((some (y497 ++ t470 : List Int)).bind fun y500 => ((some (t467.drop (t473 : Int).toNat : List Int)).bind fun y503 => (if y500.length + y503.length < 17592186044416 then ((word_Match.f kj10 t464 (y500 ++ y503)).bind fun t510 => (if (t487.length : Int) = (t467.length : Int) then (canopylaw1_WordParts.j1 kj10 t467 t470 t473 t487 t510 ((t510.length : Int) != (wrap64 ((t467.length : Int) + (t470.length : Int))))) else (canopylaw1_WordParts.j1 kj10 t467 t470 t473 t487 t510 true))) else (none)))) else (none))) else (none))) else (none)) else (none)))) else (some true))) = some r := by rw [if_neg (show ¬ (false = true) by decide)] at H; exact H
          clear H
          have H := H1
          clear H1
          replace H := Option.bind_eq_some_iff.mp H
          obtain ⟨t486, A390, H⟩ := H
          replace H : (if t486 = true then ((word_Match.f kj10 t464 t467).bind fun t487 => ((some (([] : List Int) : List Int)).bind fun y490 => (if 0 ≤ t473 then (if t473 ≤ (t467.length : Int) then ((some (t467.take (t473 : Int).toNat : List Int)).bind fun y493 => (if y490.length + y493.length < 17592186044416 then ((some (y490 ++ y493 : List Int)).bind fun y497 => (if y497.length + t470.length < 17592186044416 then ((some (y497 ++ t470 : List Int)).bind fun y500 => ((some (t467.drop (t473 : Int).toNat : List Int)).bind fun y503 => (if y500.length + y503.length < 17592186044416 then ((word_Match.f kj10 t464 (y500 ++ y503)).bind fun t510 => (if (t487.length : Int) = (t467.length : Int) then (canopylaw1_WordParts.j1 kj10 t467 t470 t473 t487 t510 ((t510.length : Int) != (wrap64 ((t467.length : Int) + (t470.length : Int))))) else (canopylaw1_WordParts.j1 kj10 t467 t470 t473 t487 t510 true))) else (none)))) else (none))) else (none))) else (none)) else (none)))) else (some true)) = some r := H
          have A39 := Aside0.mk A390
          clear A390
          by_cases c40 : t486 = true
          · subst c40
            have H1 : ((word_Match.f kj10 t464 t467).bind fun t487 => ((some (([] : List Int) : List Int)).bind fun y490 => (if 0 ≤ t473 then (if t473 ≤ (t467.length : Int) then ((some (t467.take (t473 : Int).toNat : List Int)).bind fun y493 => (if y490.length + y493.length < 17592186044416 then ((some (y490 ++ y493 : List Int)).bind fun y497 => (if y497.length + t470.length < 17592186044416 then ((some (y497 ++ t470 : List Int)).bind fun y500 => ((some (t467.drop (t473 : Int).toNat : List Int)).bind fun y503 => (if y500.length + y503.length < 17592186044416 then ((word_Match.f kj10 t464 (y500 ++ y503)).bind fun t510 => (if (t487.length : Int) = (t467.length : Int) then (canopylaw1_WordParts.j1 kj10 t467 t470 t473 t487 t510 ((t510.length : Int) != (wrap64 ((t467.length : Int) + (t470.length : Int))))) else (canopylaw1_WordParts.j1 kj10 t467 t470 t473 t487 t510 true))) else (none)))) else (none))) else (none))) else (none)) else (none)))) = some r := by rw [if_pos rfl] at H; exact H
            clear H
            have H := H1
            clear H1
            replace H := Option.bind_eq_some_iff.mp H
            obtain ⟨t487, A410, H⟩ := H
            replace H : ((some (([] : List Int) : List Int)).bind fun y490 => (if 0 ≤ t473 then (if t473 ≤ (t467.length : Int) then ((some (t467.take (t473 : Int).toNat : List Int)).bind fun y493 => (if y490.length + y493.length < 17592186044416 then ((some (y490 ++ y493 : List Int)).bind fun y497 => (if y497.length + t470.length < 17592186044416 then ((some (y497 ++ t470 : List Int)).bind fun y500 => ((some (t467.drop (t473 : Int).toNat : List Int)).bind fun y503 => (if y500.length + y503.length < 17592186044416 then ((word_Match.f kj10 t464 (y500 ++ y503)).bind fun t510 => (if (t487.length : Int) = (t467.length : Int) then (canopylaw1_WordParts.j1 kj10 t467 t470 t473 t487 t510 ((t510.length : Int) != (wrap64 ((t467.length : Int) + (t470.length : Int))))) else (canopylaw1_WordParts.j1 kj10 t467 t470 t473 t487 t510 true))) else (none)))) else (none))) else (none))) else (none)) else (none))) = some r := H
            have A41 := Aside0.mk A410
            clear A410
            obtain ⟨y490, hy490⟩ : ∃ y_ : List Int, y_ = (([] : List Int)) := ⟨_, rfl⟩
            replace H : (if 0 ≤ t473 then (if t473 ≤ (t467.length : Int) then ((some (t467.take (t473 : Int).toNat : List Int)).bind fun y493 => (if y490.length + y493.length < 17592186044416 then ((some (y490 ++ y493 : List Int)).bind fun y497 => (if y497.length + t470.length < 17592186044416 then ((some (y497 ++ t470 : List Int)).bind fun y500 => ((some (t467.drop (t473 : Int).toNat : List Int)).bind fun y503 => (if y500.length + y503.length < 17592186044416 then ((word_Match.f kj10 t464 (y500 ++ y503)).bind fun t510 => (if (t487.length : Int) = (t467.length : Int) then (canopylaw1_WordParts.j1 kj10 t467 t470 t473 t487 t510 ((t510.length : Int) != (wrap64 ((t467.length : Int) + (t470.length : Int))))) else (canopylaw1_WordParts.j1 kj10 t467 t470 t473 t487 t510 true))) else (none)))) else (none))) else (none))) else (none)) else (none)) = some r := by first | (rw [hy490]; with_reducible exact H) | (have H2_ := (Option.bind_some _ _).symm.trans H; rw [hy490]; with_reducible exact H2_) | (have H2_ := (Option.bind_some _ _).symm.trans H; with_reducible exact H2_) | with_reducible exact H | (rw [hy490]; exact H) | exact H
            have Ny490 := Aside0.mk hy490
            clear hy490
            by_cases c42 : 0 ≤ t473
            · rw [if_pos c42] at H
              have c42b0 := eq_true c42
              have c42b1 : decide (0 ≤ t473) = true := decide_eq_true c42
              clear c42
              by_cases c43 : t473 ≤ (t467.length : Int)
              · rw [if_pos c43] at H
                have c43b0 := eq_true c43
                have c43b1 : decide (t473 ≤ (t467.length : Int)) = true := decide_eq_true c43
                clear c43
                obtain ⟨y493, hy493⟩ : ∃ y_ : List Int, y_ = (t467.take (t473 : Int).toNat) := ⟨_, rfl⟩
                replace H : (if y490.length + y493.length < 17592186044416 then ((some (y490 ++ y493 : List Int)).bind fun y497 => (if y497.length + t470.length < 17592186044416 then ((some (y497 ++ t470 : List Int)).bind fun y500 => ((some (t467.drop (t473 : Int).toNat : List Int)).bind fun y503 => (if y500.length + y503.length < 17592186044416 then ((word_Match.f kj10 t464 (y500 ++ y503)).bind fun t510 => (if (t487.length : Int) = (t467.length : Int) then (canopylaw1_WordParts.j1 kj10 t467 t470 t473 t487 t510 ((t510.length : Int) != (wrap64 ((t467.length : Int) + (t470.length : Int))))) else (canopylaw1_WordParts.j1 kj10 t467 t470 t473 t487 t510 true))) else (none)))) else (none))) else (none)) = some r := by first | (rw [hy493]; with_reducible exact H) | (have H2_ := (Option.bind_some _ _).symm.trans H; rw [hy493]; with_reducible exact H2_) | (have H2_ := (Option.bind_some _ _).symm.trans H; with_reducible exact H2_) | with_reducible exact H | (rw [hy493]; exact H) | exact H
                have Ny493 := Aside0.mk hy493
                clear hy493
                by_cases c44 : y490.length + y493.length < 17592186044416
                · rw [if_pos c44] at H
                  have LMc44 := Aside0.mk c44
                  clear c44
                  obtain ⟨y497, hy497⟩ : ∃ y_ : List Int, y_ = (y490 ++ y493) := ⟨_, rfl⟩
                  replace H : (if y497.length + t470.length < 17592186044416 then ((some (y497 ++ t470 : List Int)).bind fun y500 => ((some (t467.drop (t473 : Int).toNat : List Int)).bind fun y503 => (if y500.length + y503.length < 17592186044416 then ((word_Match.f kj10 t464 (y500 ++ y503)).bind fun t510 => (if (t487.length : Int) = (t467.length : Int) then (canopylaw1_WordParts.j1 kj10 t467 t470 t473 t487 t510 ((t510.length : Int) != (wrap64 ((t467.length : Int) + (t470.length : Int))))) else (canopylaw1_WordParts.j1 kj10 t467 t470 t473 t487 t510 true))) else (none)))) else (none)) = some r := by first | (rw [hy497]; with_reducible exact H) | (have H2_ := (Option.bind_some _ _).symm.trans H; rw [hy497]; with_reducible exact H2_) | (have H2_ := (Option.bind_some _ _).symm.trans H; with_reducible exact H2_) | with_reducible exact H | (rw [hy497]; exact H) | exact H
                  have Ny497 := Aside0.mk hy497
                  clear hy497
                  by_cases c45 : y497.length + t470.length < 17592186044416
                  · rw [if_pos c45] at H
                    have LMc45 := Aside0.mk c45
                    clear c45
                    obtain ⟨y500, hy500⟩ : ∃ y_ : List Int, y_ = (y497 ++ t470) := ⟨_, rfl⟩
                    replace H : ((some (t467.drop (t473 : Int).toNat : List Int)).bind fun y503 => (if y500.length + y503.length < 17592186044416 then ((word_Match.f kj10 t464 (y500 ++ y503)).bind fun t510 => (if (t487.length : Int) = (t467.length : Int) then (canopylaw1_WordParts.j1 kj10 t467 t470 t473 t487 t510 ((t510.length : Int) != (wrap64 ((t467.length : Int) + (t470.length : Int))))) else (canopylaw1_WordParts.j1 kj10 t467 t470 t473 t487 t510 true))) else (none))) = some r := by first | (rw [hy500]; with_reducible exact H) | (have H2_ := (Option.bind_some _ _).symm.trans H; rw [hy500]; with_reducible exact H2_) | (have H2_ := (Option.bind_some _ _).symm.trans H; with_reducible exact H2_) | with_reducible exact H | (rw [hy500]; exact H) | exact H
                    have Ny500 := Aside0.mk hy500
                    clear hy500
                    have c46b0 := eq_true (of_decide_eq_true (by first | (with_reducible assumption) | assumption) : 0 ≤ t473)
                    have c47b0 := eq_true (of_decide_eq_true (by first | (with_reducible assumption) | assumption) : t473 ≤ (t467.length : Int))
                    obtain ⟨y503, hy503⟩ : ∃ y_ : List Int, y_ = (t467.drop (t473 : Int).toNat) := ⟨_, rfl⟩
                    replace H : (if y500.length + y503.length < 17592186044416 then ((word_Match.f kj10 t464 (y500 ++ y503)).bind fun t510 => (if (t487.length : Int) = (t467.length : Int) then (canopylaw1_WordParts.j1 kj10 t467 t470 t473 t487 t510 ((t510.length : Int) != (wrap64 ((t467.length : Int) + (t470.length : Int))))) else (canopylaw1_WordParts.j1 kj10 t467 t470 t473 t487 t510 true))) else (none)) = some r := by first | (rw [hy503]; with_reducible exact H) | (have H2_ := (Option.bind_some _ _).symm.trans H; rw [hy503]; with_reducible exact H2_) | (have H2_ := (Option.bind_some _ _).symm.trans H; with_reducible exact H2_) | with_reducible exact H | (rw [hy503]; exact H) | exact H
                    have Ny503 := Aside0.mk hy503
                    clear hy503
                    by_cases c48 : y500.length + y503.length < 17592186044416
                    · rw [if_pos c48] at H
                      have LMc48 := Aside0.mk c48
                      clear c48
                      obtain ⟨y507, hy507⟩ : ∃ y_ : List Int, y_ = (y500 ++ y503) := ⟨_, rfl⟩
                      replace H : ((word_Match.f kj10 t464 y507).bind fun t510 => (if (t487.length : Int) = (t467.length : Int) then (canopylaw1_WordParts.j1 kj10 t467 t470 t473 t487 t510 ((t510.length : Int) != (wrap64 ((t467.length : Int) + (t470.length : Int))))) else (canopylaw1_WordParts.j1 kj10 t467 t470 t473 t487 t510 true))) = some r := by first | (rw [hy507]; with_reducible exact H) | (have H2_ := (Option.bind_some _ _).symm.trans H; rw [hy507]; with_reducible exact H2_) | (have H2_ := (Option.bind_some _ _).symm.trans H; with_reducible exact H2_) | with_reducible exact H | (rw [hy507]; exact H) | exact H
                      have Ny507 := Aside0.mk hy507
                      clear hy507
                      replace H := Option.bind_eq_some_iff.mp H
                      obtain ⟨t510, A490, H⟩ := H
                      replace H : (if (t487.length : Int) = (t467.length : Int) then (canopylaw1_WordParts.j1 kj10 t467 t470 t473 t487 t510 ((t510.length : Int) != (wrap64 ((t467.length : Int) + (t470.length : Int))))) else (canopylaw1_WordParts.j1 kj10 t467 t470 t473 t487 t510 true)) = some r := H
                      have A49 := Aside0.mk A490
                      clear A490
                      have HC50 := Aside0.mk H
                      clear H
                      obtain ⟨Ao51, co51, eo51⟩ := Kd.R_slice HO_11.out
                      subst eo51
                      try go_wp2_with (first | ((with_reducible refine gate_callee (f := 29) rfl ?_); refine goesL_ (some 62) rfl rfl Try.func29 (by kernel_rfl) rfl #[.slice Ao14 t464.length co14, .slice Ao51 t470.length co51] rfl (by (try simp only [List.map_toArray, List.map_cons, List.map_nil]); first | done | rfl | (simp only [List.length_drop, List.length_take]; rfl)) ?_; (with_reducible refine (word_Whole.calls kj10 _ _ t464 _ _ t470 true _ ?side1 ?side2 ?side3 ?side4 A39.out).mono ?_); (case side1 => repeat (first | exact (Kd.R_reads' HO_9.out).2.2 | (with_reducible refine Kd.C_alloc ?_ _) | (with_reducible refine Kd.C_drewN ?_ _) | (with_reducible refine Kd.C_drew ?_))); (case side2 => exact (Kd.R_reads' HO_9.out).2.1); (case side3 => repeat (first | exact (Kd.R_reads' HO_11.out).2.2 | (with_reducible refine Kd.C_alloc ?_ _) | (with_reducible refine Kd.C_drewN ?_ _) | (with_reducible refine Kd.C_drew ?_))); (case side4 => exact (Kd.R_reads' HO_11.out).2.1); rintro e w52 ⟨rfl, hb⟩; refine ⟨_, rfl, ?_⟩; have n0_ := Aside0.mk (Kd.R_below (by (with_reducible repeat (first | apply Kd.R_alloc | apply Kd.R_drewN | apply Kd.R_drew)); exact HO_9.out) hb); have n1_ := Aside0.mk (Kd.R_below (by (with_reducible repeat (first | apply Kd.R_alloc | apply Kd.R_drewN | apply Kd.R_drew)); exact HO_10.out) hb); have n2_ := Aside0.mk (Kd.R_below (by (with_reducible repeat (first | apply Kd.R_alloc | apply Kd.R_drewN | apply Kd.R_drew)); exact HO_11.out) hb); have n3_ := Aside0.mk (below_step (by repeat (first | (with_reducible first | exact HB.out | apply below_alloc | apply pw_below_drewN | apply below_drew1) | exact HB.out)) hb); clear HO_9; clear HO_10; clear HO_11; clear HB; have HO_9 := n0_; have HO_10 := n1_; have HO_11 := n2_; have HB := n3_; clear n0_ n1_ n2_ n3_; (try clear hb); (try clear hb2); (try clear hk); (try clear hi)))
                      have n0_ := Aside0.mk (Kd.R_drew HO_9.out)
                      have n1_ := Aside0.mk (Kd.R_drew HO_10.out)
                      have n2_ := Aside0.mk (Kd.R_drew HO_11.out)
                      have n3_ := Aside0.mk (below_drew1 HB.out)
                      clear HO_9
                      clear HO_10
                      clear HO_11
                      clear HB
                      have HO_9 := n0_
                      have HO_10 := n1_
                      have HO_11 := n2_
                      have HB := n3_
                      clear n0_ n1_ n2_ n3_
                      have q54 : (t473 : Int) ≤ ((t467.length : Int) : Int) := of_decide_eq_true (by first | (with_reducible assumption) | assumption)
                      obtain ⟨i054, hi054, _, hsz54, _⟩ := info_parts info3
                      have hroom54 : t467.length ≤ co17 := (Kd.R_reads' HO_10.out).2.1
                      have hC54 : Kd.C (Kd.int .i64) _ Ao17 t467.length t467 := (Kd.R_reads' HO_10.out).2.2
                      have hcut54 := cut_to (P := Try.prog) 22 3 .i64 Try.underlying22 hi054 Ao17 t467.length co17 t473 (of_decide_eq_true (by first | (with_reducible assumption) | assumption)) q54 hroom54
                      have hr54 := Kd.C_take (m := (t473 : Int).toNat) hC54 (by omega)
                      have hy54 : y493.length = (t473 : Int).toNat := (by rw [Ny493.out, List.length_take]; omega)
                      rw [← Ny493.out] at hr54
                      rw [← hy54] at hcut54
                      have HR496 := Aside0.mk hr54
                      have HC496 := Aside0.mk (show y493.length ≤ co17 from by omega)
                      clear hr54 hC54 hroom54 hi054 hsz54
                      have KY54 := Aside0.mk hy54
                      clear hy54
                      have KL54 := Aside0.mk (show (t473 : Int).toNat ≤ t467.length from by omega)
                      replace q54 := eq_true q54
                      have q55 : (t473 : Int) ≤ ((t467.length : Int) : Int) := of_decide_eq_true (by first | (with_reducible assumption) | assumption)
                      obtain ⟨i055, hi055, _, hsz55, _⟩ := info_parts info3
                      have hroom55 : t467.length ≤ co17 := (Kd.R_reads' HO_10.out).2.1
                      have hC55 : Kd.C (Kd.int .i64) _ Ao17 t467.length t467 := (Kd.R_reads' HO_10.out).2.2
                      have q055 : (0 : Int) ≤ (t473 : Int) := of_decide_eq_true (by first | (with_reducible assumption) | assumption)
                      have hcut55 := cut_from (P := Try.prog) 22 3 .i64 Try.underlying22 hi055 1 hsz55 Ao17 t467.length co17 t473 q055 q55
                      have hr55 := Kd.C_drop (m := (t473 : Int).toNat) (c := co17) hC55 (by omega) hroom55
                      obtain ⟨A55, hA55⟩ : ∃ A1, A1 = (if co17 = (t473 : Int).toNat then Ao17 else (Ao17 : Option Addr).map (·.add ((t473 : Int).toNat * 1))) := ⟨_, rfl⟩
                      obtain ⟨c55, hc55⟩ : ∃ c1, c1 = co17 - (t473 : Int).toNat := ⟨_, rfl⟩
                      have hy55 : y503.length = t467.length - (t473 : Int).toNat := (by rw [Ny503.out, List.length_drop] <;> omega)
                      rw [show (t467).drop (t473 : Int).toNat = y503 from Ny503.out.symm] at hr55
                      replace hr55 : Kd.C (Kd.int .i64) _ A55 y503.length y503 := (by rw [hA55]; exact hr55)
                      rw [← hy55, ← hA55, ← hc55] at hcut55
                      have HR506 := Aside0.mk hr55
                      have HC506 := Aside0.mk (show y503.length ≤ c55 from by rw [hy55, hc55]; exact Nat.sub_le_sub_right hroom55 _)
                      clear hr55 hC55 hroom55 hi055 hsz55 hc55
                      have KY55 := Aside0.mk hy55
                      have KA55 := Aside0.mk hA55
                      clear hy55 hA55
                      have KL55 := Aside0.mk (show (t473 : Int).toNat ≤ t467.length from by omega)
                      replace q55 := eq_true q55
                      refine start_ (n := 18) (S := fun w' => True) (ds := []) #[false, false, false, false, false, false, false, false, false, false, false, false, false, false, false, false, false, false] (by kernel_rfl) rfl rfl trivial (fun hHeld => ?_); refine with_tabW canopylaw1_WordParts.tab10 canopylaw1_WordParts.bits10 (fun HT_ HW_ => ?_)
                      generalize w52.drew = w53 at HO_9 HO_10 HO_11 HB HR496 HR506 hHeld ⊢
                      refine pure_ (i := 0) (N := some 64) (v := ?_) (a' := ?_) #[true, false, false, false, false, false, false, false, false, false, false, false, false, false, false, false, false, false] rfl rfl (any_of HT_.out (by kernel_rfl)) (fun _ _ _ h => h) (Or.inl ⟨by rfl, ?_⟩) ?_ ?_
                      rotate_left
                      · intro w'
                        go_simp
                        with_reducible rfl
                      rotate_left
                      · simp only [Act.put, List.setIfInBounds_toArray, List.set_cons_zero, List.set_cons_succ, i64_w, i32_w]
                        rfl
                      refine pure_ (i := 1) (N := some 65) (v := ?_) (a' := ?_) #[true, true, false, false, false, false, false, false, false, false, false, false, false, false, false, false, false, false] rfl rfl (any_of HT_.out (by kernel_rfl)) (fun _ _ _ h => h) (Or.inl ⟨by rfl, ?_⟩) ?_ ?_
                      rotate_left
                      · intro w'
                        go_simp
                        with_reducible rfl
                      rotate_left
                      · simp only [Act.put, List.setIfInBounds_toArray, List.set_cons_zero, List.set_cons_succ, i64_w, i32_w]
                        rfl
                      refine pure_ (i := 3) (N := some 67) (v := ?_) (a' := ?_) #[true, true, false, true, false, false, false, false, false, false, false, false, false, false, false, false, false, false] rfl rfl (any_of HT_.out (by kernel_rfl)) (fun _ _ _ h => h) (Or.inl ⟨by rfl, ?_⟩) ?_ ?_
                      rotate_left
                      · intro w'
                        go_simp
                        with_reducible rfl
                      rotate_left
                      · simp only [Act.put, List.setIfInBounds_toArray, List.set_cons_zero, List.set_cons_succ, i64_w, i32_w]
                        rfl
                      refine pure_ (i := 5) (N := some 69) (v := ?_) (a' := ?_) #[true, true, false, true, false, true, false, false, false, false, false, false, false, false, false, false, false, false] rfl rfl (any_of HT_.out (by kernel_rfl)) (fun _ _ _ h => h) (Or.inl ⟨by rfl, ?_⟩) ?_ ?_
                      rotate_left
                      · intro w'
                        go_simp
                        with_reducible rfl
                      rotate_left
                      · simp only [Act.put, List.setIfInBounds_toArray, List.set_cons_zero, List.set_cons_succ, i64_w, i32_w]
                        rfl
                      refine pure_ (i := 6) (N := some 70) (v := ?_) (a' := ?_) #[true, true, false, true, false, true, true, false, false, false, false, false, false, false, false, false, false, false] rfl rfl (any_of HT_.out (by kernel_rfl)) (fun _ _ _ h => h) (Or.inl ⟨by rfl, ?_⟩) ?_ ?_
                      rotate_left
                      · intro w'
                        go_simp
                        with_reducible rfl
                      rotate_left
                      · simp only [Act.put, List.setIfInBounds_toArray, List.set_cons_zero, List.set_cons_succ, i64_w, i32_w]
                        rfl
                      refine pure_ (i := 7) (N := some 71) (v := ?_) (a' := ?_) #[true, true, false, true, false, true, true, true, false, false, false, false, false, false, false, false, false, false] rfl rfl (any_of HT_.out (by kernel_rfl)) (fun _ _ _ h => h) (Or.inl ⟨by rfl, ?_⟩) ?_ ?_
                      rotate_left
                      · intro w'
                        go_simp
                        with_reducible rfl
                      rotate_left
                      · simp only [Act.put, List.setIfInBounds_toArray, List.set_cons_zero, List.set_cons_succ, i64_w, i32_w]
                        rfl
                      refine pure_ (i := 9) (N := some 73) (v := ?_) (a' := ?_) #[true, true, false, true, false, true, true, true, false, true, false, false, false, false, false, false, false, false] rfl rfl (any_of HT_.out (by kernel_rfl)) (fun _ _ _ h => h) (Or.inl ⟨by rfl, ?_⟩) ?_ ?_
                      rotate_left
                      · intro w'
                        go_simp
                        with_reducible rfl
                      rotate_left
                      · simp only [Act.put, List.setIfInBounds_toArray, List.set_cons_zero, List.set_cons_succ, i64_w, i32_w]
                        rfl
                      refine pure_ (i := 11) (N := some 75) (v := ?_) (a' := ?_) #[true, true, false, true, false, true, true, true, false, true, false, true, false, false, false, false, false, false] rfl rfl (any_of HT_.out (by kernel_rfl)) (fun _ _ _ h => h) (Or.inl ⟨by rfl, ?_⟩) ?_ ?_
                      rotate_left
                      · intro w'
                        go_simp
                        with_reducible rfl
                      rotate_left
                      · simp only [Act.put, List.setIfInBounds_toArray, List.set_cons_zero, List.set_cons_succ, i64_w, i32_w]
                        rfl
                      refine pure_ (i := 12) (N := some 76) (v := ?_) (a' := ?_) #[true, true, false, true, false, true, true, true, false, true, false, true, true, false, false, false, false, false] rfl rfl (any_of HT_.out (by kernel_rfl)) (fun _ _ _ h => h) (Or.inl ⟨by rfl, ?_⟩) ?_ ?_
                      rotate_left
                      · intro w'
                        go_simp
                        with_reducible rfl
                      rotate_left
                      · simp only [Act.put, List.setIfInBounds_toArray, List.set_cons_zero, List.set_cons_succ, i64_w, i32_w]
                        rfl
                      refine pure_ (i := 13) (N := some 77) (v := ?_) (a' := ?_) #[true, true, false, true, false, true, true, true, false, true, false, true, true, true, false, false, false, false] rfl rfl (any_of HT_.out (by kernel_rfl)) (fun _ _ _ h => h) (Or.inl ⟨by rfl, ?_⟩) ?_ ?_
                      rotate_left
                      · intro w'
                        go_simp
                        with_reducible rfl
                      rotate_left
                      · simp only [Act.put, List.setIfInBounds_toArray, List.set_cons_zero, List.set_cons_succ, i64_w, i32_w]
                        rfl
                      refine join_ (σ := Value × Value) 6 #[true, true, true, true, true, true, true, true, false, true, false, true, true, true, false, false, false, false] (fun s_ => [(66, s_.1), (68, s_.2)]) (fun s_ w' => (Kd.R (Kd.int .i64) 3 w' w.heap.size (fun k_ => some k_ ≠ (s_.2 : Value).ownBlock ∧ some k_ ≠ (.slice Ao17 t467.length co17 : Value).ownBlock ∧ some k_ ≠ (.slice Ao51 t470.length co51 : Value).ownBlock) s_.1 t487) ∧ (Kd.R (Kd.int .i64) 3 w' w.heap.size (fun k_ => some k_ ≠ (s_.1 : Value).ownBlock ∧ some k_ ≠ (.slice Ao17 t467.length co17 : Value).ownBlock ∧ some k_ ≠ (.slice Ao51 t470.length co51 : Value).ownBlock) s_.2 y490) ∧ (Kd.R (Kd.int .i64) 3 w' w.heap.size (fun k_ => some k_ ≠ (s_.1 : Value).ownBlock ∧ some k_ ≠ (s_.2 : Value).ownBlock ∧ some k_ ≠ (.slice Ao51 t470.length co51 : Value).ownBlock) (.slice Ao17 t467.length co17) t467) ∧ (Kd.R (Kd.int .i64) 3 w' w.heap.size (fun k_ => some k_ ≠ (s_.1 : Value).ownBlock ∧ some k_ ≠ (s_.2 : Value).ownBlock ∧ some k_ ≠ (.slice Ao17 t467.length co17 : Value).ownBlock) (.slice Ao51 t470.length co51) t470) ∧ (Kd.R k40 40 w' w.heap.size (fun _ => True) (.slice Ao14 t464.length co14) t464) ∧ (Below w.heap.size w w')) ?_ ?_
                      rotate_left
                      · intro hCont
                        refine two_ (i := 2) (j := 4) (Ni := some 66) (Nj := some 68) #[true, true, true, true, false, true, true, true, false, true, false, true, true, true, false, false, false, false] #[true, true, false, true, true, true, true, true, false, true, false, true, true, true, false, false, false, false] rfl rfl rfl rfl (two_of HT_.out (by kernel_rfl)) (by decide) (by decide) (fun K hK => ?_) (fun K hK => ?_)
                        · skip
                          refine goes_ Try.func25 (by kernel_rfl) rfl #[.slice Ao14 t464.length co14, .slice Ao17 t467.length co17] (by rfl) rfl rfl (by (try simp only [List.map_toArray, List.map_cons, List.map_nil]); first | done | rfl | (simp only [List.length_drop, List.length_take]; rfl)) ?_
                          with_reducible refine (word_Match.calls kj10 _ _ t464 _ _ t467 t487 _ ?side1 ?side2 ?side3 ?side4 A41.out).mono ?_
                          (case side1 => repeat (first | exact (Kd.R_reads' HO_9.out).2.2 | (with_reducible refine Kd.C_alloc ?_ _) | (with_reducible refine Kd.C_drewN ?_ _) | (with_reducible refine Kd.C_drew ?_)))
                          (case side2 => exact (Kd.R_reads' HO_9.out).2.1)
                          (case side3 => repeat (first | exact (Kd.R_reads' HO_10.out).2.2 | (with_reducible refine Kd.C_alloc ?_ _) | (with_reducible refine Kd.C_drewN ?_ _) | (with_reducible refine Kd.C_drew ?_)))
                          (case side4 => exact (Kd.R_reads' HO_10.out).2.1)
                          rintro e w56 ⟨v488, rfl, ho0, hb⟩
                          refine ⟨_, rfl, ?_⟩
                          have n0_ := Aside0.mk (Kd.R_below (by (with_reducible repeat (first | apply Kd.R_alloc | apply Kd.R_drewN | apply Kd.R_drew)); exact HO_9.out) hb)
                          have n1_ := Aside0.mk (Kd.R_elder' (by (with_reducible repeat (first | apply Kd.R_alloc | apply Kd.R_drewN | apply Kd.R_drew)); exact HO_10.out) (Kd.R_base ho0) hb)
                          have n2_ := Aside0.mk (Kd.R_elder' (by (with_reducible repeat (first | apply Kd.R_alloc | apply Kd.R_drewN | apply Kd.R_drew)); exact HO_11.out) (Kd.R_base ho0) hb)
                          have n3_ := Aside0.mk (Kd.R_lower (Kd.R_new' (Kd.R_new' ho0 (Kd.R_lt (by (with_reducible repeat (first | apply Kd.R_alloc | apply Kd.R_drewN | apply Kd.R_drew)); exact HO_10.out))) (Kd.R_lt (by (with_reducible repeat (first | apply Kd.R_alloc | apply Kd.R_drewN | apply Kd.R_drew)); exact HO_11.out))) (below_size (by repeat (first | (with_reducible first | exact HB.out | apply below_alloc | apply pw_below_drewN | apply below_drew1) | exact HB.out))))
                          have n4_ := Aside0.mk (Kd.C_below (by repeat (first | (with_reducible exact HR496.out) | (with_reducible refine Kd.C_alloc ?_ _) | (with_reducible refine Kd.C_drewN ?_ _) | (with_reducible refine Kd.C_drew ?_) | exact HR496.out)) hb)
                          have n5_ := Aside0.mk (Kd.C_below (by repeat (first | (with_reducible exact HR506.out) | (with_reducible refine Kd.C_alloc ?_ _) | (with_reducible refine Kd.C_drewN ?_ _) | (with_reducible refine Kd.C_drew ?_) | exact HR506.out)) hb)
                          have n6_ := Aside0.mk (below_step (by repeat (first | (with_reducible first | exact HB.out | apply below_alloc | apply pw_below_drewN | apply below_drew1) | exact HB.out)) hb)
                          clear HO_9
                          clear HO_10
                          clear HO_11
                          clear HR496
                          clear HR506
                          clear HB
                          have HO_9 := n0_
                          have HO_10 := n1_
                          have HO_11 := n2_
                          have HO489 := n3_
                          have HR496 := n4_
                          have HR506 := n5_
                          have HB := n6_
                          clear n0_ n1_ n2_ n3_ n4_ n5_ n6_
                          (try clear hb)
                          (try clear hb2)
                          (try clear hk)
                          (try clear hi)
                          (try clear ho0)
                          refine hK.out _ _ trivial (fun hHeld => ?_)
                          clear hK K
                          refine norm_ (a' := ?_) ?_ ?_
                          rotate_left
                          · show Act.put _ (some 66) _ = _
                            simp only [Act.put, List.setIfInBounds_toArray, List.set_cons_zero, List.set_cons_succ, i64_w, i32_w]
                            rfl
                          refine one_ (i := 4) (N := some 68) #[true, true, true, true, true, true, true, true, false, true, false, true, true, true, false, false, false, false] rfl rfl (one_of HT_.out (by kernel_rfl)) (by decide) (fun K hK => ?_)
                          refine Kd.R_lit_step (Kd.int .i64) _ 3 ?hg (N := 68) ?hd (xs := ([] : List Int)) (inner := []) (ok := fun _ => True) (okp := fun _ => True) ?hr ?hp (fun _ hk => hk) trivial (Below.refl _ _) (Nat.le_refl _) (by simp) ?_; (case hd => rfl); (case hg => rfl); (case hr => first | (go_simp; done) | (go_simp; rfl)); (case hp => exact (Reps.none _ _))
                          intro v491 w57 ho58 hb hg_ hnew_
                          clear hg_ hnew_
                          (first | rw [← Ny490.out] at ho58 | (simp only [Int.reduceToNat] at ho58; rw [← Ny490.out] at ho58))
                          have n0_ := Aside0.mk (Kd.R_below (by (with_reducible repeat (first | apply Kd.R_alloc | apply Kd.R_drewN | apply Kd.R_drew)); exact HO_9.out) hb)
                          have n1_ := Aside0.mk (Kd.R_elder' (by (with_reducible repeat (first | apply Kd.R_alloc | apply Kd.R_drewN | apply Kd.R_drew)); exact HO_10.out) (Kd.R_base ho58) hb)
                          have n2_ := Aside0.mk (Kd.R_elder' (by (with_reducible repeat (first | apply Kd.R_alloc | apply Kd.R_drewN | apply Kd.R_drew)); exact HO_11.out) (Kd.R_base ho58) hb)
                          have n3_ := Aside0.mk (Kd.R_elder' (by (with_reducible repeat (first | apply Kd.R_alloc | apply Kd.R_drewN | apply Kd.R_drew)); exact HO489.out) (Kd.R_base ho58) hb)
                          have n4_ := Aside0.mk (Kd.R_lower (Kd.R_new' (Kd.R_new' (Kd.R_new' ho58 (Kd.R_lt (by (with_reducible repeat (first | apply Kd.R_alloc | apply Kd.R_drewN | apply Kd.R_drew)); exact HO_10.out))) (Kd.R_lt (by (with_reducible repeat (first | apply Kd.R_alloc | apply Kd.R_drewN | apply Kd.R_drew)); exact HO_11.out))) (Kd.R_lt (by (with_reducible repeat (first | apply Kd.R_alloc | apply Kd.R_drewN | apply Kd.R_drew)); exact HO489.out))) (below_size (by repeat (first | (with_reducible first | exact HB.out | apply below_alloc | apply pw_below_drewN | apply below_drew1) | exact HB.out))))
                          have n5_ := Aside0.mk (Kd.C_below (by repeat (first | (with_reducible exact HR496.out) | (with_reducible refine Kd.C_alloc ?_ _) | (with_reducible refine Kd.C_drewN ?_ _) | (with_reducible refine Kd.C_drew ?_) | exact HR496.out)) hb)
                          have n6_ := Aside0.mk (Kd.C_below (by repeat (first | (with_reducible exact HR506.out) | (with_reducible refine Kd.C_alloc ?_ _) | (with_reducible refine Kd.C_drewN ?_ _) | (with_reducible refine Kd.C_drew ?_) | exact HR506.out)) hb)
                          have n7_ := Aside0.mk (below_step (by repeat (first | (with_reducible first | exact HB.out | apply below_alloc | apply pw_below_drewN | apply below_drew1) | exact HB.out)) hb)
                          clear HO_9
                          clear HO_10
                          clear HO_11
                          clear HO489
                          clear HR496
                          clear HR506
                          clear HB
                          have HO_9 := n0_
                          have HO_10 := n1_
                          have HO_11 := n2_
                          have HO489 := n3_
                          have HO492 := n4_
                          have HR496 := n5_
                          have HR506 := n6_
                          have HB := n7_
                          clear n0_ n1_ n2_ n3_ n4_ n5_ n6_ n7_
                          clear hb ho58
                          refine hK.out _ _ trivial (fun hHeld => ?_)
                          clear hK K
                          refine norm_ (a' := ?_) ?_ ?_
                          rotate_left
                          · show Act.put _ (some 68) _ = _
                            simp only [Act.put, List.setIfInBounds_toArray, List.set_cons_zero, List.set_cons_succ, i64_w, i32_w]
                            rfl
                          exact norm_ (by simp only [putAll, Act.put, List.setIfInBounds_toArray, List.set_cons_zero, List.set_cons_succ]) (hCont (v488, v491) _ ⟨(by (with_reducible repeat (first | apply Kd.R_alloc | apply Kd.R_drewN | apply Kd.R_drew)); exact Kd.R_mono HO489.out (fun _ hk => ⟨hk.2, ⟨hk.1.1.2, hk.1.2⟩⟩)), (by (with_reducible repeat (first | apply Kd.R_alloc | apply Kd.R_drewN | apply Kd.R_drew)); exact Kd.R_mono HO492.out (fun _ hk => ⟨hk.2, ⟨hk.1.1.2, hk.1.2⟩⟩)), (by (with_reducible repeat (first | apply Kd.R_alloc | apply Kd.R_drewN | apply Kd.R_drew)); exact Kd.R_mono HO_10.out (fun _ hk => ⟨hk.1.2, ⟨hk.2, hk.1.1⟩⟩)), (by (with_reducible repeat (first | apply Kd.R_alloc | apply Kd.R_drewN | apply Kd.R_drew)); exact Kd.R_mono HO_11.out (fun _ hk => ⟨hk.1.2, ⟨hk.2, hk.1.1⟩⟩)), (by (with_reducible repeat (first | apply Kd.R_alloc | apply Kd.R_drewN | apply Kd.R_drew)); exact HO_9.out), (by repeat (first | (with_reducible first | exact HB.out | apply below_alloc | apply pw_below_drewN | apply below_drew1) | exact HB.out))⟩)
                        · skip
                          refine Kd.R_lit_step (Kd.int .i64) _ 3 ?hg (N := 68) ?hd (xs := ([] : List Int)) (inner := []) (ok := fun _ => True) (okp := fun _ => True) ?hr ?hp (fun _ hk => hk) trivial (Below.refl _ _) (Nat.le_refl _) (by simp) ?_; (case hd => rfl); (case hg => rfl); (case hr => first | (go_simp; done) | (go_simp; rfl)); (case hp => exact (Reps.none _ _))
                          intro v491 w56 ho57 hb hg_ hnew_
                          clear hg_ hnew_
                          (first | rw [← Ny490.out] at ho57 | (simp only [Int.reduceToNat] at ho57; rw [← Ny490.out] at ho57))
                          have n0_ := Aside0.mk (Kd.R_below (by (with_reducible repeat (first | apply Kd.R_alloc | apply Kd.R_drewN | apply Kd.R_drew)); exact HO_9.out) hb)
                          have n1_ := Aside0.mk (Kd.R_elder' (by (with_reducible repeat (first | apply Kd.R_alloc | apply Kd.R_drewN | apply Kd.R_drew)); exact HO_10.out) (Kd.R_base ho57) hb)
                          have n2_ := Aside0.mk (Kd.R_elder' (by (with_reducible repeat (first | apply Kd.R_alloc | apply Kd.R_drewN | apply Kd.R_drew)); exact HO_11.out) (Kd.R_base ho57) hb)
                          have n3_ := Aside0.mk (Kd.R_lower (Kd.R_new' (Kd.R_new' ho57 (Kd.R_lt (by (with_reducible repeat (first | apply Kd.R_alloc | apply Kd.R_drewN | apply Kd.R_drew)); exact HO_10.out))) (Kd.R_lt (by (with_reducible repeat (first | apply Kd.R_alloc | apply Kd.R_drewN | apply Kd.R_drew)); exact HO_11.out))) (below_size (by repeat (first | (with_reducible first | exact HB.out | apply below_alloc | apply pw_below_drewN | apply below_drew1) | exact HB.out))))
                          have n4_ := Aside0.mk (Kd.C_below (by repeat (first | (with_reducible exact HR496.out) | (with_reducible refine Kd.C_alloc ?_ _) | (with_reducible refine Kd.C_drewN ?_ _) | (with_reducible refine Kd.C_drew ?_) | exact HR496.out)) hb)
                          have n5_ := Aside0.mk (Kd.C_below (by repeat (first | (with_reducible exact HR506.out) | (with_reducible refine Kd.C_alloc ?_ _) | (with_reducible refine Kd.C_drewN ?_ _) | (with_reducible refine Kd.C_drew ?_) | exact HR506.out)) hb)
                          have n6_ := Aside0.mk (below_step (by repeat (first | (with_reducible first | exact HB.out | apply below_alloc | apply pw_below_drewN | apply below_drew1) | exact HB.out)) hb)
                          clear HO_9
                          clear HO_10
                          clear HO_11
                          clear HR496
                          clear HR506
                          clear HB
                          have HO_9 := n0_
                          have HO_10 := n1_
                          have HO_11 := n2_
                          have HO492 := n3_
                          have HR496 := n4_
                          have HR506 := n5_
                          have HB := n6_
                          clear n0_ n1_ n2_ n3_ n4_ n5_ n6_
                          clear hb ho57
                          refine hK.out _ _ trivial (fun hHeld => ?_)
                          clear hK K
                          refine norm_ (a' := ?_) ?_ ?_
                          rotate_left
                          · show Act.put _ (some 68) _ = _
                            simp only [Act.put, List.setIfInBounds_toArray, List.set_cons_zero, List.set_cons_succ, i64_w, i32_w]
                            rfl
                          refine one_ (i := 2) (N := some 66) #[true, true, true, true, true, true, true, true, false, true, false, true, true, true, false, false, false, false] rfl rfl (one_of HT_.out (by kernel_rfl)) (by decide) (fun K hK => ?_)
                          refine goes_ Try.func25 (by kernel_rfl) rfl #[.slice Ao14 t464.length co14, .slice Ao17 t467.length co17] (by rfl) rfl rfl (by (try simp only [List.map_toArray, List.map_cons, List.map_nil]); first | done | rfl | (simp only [List.length_drop, List.length_take]; rfl)) ?_
                          with_reducible refine (word_Match.calls kj10 _ _ t464 _ _ t467 t487 _ ?side1 ?side2 ?side3 ?side4 A41.out).mono ?_
                          (case side1 => repeat (first | exact (Kd.R_reads' HO_9.out).2.2 | (with_reducible refine Kd.C_alloc ?_ _) | (with_reducible refine Kd.C_drewN ?_ _) | (with_reducible refine Kd.C_drew ?_)))
                          (case side2 => exact (Kd.R_reads' HO_9.out).2.1)
                          (case side3 => repeat (first | exact (Kd.R_reads' HO_10.out).2.2 | (with_reducible refine Kd.C_alloc ?_ _) | (with_reducible refine Kd.C_drewN ?_ _) | (with_reducible refine Kd.C_drew ?_)))
                          (case side4 => exact (Kd.R_reads' HO_10.out).2.1)
                          rintro e w58 ⟨v488, rfl, ho0, hb⟩
                          refine ⟨_, rfl, ?_⟩
                          have n0_ := Aside0.mk (Kd.R_below (by (with_reducible repeat (first | apply Kd.R_alloc | apply Kd.R_drewN | apply Kd.R_drew)); exact HO_9.out) hb)
                          have n1_ := Aside0.mk (Kd.R_elder' (by (with_reducible repeat (first | apply Kd.R_alloc | apply Kd.R_drewN | apply Kd.R_drew)); exact HO_10.out) (Kd.R_base ho0) hb)
                          have n2_ := Aside0.mk (Kd.R_elder' (by (with_reducible repeat (first | apply Kd.R_alloc | apply Kd.R_drewN | apply Kd.R_drew)); exact HO_11.out) (Kd.R_base ho0) hb)
                          have n3_ := Aside0.mk (Kd.R_elder' (by (with_reducible repeat (first | apply Kd.R_alloc | apply Kd.R_drewN | apply Kd.R_drew)); exact HO492.out) (Kd.R_base ho0) hb)
                          have n4_ := Aside0.mk (Kd.R_lower (Kd.R_new' (Kd.R_new' (Kd.R_new' ho0 (Kd.R_lt (by (with_reducible repeat (first | apply Kd.R_alloc | apply Kd.R_drewN | apply Kd.R_drew)); exact HO_10.out))) (Kd.R_lt (by (with_reducible repeat (first | apply Kd.R_alloc | apply Kd.R_drewN | apply Kd.R_drew)); exact HO_11.out))) (Kd.R_lt (by (with_reducible repeat (first | apply Kd.R_alloc | apply Kd.R_drewN | apply Kd.R_drew)); exact HO492.out))) (below_size (by repeat (first | (with_reducible first | exact HB.out | apply below_alloc | apply pw_below_drewN | apply below_drew1) | exact HB.out))))
                          have n5_ := Aside0.mk (Kd.C_below (by repeat (first | (with_reducible exact HR496.out) | (with_reducible refine Kd.C_alloc ?_ _) | (with_reducible refine Kd.C_drewN ?_ _) | (with_reducible refine Kd.C_drew ?_) | exact HR496.out)) hb)
                          have n6_ := Aside0.mk (Kd.C_below (by repeat (first | (with_reducible exact HR506.out) | (with_reducible refine Kd.C_alloc ?_ _) | (with_reducible refine Kd.C_drewN ?_ _) | (with_reducible refine Kd.C_drew ?_) | exact HR506.out)) hb)
                          have n7_ := Aside0.mk (below_step (by repeat (first | (with_reducible first | exact HB.out | apply below_alloc | apply pw_below_drewN | apply below_drew1) | exact HB.out)) hb)
                          clear HO_9
                          clear HO_10
                          clear HO_11
                          clear HO492
                          clear HR496
                          clear HR506
                          clear HB
                          have HO_9 := n0_
                          have HO_10 := n1_
                          have HO_11 := n2_
                          have HO492 := n3_
                          have HO489 := n4_
                          have HR496 := n5_
                          have HR506 := n6_
                          have HB := n7_
                          clear n0_ n1_ n2_ n3_ n4_ n5_ n6_ n7_
                          (try clear hb)
                          (try clear hb2)
                          (try clear hk)
                          (try clear hi)
                          (try clear ho0)
                          refine hK.out _ _ trivial (fun hHeld => ?_)
                          clear hK K
                          refine norm_ (a' := ?_) ?_ ?_
                          rotate_left
                          · show Act.put _ (some 66) _ = _
                            simp only [Act.put, List.setIfInBounds_toArray, List.set_cons_zero, List.set_cons_succ, i64_w, i32_w]
                            rfl
                          exact norm_ (by simp only [putAll, Act.put, List.setIfInBounds_toArray, List.set_cons_zero, List.set_cons_succ]) (hCont (v488, v491) _ ⟨(by (with_reducible repeat (first | apply Kd.R_alloc | apply Kd.R_drewN | apply Kd.R_drew)); exact Kd.R_mono HO489.out (fun _ hk => ⟨hk.2, ⟨hk.1.1.2, hk.1.2⟩⟩)), (by (with_reducible repeat (first | apply Kd.R_alloc | apply Kd.R_drewN | apply Kd.R_drew)); exact Kd.R_mono HO492.out (fun _ hk => ⟨hk.2, ⟨hk.1.1.2, hk.1.2⟩⟩)), (by (with_reducible repeat (first | apply Kd.R_alloc | apply Kd.R_drewN | apply Kd.R_drew)); exact Kd.R_mono HO_10.out (fun _ hk => ⟨hk.2, ⟨hk.1.2, hk.1.1⟩⟩)), (by (with_reducible repeat (first | apply Kd.R_alloc | apply Kd.R_drewN | apply Kd.R_drew)); exact Kd.R_mono HO_11.out (fun _ hk => ⟨hk.2, ⟨hk.1.2, hk.1.1⟩⟩)), (by (with_reducible repeat (first | apply Kd.R_alloc | apply Kd.R_drewN | apply Kd.R_drew)); exact HO_9.out), (by repeat (first | (with_reducible first | exact HB.out | apply below_alloc | apply pw_below_drewN | apply below_drew1) | exact HB.out))⟩)
                      rintro ⟨v488, v491⟩ w59 ⟨h0_, h1_, h2_, h3_, h4_, h5_⟩
                      have n0_ : Aside0 (Kd.R (Kd.int .i64) 3 w59 w.heap.size (fun k_ => some k_ ≠ (v491 : Value).ownBlock ∧ some k_ ≠ (.slice Ao17 t467.length co17 : Value).ownBlock ∧ some k_ ≠ (.slice Ao51 t470.length co51 : Value).ownBlock) v488 t487) := ⟨h0_⟩
                      have n1_ : Aside0 (Kd.R (Kd.int .i64) 3 w59 w.heap.size (fun k_ => some k_ ≠ (v488 : Value).ownBlock ∧ some k_ ≠ (.slice Ao17 t467.length co17 : Value).ownBlock ∧ some k_ ≠ (.slice Ao51 t470.length co51 : Value).ownBlock) v491 y490) := ⟨h1_⟩
                      have n2_ : Aside0 (Kd.R (Kd.int .i64) 3 w59 w.heap.size (fun k_ => some k_ ≠ (v488 : Value).ownBlock ∧ some k_ ≠ (v491 : Value).ownBlock ∧ some k_ ≠ (.slice Ao51 t470.length co51 : Value).ownBlock) (.slice Ao17 t467.length co17) t467) := ⟨h2_⟩
                      have n3_ : Aside0 (Kd.R (Kd.int .i64) 3 w59 w.heap.size (fun k_ => some k_ ≠ (v488 : Value).ownBlock ∧ some k_ ≠ (v491 : Value).ownBlock ∧ some k_ ≠ (.slice Ao17 t467.length co17 : Value).ownBlock) (.slice Ao51 t470.length co51) t470) := ⟨h3_⟩
                      have n4_ : Aside0 (Kd.R k40 40 w59 w.heap.size (fun _ => True) (.slice Ao14 t464.length co14) t464) := ⟨h4_⟩
                      have n5_ : Aside0 (Below w.heap.size w w59) := ⟨h5_⟩
                      clear HO_9
                      clear HO_10
                      clear HO_11
                      clear HB
                      clear h0_ h1_ h2_ h3_ h4_ h5_
                      have HO489 := n0_
                      have HO492 := n1_
                      have HO_10 := n2_
                      have HO_11 := n3_
                      have HO_9 := n4_
                      have HB := n5_
                      clear n0_ n1_ n2_ n3_ n4_ n5_
                      have hHeld := trivial
                      have HR496 := Aside0.mk (show Kd.C (Kd.int .i64) w59 Ao17 y493.length y493 from by rw [Ny493.out]; exact Kd.C_take (m := (t473 : Int).toNat) ((Kd.R_reads' HO_10.out).2.2) KL54.out)
                      have HR506 := Aside0.mk (show Kd.C (Kd.int .i64) w59 A55 y503.length y503 from by rw [Ny503.out, KA55.out]; exact Kd.C_drop (m := (t473 : Int).toNat) (c := co17) ((Kd.R_reads' HO_10.out).2.2) KL55.out ((Kd.R_reads' HO_10.out).2.1))
                      refine norm_ (a' := ?_) ?_ ?_
                      rotate_left
                      · simp only [putAll, Act.put, List.setIfInBounds_toArray, List.set_cons_zero, List.set_cons_succ]
                        rfl
                      refine one_ (i := 8) (N := some 72) #[true, true, true, true, true, true, true, true, true, true, false, true, true, true, false, false, false, false] rfl rfl (one_of HT_.out (by kernel_rfl)) (by decide) (fun K hK => ?_)
                      refine Kd.R_append_rows_step (Kd.int .i64) (w0 := w) w.heap.size (by rfl) (.tmp 68) (.tmp 71) 22 3 (.int .i64 0) 8 rfl Try.underlying22 info3 rfl (by decide) (by omega) v491 y490 y493 _ _ _ (fun k_ => some k_ ≠ (.slice Ao17 t467.length co17 : Value).ownBlock ∧ some k_ ≠ (.slice Ao51 t470.length co51 : Value).ownBlock ∧ some k_ ≠ (v488 : Value).ownBlock) (fun _ => False) rfl rfl ?aO ?aR (fun _ _ h => h) (fun _ h => h.elim) ?aF ?aB ?aS ?aL ?_
                      (case aR => repeat (first | exact (by repeat (first | (with_reducible exact HR496.out) | (with_reducible refine Kd.C_alloc ?_ _) | (with_reducible refine Kd.C_drewN ?_ _) | (with_reducible refine Kd.C_drew ?_) | exact HR496.out)) | (with_reducible refine Kd.C_alloc ?_ _) | (with_reducible refine Kd.C_drewN ?_ _) | (with_reducible refine Kd.C_drew ?_)))
                      (case aB => exact (by repeat (first | (with_reducible first | exact HB.out | apply below_alloc | apply pw_below_drewN | apply below_drew1) | exact HB.out)))
                      (case aF => exact (fun k_ hk => ⟨Kd.fresh' (Kd.R_lt (by (with_reducible repeat (first | apply Kd.R_alloc | apply Kd.R_drewN | apply Kd.R_drew)); exact HO_10.out)) k_ hk, Kd.fresh' (Kd.R_lt (by (with_reducible repeat (first | apply Kd.R_alloc | apply Kd.R_drewN | apply Kd.R_drew)); exact HO_11.out)) k_ hk, Kd.fresh' (Kd.R_lt (by (with_reducible repeat (first | apply Kd.R_alloc | apply Kd.R_drewN | apply Kd.R_drew)); exact HO489.out)) k_ hk⟩))
                      (case aO => exact (by (with_reducible repeat (first | apply Kd.R_alloc | apply Kd.R_drewN | apply Kd.R_drew)); exact Kd.R_mono HO492.out (fun _ hk => ⟨hk.2.1, ⟨hk.2.2, hk.1⟩⟩)))
                      (case aS => exact (below_size (by repeat (first | (with_reducible first | exact HB.out | apply below_alloc | apply pw_below_drewN | apply below_drew1) | exact HB.out))))
                      (case aL => have := LMc44.out; omega)
                      intro v498 w60 ho hb hg hat
                      rw [← Ny497.out] at ho
                      have n0_ := Aside0.mk (Kd.R_over' (by (with_reducible repeat (first | apply Kd.R_alloc | apply Kd.R_drewN | apply Kd.R_drew)); exact HO_9.out) (Kd.R_typed (by (with_reducible repeat (first | apply Kd.R_alloc | apply Kd.R_drewN | apply Kd.R_drew)); exact HO492.out)) (by decide) hg)
                      have n1_ := Aside0.mk (Kd.R_after (ok := (fun k_ => some k_ ≠ (.slice Ao51 t470.length co51 : Value).ownBlock ∧ some k_ ≠ (v488 : Value).ownBlock)) (by (with_reducible repeat (first | apply Kd.R_alloc | apply Kd.R_drewN | apply Kd.R_drew)); exact Kd.R_mono HO_10.out (fun _ hk => ⟨⟨hk.2.2, hk.1⟩, hk.2.1⟩)) hg hat)
                      have n2_ := Aside0.mk (Kd.R_after (ok := (fun k_ => some k_ ≠ (.slice Ao17 t467.length co17 : Value).ownBlock ∧ some k_ ≠ (v488 : Value).ownBlock)) (by (with_reducible repeat (first | apply Kd.R_alloc | apply Kd.R_drewN | apply Kd.R_drew)); exact Kd.R_mono HO_11.out (fun _ hk => ⟨⟨hk.2.2, hk.1⟩, hk.2.1⟩)) hg hat)
                      have n3_ := Aside0.mk (Kd.R_after (ok := (fun k_ => some k_ ≠ (.slice Ao17 t467.length co17 : Value).ownBlock ∧ some k_ ≠ (.slice Ao51 t470.length co51 : Value).ownBlock)) (by (with_reducible repeat (first | apply Kd.R_alloc | apply Kd.R_drewN | apply Kd.R_drew)); exact Kd.R_mono HO489.out (fun _ hk => ⟨⟨hk.2.1, hk.2.2⟩, hk.1⟩)) hg hat)
                      have n4_ := Aside0.mk (hb)
                      have n5_ := Aside0.mk ((show Kd.C (Kd.int .i64) w60 Ao17 y493.length y493 from by rw [Ny493.out]; exact Kd.C_take (m := (t473 : Int).toNat) ((Kd.R_reads' (Kd.R_after (ok := (fun k_ => some k_ ≠ (.slice Ao51 t470.length co51 : Value).ownBlock ∧ some k_ ≠ (v488 : Value).ownBlock)) (by (with_reducible repeat (first | apply Kd.R_alloc | apply Kd.R_drewN | apply Kd.R_drew)); exact Kd.R_mono HO_10.out (fun _ hk => ⟨⟨hk.2.2, hk.1⟩, hk.2.1⟩)) hg hat)).2.2) KL54.out))
                      have n6_ := Aside0.mk ((show Kd.C (Kd.int .i64) w60 A55 y503.length y503 from by rw [Ny503.out, KA55.out]; exact Kd.C_drop (m := (t473 : Int).toNat) (c := co17) ((Kd.R_reads' (Kd.R_after (ok := (fun k_ => some k_ ≠ (.slice Ao51 t470.length co51 : Value).ownBlock ∧ some k_ ≠ (v488 : Value).ownBlock)) (by (with_reducible repeat (first | apply Kd.R_alloc | apply Kd.R_drewN | apply Kd.R_drew)); exact Kd.R_mono HO_10.out (fun _ hk => ⟨⟨hk.2.2, hk.1⟩, hk.2.1⟩)) hg hat)).2.2) KL55.out ((Kd.R_reads' (Kd.R_after (ok := (fun k_ => some k_ ≠ (.slice Ao51 t470.length co51 : Value).ownBlock ∧ some k_ ≠ (v488 : Value).ownBlock)) (by (with_reducible repeat (first | apply Kd.R_alloc | apply Kd.R_drewN | apply Kd.R_drew)); exact Kd.R_mono HO_10.out (fun _ hk => ⟨⟨hk.2.2, hk.1⟩, hk.2.1⟩)) hg hat)).2.1)))
                      have n7_ := Aside0.mk (ho)
                      clear HO_9
                      clear HO_10
                      clear HO_11
                      clear HO489
                      clear HB
                      clear HR496
                      clear HR506
                      clear HO492
                      have HO_9 := n0_
                      have HO_10 := n1_
                      have HO_11 := n2_
                      have HO489 := n3_
                      have HB := n4_
                      have HR496 := n5_
                      have HR506 := n6_
                      have HO499 := n7_
                      clear n0_ n1_ n2_ n3_ n4_ n5_ n6_ n7_
                      clear ho hb hg hat
                      refine hK.out _ _ trivial (fun hHeld => ?_)
                      clear hK K
                      refine norm_ (a' := ?_) ?_ ?_
                      rotate_left
                      · show Act.put _ (some 72) _ = _
                        simp only [Act.put, List.setIfInBounds_toArray, List.set_cons_zero, List.set_cons_succ, i64_w, i32_w]
                        rfl
                      refine one_ (i := 10) (N := some 74) #[true, true, true, true, true, true, true, true, true, true, true, true, true, true, false, false, false, false] rfl rfl (one_of HT_.out (by kernel_rfl)) (by decide) (fun K hK => ?_)
                      refine Kd.R_append_rows_step (Kd.int .i64) (w0 := w) w.heap.size (by rfl) (.tmp 72) (.tmp 73) 22 3 (.int .i64 0) 8 rfl Try.underlying22 info3 rfl (by decide) (by omega) v498 y497 t470 _ _ _ (fun k_ => some k_ ≠ (.slice Ao17 t467.length co17 : Value).ownBlock ∧ some k_ ≠ (.slice Ao51 t470.length co51 : Value).ownBlock ∧ some k_ ≠ (v488 : Value).ownBlock) (fun _ => False) rfl rfl ?aO ?aR (fun _ _ h => h) (fun _ h => h.elim) ?aF ?aB ?aS ?aL ?_
                      (case aR => repeat (first | exact (Kd.R_reads' HO_11.out).2.2 | (with_reducible refine Kd.C_alloc ?_ _) | (with_reducible refine Kd.C_drewN ?_ _) | (with_reducible refine Kd.C_drew ?_)))
                      (case aB => exact (by repeat (first | (with_reducible first | exact HB.out | apply below_alloc | apply pw_below_drewN | apply below_drew1) | exact HB.out)))
                      (case aF => exact (fun k_ hk => ⟨Kd.fresh' (Kd.R_lt (by (with_reducible repeat (first | apply Kd.R_alloc | apply Kd.R_drewN | apply Kd.R_drew)); exact HO_10.out)) k_ hk, Kd.fresh' (Kd.R_lt (by (with_reducible repeat (first | apply Kd.R_alloc | apply Kd.R_drewN | apply Kd.R_drew)); exact HO_11.out)) k_ hk, Kd.fresh' (Kd.R_lt (by (with_reducible repeat (first | apply Kd.R_alloc | apply Kd.R_drewN | apply Kd.R_drew)); exact HO489.out)) k_ hk⟩))
                      (case aO => exact (by (with_reducible repeat (first | apply Kd.R_alloc | apply Kd.R_drewN | apply Kd.R_drew)); exact HO499.out))
                      (case aS => exact (below_size (by repeat (first | (with_reducible first | exact HB.out | apply below_alloc | apply pw_below_drewN | apply below_drew1) | exact HB.out))))
                      (case aL => have := LMc45.out; omega)
                      intro v501 w61 ho hb hg hat
                      rw [← Ny500.out] at ho
                      have n0_ := Aside0.mk (Kd.R_over' (by (with_reducible repeat (first | apply Kd.R_alloc | apply Kd.R_drewN | apply Kd.R_drew)); exact HO_9.out) (Kd.R_typed (by (with_reducible repeat (first | apply Kd.R_alloc | apply Kd.R_drewN | apply Kd.R_drew)); exact HO499.out)) (by decide) hg)
                      have n1_ := Aside0.mk (Kd.R_after (ok := (fun k_ => some k_ ≠ (.slice Ao51 t470.length co51 : Value).ownBlock ∧ some k_ ≠ (v488 : Value).ownBlock)) (by (with_reducible repeat (first | apply Kd.R_alloc | apply Kd.R_drewN | apply Kd.R_drew)); exact HO_10.out) hg hat)
                      have n2_ := Aside0.mk (Kd.R_after (ok := (fun k_ => some k_ ≠ (.slice Ao17 t467.length co17 : Value).ownBlock ∧ some k_ ≠ (v488 : Value).ownBlock)) (by (with_reducible repeat (first | apply Kd.R_alloc | apply Kd.R_drewN | apply Kd.R_drew)); exact HO_11.out) hg hat)
                      have n3_ := Aside0.mk (Kd.R_after (ok := (fun k_ => some k_ ≠ (.slice Ao17 t467.length co17 : Value).ownBlock ∧ some k_ ≠ (.slice Ao51 t470.length co51 : Value).ownBlock)) (by (with_reducible repeat (first | apply Kd.R_alloc | apply Kd.R_drewN | apply Kd.R_drew)); exact HO489.out) hg hat)
                      have n4_ := Aside0.mk (hb)
                      have n5_ := Aside0.mk ((show Kd.C (Kd.int .i64) w61 Ao17 y493.length y493 from by rw [Ny493.out]; exact Kd.C_take (m := (t473 : Int).toNat) ((Kd.R_reads' (Kd.R_after (ok := (fun k_ => some k_ ≠ (.slice Ao51 t470.length co51 : Value).ownBlock ∧ some k_ ≠ (v488 : Value).ownBlock)) (by (with_reducible repeat (first | apply Kd.R_alloc | apply Kd.R_drewN | apply Kd.R_drew)); exact HO_10.out) hg hat)).2.2) KL54.out))
                      have n6_ := Aside0.mk ((show Kd.C (Kd.int .i64) w61 A55 y503.length y503 from by rw [Ny503.out, KA55.out]; exact Kd.C_drop (m := (t473 : Int).toNat) (c := co17) ((Kd.R_reads' (Kd.R_after (ok := (fun k_ => some k_ ≠ (.slice Ao51 t470.length co51 : Value).ownBlock ∧ some k_ ≠ (v488 : Value).ownBlock)) (by (with_reducible repeat (first | apply Kd.R_alloc | apply Kd.R_drewN | apply Kd.R_drew)); exact HO_10.out) hg hat)).2.2) KL55.out ((Kd.R_reads' (Kd.R_after (ok := (fun k_ => some k_ ≠ (.slice Ao51 t470.length co51 : Value).ownBlock ∧ some k_ ≠ (v488 : Value).ownBlock)) (by (with_reducible repeat (first | apply Kd.R_alloc | apply Kd.R_drewN | apply Kd.R_drew)); exact HO_10.out) hg hat)).2.1)))
                      have n7_ := Aside0.mk (ho)
                      clear HO_9
                      clear HO_10
                      clear HO_11
                      clear HO489
                      clear HB
                      clear HR496
                      clear HR506
                      clear HO499
                      have HO_9 := n0_
                      have HO_10 := n1_
                      have HO_11 := n2_
                      have HO489 := n3_
                      have HB := n4_
                      have HR496 := n5_
                      have HR506 := n6_
                      have HO502 := n7_
                      clear n0_ n1_ n2_ n3_ n4_ n5_ n6_ n7_
                      clear ho hb hg hat
                      refine hK.out _ _ trivial (fun hHeld => ?_)
                      clear hK K
                      refine norm_ (a' := ?_) ?_ ?_
                      rotate_left
                      · show Act.put _ (some 74) _ = _
                        simp only [Act.put, List.setIfInBounds_toArray, List.set_cons_zero, List.set_cons_succ, i64_w, i32_w]
                        rfl
                      refine one_ (i := 14) (N := some 78) #[true, true, true, true, true, true, true, true, true, true, true, true, true, true, true, false, false, false] rfl rfl (one_of HT_.out (by kernel_rfl)) (by decide) (fun K hK => ?_)
                      refine Kd.R_append_rows_step (Kd.int .i64) (w0 := w) w.heap.size (by rfl) (.tmp 74) (.tmp 77) 22 3 (.int .i64 0) 8 rfl Try.underlying22 info3 rfl (by decide) (by omega) v501 y500 y503 _ _ _ (fun k_ => some k_ ≠ (.slice Ao17 t467.length co17 : Value).ownBlock ∧ some k_ ≠ (.slice Ao51 t470.length co51 : Value).ownBlock ∧ some k_ ≠ (v488 : Value).ownBlock) (fun _ => False) rfl rfl ?aO ?aR (fun _ _ h => h) (fun _ h => h.elim) ?aF ?aB ?aS ?aL ?_
                      (case aR => repeat (first | exact (by repeat (first | (with_reducible exact HR506.out) | (with_reducible refine Kd.C_alloc ?_ _) | (with_reducible refine Kd.C_drewN ?_ _) | (with_reducible refine Kd.C_drew ?_) | exact HR506.out)) | (with_reducible refine Kd.C_alloc ?_ _) | (with_reducible refine Kd.C_drewN ?_ _) | (with_reducible refine Kd.C_drew ?_)))
                      (case aB => exact (by repeat (first | (with_reducible first | exact HB.out | apply below_alloc | apply pw_below_drewN | apply below_drew1) | exact HB.out)))
                      (case aF => exact (fun k_ hk => ⟨Kd.fresh' (Kd.R_lt (by (with_reducible repeat (first | apply Kd.R_alloc | apply Kd.R_drewN | apply Kd.R_drew)); exact HO_10.out)) k_ hk, Kd.fresh' (Kd.R_lt (by (with_reducible repeat (first | apply Kd.R_alloc | apply Kd.R_drewN | apply Kd.R_drew)); exact HO_11.out)) k_ hk, Kd.fresh' (Kd.R_lt (by (with_reducible repeat (first | apply Kd.R_alloc | apply Kd.R_drewN | apply Kd.R_drew)); exact HO489.out)) k_ hk⟩))
                      (case aO => exact (by (with_reducible repeat (first | apply Kd.R_alloc | apply Kd.R_drewN | apply Kd.R_drew)); exact HO502.out))
                      (case aS => exact (below_size (by repeat (first | (with_reducible first | exact HB.out | apply below_alloc | apply pw_below_drewN | apply below_drew1) | exact HB.out))))
                      (case aL => have := LMc48.out; omega)
                      intro v508 w62 ho hb hg hat
                      rw [← Ny507.out] at ho
                      have n0_ := Aside0.mk (Kd.R_over' (by (with_reducible repeat (first | apply Kd.R_alloc | apply Kd.R_drewN | apply Kd.R_drew)); exact HO_9.out) (Kd.R_typed (by (with_reducible repeat (first | apply Kd.R_alloc | apply Kd.R_drewN | apply Kd.R_drew)); exact HO502.out)) (by decide) hg)
                      have n1_ := Aside0.mk (Kd.R_after (ok := (fun k_ => some k_ ≠ (.slice Ao51 t470.length co51 : Value).ownBlock ∧ some k_ ≠ (v488 : Value).ownBlock)) (by (with_reducible repeat (first | apply Kd.R_alloc | apply Kd.R_drewN | apply Kd.R_drew)); exact HO_10.out) hg hat)
                      have n2_ := Aside0.mk (Kd.R_after (ok := (fun k_ => some k_ ≠ (.slice Ao17 t467.length co17 : Value).ownBlock ∧ some k_ ≠ (v488 : Value).ownBlock)) (by (with_reducible repeat (first | apply Kd.R_alloc | apply Kd.R_drewN | apply Kd.R_drew)); exact HO_11.out) hg hat)
                      have n3_ := Aside0.mk (Kd.R_after (ok := (fun k_ => some k_ ≠ (.slice Ao17 t467.length co17 : Value).ownBlock ∧ some k_ ≠ (.slice Ao51 t470.length co51 : Value).ownBlock)) (by (with_reducible repeat (first | apply Kd.R_alloc | apply Kd.R_drewN | apply Kd.R_drew)); exact HO489.out) hg hat)
                      have n4_ := Aside0.mk (hb)
                      have n5_ := Aside0.mk ((show Kd.C (Kd.int .i64) w62 Ao17 y493.length y493 from by rw [Ny493.out]; exact Kd.C_take (m := (t473 : Int).toNat) ((Kd.R_reads' (Kd.R_after (ok := (fun k_ => some k_ ≠ (.slice Ao51 t470.length co51 : Value).ownBlock ∧ some k_ ≠ (v488 : Value).ownBlock)) (by (with_reducible repeat (first | apply Kd.R_alloc | apply Kd.R_drewN | apply Kd.R_drew)); exact HO_10.out) hg hat)).2.2) KL54.out))
                      have n6_ := Aside0.mk ((show Kd.C (Kd.int .i64) w62 A55 y503.length y503 from by rw [Ny503.out, KA55.out]; exact Kd.C_drop (m := (t473 : Int).toNat) (c := co17) ((Kd.R_reads' (Kd.R_after (ok := (fun k_ => some k_ ≠ (.slice Ao51 t470.length co51 : Value).ownBlock ∧ some k_ ≠ (v488 : Value).ownBlock)) (by (with_reducible repeat (first | apply Kd.R_alloc | apply Kd.R_drewN | apply Kd.R_drew)); exact HO_10.out) hg hat)).2.2) KL55.out ((Kd.R_reads' (Kd.R_after (ok := (fun k_ => some k_ ≠ (.slice Ao51 t470.length co51 : Value).ownBlock ∧ some k_ ≠ (v488 : Value).ownBlock)) (by (with_reducible repeat (first | apply Kd.R_alloc | apply Kd.R_drewN | apply Kd.R_drew)); exact HO_10.out) hg hat)).2.1)))
                      have n7_ := Aside0.mk (ho)
                      clear HO_9
                      clear HO_10
                      clear HO_11
                      clear HO489
                      clear HB
                      clear HR496
                      clear HR506
                      clear HO502
                      have HO_9 := n0_
                      have HO_10 := n1_
                      have HO_11 := n2_
                      have HO489 := n3_
                      have HB := n4_
                      have HR496 := n5_
                      have HR506 := n6_
                      have HO509 := n7_
                      clear n0_ n1_ n2_ n3_ n4_ n5_ n6_ n7_
                      clear ho hb hg hat
                      obtain ⟨Ao63, co63, eo63⟩ := Kd.R_slice HO509.out
                      (first | subst eo63 | (injection eo63 with f1_ f2_ f3_; have f4_ := f1_.symm; have f5_ := f3_.symm; clear f1_ f2_ f3_; subst f4_; subst f5_))
                      refine hK.out _ _ trivial (fun hHeld => ?_)
                      clear hK K
                      refine norm_ (a' := ?_) ?_ ?_
                      rotate_left
                      · show Act.put _ (some 78) _ = _
                        simp only [Act.put, List.setIfInBounds_toArray, List.set_cons_zero, List.set_cons_succ, i64_w, i32_w]
                        rfl
                      refine one_ (i := 15) (N := some 79) #[true, true, true, true, true, true, true, true, true, true, true, true, true, true, true, true, false, false] rfl rfl (one_of HT_.out (by kernel_rfl)) (by decide) (fun K hK => ?_)
                      refine goes_ Try.func25 (by kernel_rfl) rfl #[.slice Ao14 t464.length co14, .slice Ao63 y507.length co63] (by rfl) rfl rfl (by (try simp only [List.map_toArray, List.map_cons, List.map_nil]); first | done | rfl | (simp only [List.length_drop, List.length_take]; rfl)) ?_
                      with_reducible refine (word_Match.calls kj10 _ _ t464 _ _ y507 t510 _ ?side1 ?side2 ?side3 ?side4 A49.out).mono ?_
                      (case side1 => repeat (first | exact (Kd.R_reads' HO_9.out).2.2 | (with_reducible refine Kd.C_alloc ?_ _) | (with_reducible refine Kd.C_drewN ?_ _) | (with_reducible refine Kd.C_drew ?_)))
                      (case side2 => exact (Kd.R_reads' HO_9.out).2.1)
                      (case side3 => repeat (first | exact (Kd.R_reads' HO509.out).2.2 | (with_reducible refine Kd.C_alloc ?_ _) | (with_reducible refine Kd.C_drewN ?_ _) | (with_reducible refine Kd.C_drew ?_)))
                      (case side4 => exact (Kd.R_reads' HO509.out).2.1)
                      rintro e w64 ⟨v511, rfl, ho0, hb⟩
                      refine ⟨_, rfl, ?_⟩
                      have n0_ := Aside0.mk (Kd.R_below (by (with_reducible repeat (first | apply Kd.R_alloc | apply Kd.R_drewN | apply Kd.R_drew)); exact HO_9.out) hb)
                      have n1_ := Aside0.mk (Kd.R_elder' (by (with_reducible repeat (first | apply Kd.R_alloc | apply Kd.R_drewN | apply Kd.R_drew)); exact HO_10.out) (Kd.R_base ho0) hb)
                      have n2_ := Aside0.mk (Kd.R_elder' (by (with_reducible repeat (first | apply Kd.R_alloc | apply Kd.R_drewN | apply Kd.R_drew)); exact HO_11.out) (Kd.R_base ho0) hb)
                      have n3_ := Aside0.mk (Kd.R_elder' (by (with_reducible repeat (first | apply Kd.R_alloc | apply Kd.R_drewN | apply Kd.R_drew)); exact HO489.out) (Kd.R_base ho0) hb)
                      have n4_ := Aside0.mk (Kd.R_elder' (by (with_reducible repeat (first | apply Kd.R_alloc | apply Kd.R_drewN | apply Kd.R_drew)); exact HO509.out) (Kd.R_base ho0) hb)
                      have n5_ := Aside0.mk (Kd.R_lower (Kd.R_new' (Kd.R_new' (Kd.R_new' (Kd.R_new' ho0 (Kd.R_lt (by (with_reducible repeat (first | apply Kd.R_alloc | apply Kd.R_drewN | apply Kd.R_drew)); exact HO_10.out))) (Kd.R_lt (by (with_reducible repeat (first | apply Kd.R_alloc | apply Kd.R_drewN | apply Kd.R_drew)); exact HO_11.out))) (Kd.R_lt (by (with_reducible repeat (first | apply Kd.R_alloc | apply Kd.R_drewN | apply Kd.R_drew)); exact HO489.out))) (Kd.R_lt (by (with_reducible repeat (first | apply Kd.R_alloc | apply Kd.R_drewN | apply Kd.R_drew)); exact HO509.out))) (below_size (by repeat (first | (with_reducible first | exact HB.out | apply below_alloc | apply pw_below_drewN | apply below_drew1) | exact HB.out))))
                      have n6_ := Aside0.mk (Kd.C_below (by repeat (first | (with_reducible exact HR496.out) | (with_reducible refine Kd.C_alloc ?_ _) | (with_reducible refine Kd.C_drewN ?_ _) | (with_reducible refine Kd.C_drew ?_) | exact HR496.out)) hb)
                      have n7_ := Aside0.mk (Kd.C_below (by repeat (first | (with_reducible exact HR506.out) | (with_reducible refine Kd.C_alloc ?_ _) | (with_reducible refine Kd.C_drewN ?_ _) | (with_reducible refine Kd.C_drew ?_) | exact HR506.out)) hb)
                      have n8_ := Aside0.mk (below_step (by repeat (first | (with_reducible first | exact HB.out | apply below_alloc | apply pw_below_drewN | apply below_drew1) | exact HB.out)) hb)
                      clear HO_9
                      clear HO_10
                      clear HO_11
                      clear HO489
                      clear HO509
                      clear HR496
                      clear HR506
                      clear HB
                      have HO_9 := n0_
                      have HO_10 := n1_
                      have HO_11 := n2_
                      have HO489 := n3_
                      have HO509 := n4_
                      have HO512 := n5_
                      have HR496 := n6_
                      have HR506 := n7_
                      have HB := n8_
                      clear n0_ n1_ n2_ n3_ n4_ n5_ n6_ n7_ n8_
                      (try clear hb)
                      (try clear hb2)
                      (try clear hk)
                      (try clear hi)
                      (try clear ho0)
                      refine hK.out _ _ trivial (fun hHeld => ?_)
                      clear hK K
                      refine norm_ (a' := ?_) ?_ ?_
                      rotate_left
                      · show Act.put _ (some 79) _ = _
                        simp only [Act.put, List.setIfInBounds_toArray, List.set_cons_zero, List.set_cons_succ, i64_w, i32_w]
                        rfl
                      refine pure_ (i := 16) (N := some 13) (v := ?_) (a' := ?_) #[true, true, true, true, true, true, true, true, true, true, true, true, true, true, true, true, true, false] rfl rfl (any_of HT_.out (by kernel_rfl)) (fun _ _ _ h => h) (Or.inl ⟨by rfl, ?_⟩) ?_ ?_
                      rotate_left
                      · intro w'
                        go_simp
                        with_reducible rfl
                      rotate_left
                      · simp only [Act.put, List.setIfInBounds_toArray, List.set_cons_zero, List.set_cons_succ, i64_w, i32_w]
                        rfl
                      refine pure_ (i := 17) (N := some 14) (v := ?_) (a' := ?_) #[true, true, true, true, true, true, true, true, true, true, true, true, true, true, true, true, true, true] rfl rfl (any_of HT_.out (by kernel_rfl)) (fun _ _ _ h => h) (Or.inl ⟨by rfl, ?_⟩) ?_ ?_
                      rotate_left
                      · intro w'
                        go_simp
                        with_reducible rfl
                      rotate_left
                      · simp only [Act.put, List.setIfInBounds_toArray, List.set_cons_zero, List.set_cons_succ, i64_w, i32_w]
                        rfl
                      refine done_ (done_of HT_.out (by kernel_rfl)) ?_
                      go_upto_region 11 with (fail)
                      go_cut [94] (fun v94 wc => ∃ (kq : Nat) (x94_49 : Bool), v94 = .bool x94_49 ∧ Aside0 (canopylaw1_WordParts.j1 kq t467 t470 t473 t487 t510 x94_49 = some r) ∧ Aside0 (kq ≤ kj10) ∧ Aside0 (Kd.R (Kd.int .i64) 3 wc w.heap.size (fun k_ => some k_ ≠ ((.slice Ao51 t470.length co51) : Value).ownBlock ∧ some k_ ≠ (v488 : Value).ownBlock ∧ some k_ ≠ (v511 : Value).ownBlock) (.slice Ao17 t467.length co17) t467) ∧ Aside0 (Kd.R (Kd.int .i64) 3 wc w.heap.size (fun k_ => some k_ ≠ ((.slice Ao17 t467.length co17) : Value).ownBlock ∧ some k_ ≠ (v488 : Value).ownBlock ∧ some k_ ≠ (v511 : Value).ownBlock) (.slice Ao51 t470.length co51) t470) ∧ Aside0 (Kd.R (Kd.int .i64) 3 wc w.heap.size (fun k_ => some k_ ≠ ((.slice Ao17 t467.length co17) : Value).ownBlock ∧ some k_ ≠ ((.slice Ao51 t470.length co51) : Value).ownBlock ∧ some k_ ≠ (v511 : Value).ownBlock) v488 t487) ∧ Aside0 (Kd.R (Kd.int .i64) 3 wc w.heap.size (fun k_ => some k_ ≠ ((.slice Ao17 t467.length co17) : Value).ownBlock ∧ some k_ ≠ ((.slice Ao51 t470.length co51) : Value).ownBlock ∧ some k_ ≠ (v488 : Value).ownBlock) v511 t510) ∧ Aside0 (Below w.heap.size w wc))
                      case first =>
                        have H := HC50.out
                        clear HC50
                        by_cases c65 : (t487.length : Int) = (t467.length : Int)
                        · rw [if_pos c65] at H
                          have c65b0 : ((t487.length : Int) == (t467.length : Int)) = true := beq_iff_eq.mpr c65
                          have c65b1 : ((t487.length : Int) != (t467.length : Int)) = false := bne_eq_false_iff_eq.mpr c65
                          have c65b2 : (t487.length == t467.length) = true := by first | simpa using c65 | (simp at c65 ⊢; omega)
                          clear c65
                          (first | rw [c65b0] | (simp only [i64_w, i32_w]; rw [c65b0]) | skip)
                          have H' := Aside0.mk H
                          clear H
                          obtain ⟨Ao66, co66, eo66⟩ := Kd.R_slice HO489.out
                          subst eo66
                          obtain ⟨Ao67, co67, eo67⟩ := Kd.R_slice HO512.out
                          subst eo67
                          go_wp2
                          go_meet
                          case rel => exact ⟨_, (((t510.length : Int) != (wrap64 ((t467.length : Int) + (t470.length : Int))))), (by first | rfl | (simp; done) | (simp [*]; done)), H', ⟨by have := HJ10.out; first | omega | exact Nat.le_refl _⟩, ⟨by (with_reducible repeat (first | apply Kd.R_alloc | apply Kd.R_drewN | apply Kd.R_drew)); exact Kd.R_mono HO_10.out (fun _ hk => ⟨hk.1.1.1, ⟨hk.1.1.2, hk.2⟩⟩)⟩, ⟨by (with_reducible repeat (first | apply Kd.R_alloc | apply Kd.R_drewN | apply Kd.R_drew)); exact Kd.R_mono HO_11.out (fun _ hk => ⟨hk.1.1.1, ⟨hk.1.1.2, hk.2⟩⟩)⟩, ⟨by (with_reducible repeat (first | apply Kd.R_alloc | apply Kd.R_drewN | apply Kd.R_drew)); exact Kd.R_mono HO489.out (fun _ hk => ⟨hk.1.1.1, ⟨hk.1.1.2, hk.2⟩⟩)⟩, ⟨by (with_reducible repeat (first | apply Kd.R_alloc | apply Kd.R_drewN | apply Kd.R_drew)); exact Kd.R_mono HO512.out (fun _ hk => ⟨hk.1.1.1.2, ⟨hk.1.1.2, hk.1.2⟩⟩)⟩, ⟨by repeat (first | (with_reducible first | exact HB.out | apply below_alloc | apply pw_below_drewN | apply below_drew1) | exact HB.out)⟩⟩
                        · rw [if_neg c65] at H
                          have c65b0 : ((t487.length : Int) == (t467.length : Int)) = false := beq_eq_false_iff_ne.mpr c65
                          have c65b1 : ((t487.length : Int) != (t467.length : Int)) = true := bne_iff_ne.mpr c65
                          have c65b2 : (t487.length == t467.length) = false := by first | simpa using c65 | (simp at c65 ⊢; omega)
                          (first | rw [c65b0] | (simp only [i64_w, i32_w]; rw [c65b0]) | skip)
                          have H' := Aside0.mk H
                          clear H
                          obtain ⟨Ao68, co68, eo68⟩ := Kd.R_slice HO489.out
                          subst eo68
                          go_wp2
                          go_meet
                          case rel => exact ⟨_, (true), (by first | rfl | (simp; done) | (simp [*]; done)), H', ⟨by have := HJ10.out; first | omega | exact Nat.le_refl _⟩, ⟨by (with_reducible repeat (first | apply Kd.R_alloc | apply Kd.R_drewN | apply Kd.R_drew)); exact Kd.R_mono HO_10.out (fun _ hk => ⟨hk.1.1.1, ⟨hk.1.1.2, hk.2⟩⟩)⟩, ⟨by (with_reducible repeat (first | apply Kd.R_alloc | apply Kd.R_drewN | apply Kd.R_drew)); exact Kd.R_mono HO_11.out (fun _ hk => ⟨hk.1.1.1, ⟨hk.1.1.2, hk.2⟩⟩)⟩, ⟨by (with_reducible repeat (first | apply Kd.R_alloc | apply Kd.R_drewN | apply Kd.R_drew)); exact Kd.R_mono HO489.out (fun _ hk => ⟨hk.1.1.1, ⟨hk.1.1.2, hk.2⟩⟩)⟩, ⟨by (with_reducible repeat (first | apply Kd.R_alloc | apply Kd.R_drewN | apply Kd.R_drew)); exact Kd.R_mono HO512.out (fun _ hk => ⟨hk.1.1.1.2, ⟨hk.1.1.2, hk.1.2⟩⟩)⟩, ⟨by repeat (first | (with_reducible first | exact HB.out | apply below_alloc | apply pw_below_drewN | apply below_drew1) | exact HB.out)⟩⟩
                      case rest =>
                        clear HC50
                        try clear c1
                        try clear c2
                        try clear p2
                        try clear c4
                        try clear c5
                        try clear q5
                        try clear c6
                        try clear p6
                        try clear c25
                        try clear c29
                        try clear c43
                        try clear c43b0
                        try clear c43b1
                        try clear c44
                        try clear c45
                        try clear c46
                        try clear c46b0
                        try clear c47
                        try clear c47b0
                        try clear c48
                        try clear q54
                        try clear c55
                        try clear q55
                        try clear p64
                        try clear c65
                        try clear c65b0
                        try clear c65b1
                        try clear c65b2
                        try clear q055
                        try clear q54
                        try clear q55
                        obtain ⟨kq, x94_49, rfl, HA, HJ49, HO_10, HO_11, HO_13, HO_14, HB⟩ := hcut
                        cases kq with
                        | zero => exact absurd HA.out (by simp [canopylaw1_WordParts.j1])
                        | succ kj49 =>
                          have H := HA.out
                          clear HA
                          simp only [canopylaw1_WordParts.j1] at H
                          by_cases c69 : x94_49 = true
                          · subst c69
                            have H1 : (some false) = some r := by rw [if_pos rfl] at H; exact H
                            clear H
                            have H := H1
                            clear H1
                            obtain rfl := Option.some.inj H
                            go_wp2
                            go_ret
                            exact ⟨by first | rfl | (simp [errW_none, errW_some] <;> rfl) | (simp [*, errW_none, errW_some] <;> rfl), by repeat (first | (with_reducible first | exact HB.out | apply below_alloc | apply pw_below_drewN | apply below_drew1) | exact HB.out)⟩
                          · replace c69 := Bool.eq_false_iff.mpr c69
                            subst c69
                            have H1 : (canopylaw1_WordParts.l0 kj49 t467 t470 t473 t487 t510 0) = some r := by rw [if_neg (show ¬ (false = true) by decide)] at H; exact H
                            clear H
                            have H := H1
                            clear H1
                            have H' := Aside0.mk H
                            clear H
                            go_wp2
                            go_loopg [15] kj49 (fun kq v15 w' => ∃ (x15_3 : Int), v15 = .int .i64 x15_3 ∧ Aside0 (canopylaw1_WordParts.l0 kq t467 t470 t473 t487 t510 x15_3 = some r) ∧ Aside0 (kq ≤ kj49) ∧ Aside0 (Kd.R (Kd.int .i64) 3 w' w.heap.size (fun k_ => some k_ ≠ ((.slice Ao51 t470.length co51) : Value).ownBlock ∧ some k_ ≠ (v488 : Value).ownBlock ∧ some k_ ≠ (v511 : Value).ownBlock) (.slice Ao17 t467.length co17) t467) ∧ Aside0 (Kd.R (Kd.int .i64) 3 w' w.heap.size (fun k_ => some k_ ≠ ((.slice Ao17 t467.length co17) : Value).ownBlock ∧ some k_ ≠ (v488 : Value).ownBlock ∧ some k_ ≠ (v511 : Value).ownBlock) (.slice Ao51 t470.length co51) t470) ∧ Aside0 (Kd.R (Kd.int .i64) 3 w' w.heap.size (fun k_ => some k_ ≠ ((.slice Ao17 t467.length co17) : Value).ownBlock ∧ some k_ ≠ ((.slice Ao51 t470.length co51) : Value).ownBlock ∧ some k_ ≠ (v511 : Value).ownBlock) v488 t487) ∧ Aside0 (Kd.R (Kd.int .i64) 3 w' w.heap.size (fun k_ => some k_ ≠ ((.slice Ao17 t467.length co17) : Value).ownBlock ∧ some k_ ≠ ((.slice Ao51 t470.length co51) : Value).ownBlock ∧ some k_ ≠ (v488 : Value).ownBlock) v511 t510) ∧ Aside0 (Below w.heap.size w w'))
                            case atStart => exact ⟨(0), (by first | rfl | (simp; done) | (simp [*]; done)), H', ⟨Nat.le_refl _⟩, ⟨by (with_reducible repeat (first | apply Kd.R_alloc | apply Kd.R_drewN | apply Kd.R_drew)); exact HO_10.out⟩, ⟨by (with_reducible repeat (first | apply Kd.R_alloc | apply Kd.R_drewN | apply Kd.R_drew)); exact HO_11.out⟩, ⟨by (with_reducible repeat (first | apply Kd.R_alloc | apply Kd.R_drewN | apply Kd.R_drew)); exact HO_13.out⟩, ⟨by (with_reducible repeat (first | apply Kd.R_alloc | apply Kd.R_drewN | apply Kd.R_drew)); exact HO_14.out⟩, ⟨by repeat (first | (with_reducible first | exact HB.out | apply below_alloc | apply pw_below_drewN | apply below_drew1) | exact HB.out)⟩⟩
                            case round =>
                              clear H'
                              try clear c1
                              try clear c2
                              try clear p2
                              try clear c4
                              try clear c5
                              try clear q5
                              try clear c6
                              try clear p6
                              try clear c25
                              try clear c29
                              try clear c43
                              try clear c43b0
                              try clear c43b1
                              try clear c44
                              try clear c45
                              try clear c46
                              try clear c46b0
                              try clear c47
                              try clear c47b0
                              try clear c48
                              try clear q54
                              try clear c55
                              try clear q55
                              try clear p64
                              try clear c65
                              try clear c65b0
                              try clear c65b1
                              try clear c65b2
                              try clear c69
                              try clear p2
                              try clear p6
                              try clear p64
                              try clear q055
                              try clear q5
                              try clear q54
                              try clear q55
                              obtain ⟨x15_3, rfl, HA, HK3, HO_10, HO_11, HO_13, HO_14, HB⟩ := hrel
                              cases gk with
                              | zero => exact absurd HA.out (by simp [canopylaw1_WordParts.l0])
                              | succ k3 =>
                                have H := HA.out
                                clear HA
                                simp only [canopylaw1_WordParts.l0] at H
                                by_cases c70 : x15_3 < (t467.length : Int)
                                · rw [if_pos c70] at H
                                  have c70b0 : decide (x15_3 < (t467.length : Int)) = true := decide_eq_true c70
                                  clear c70
                                  by_cases c71 : 0 ≤ x15_3
                                  · rw [if_pos c71] at H
                                    have c71b0 : decide (0 ≤ x15_3) = true := decide_eq_true c71
                                    clear c71
                                    by_cases c72 : x15_3 < (t487.length : Int)
                                    · rw [if_pos c72] at H
                                      have c72b0 : decide (x15_3 < (t487.length : Int)) = true := decide_eq_true c72
                                      clear c72
                                      have HC73 := Aside0.mk H
                                      clear H
                                      try go_wp2
                                      have n0_ := Aside0.mk (Kd.R_drew HO_10.out)
                                      have n1_ := Aside0.mk (Kd.R_drew HO_11.out)
                                      have n2_ := Aside0.mk (Kd.R_drew HO_13.out)
                                      have n3_ := Aside0.mk (Kd.R_drew HO_14.out)
                                      have n4_ := Aside0.mk (below_drew1 HB.out)
                                      clear HO_10
                                      clear HO_11
                                      clear HO_13
                                      clear HO_14
                                      clear HB
                                      have HO_10 := n0_
                                      have HO_11 := n1_
                                      have HO_13 := n2_
                                      have HO_14 := n3_
                                      have HB := n4_
                                      clear n0_ n1_ n2_ n3_ n4_
                                      obtain ⟨Ao75, co75, eo75⟩ := Kd.R_slice HO_13.out
                                      (first | subst eo75 | (injection eo75 with f1_ f2_ f3_; have f4_ := f1_.symm; have f5_ := f3_.symm; clear f1_ f2_ f3_; subst f4_; subst f5_))
                                      have p513 : 0 ≤ (x15_3 : Int) := of_decide_eq_true (by first | (with_reducible assumption) | assumption)
                                      have q513 : x15_3 < (t487.length : Int) := of_decide_eq_true (by first | (with_reducible assumption) | assumption)
                                      obtain ⟨ad513, e513, hx513_0⟩ := Kd.at_int (Kd.R_reads' HO_13.out).2.2 x15_3 p513 q513
                                      cases e513
                                      replace p513 := eq_true p513
                                      replace q513 := eq_true q513
                                      refine start_ (n := 7) (S := fun w' => w'.cell? (ad513.add (x15_3).toNat) = some (.int .i64 (rd t487 x15_3))) (ds := []) #[false, false, false, false, false, false, false] (by kernel_rfl) rfl rfl (hx513_0) (fun hHeld => ?_)
                                      generalize wr.drew = w74 at HO_10 HO_11 HO_13 HO_14 HB hx513_0 hHeld ⊢
                                      refine pure_ (i := 0) (N := some 101) (v := ?_) (a' := ?_) #[true, false, false, false, false, false, false] rfl rfl (by kernel_rfl) (fun _ _ _ h => h) (Or.inl ⟨by rfl, ?_⟩) ?_ ?_
                                      rotate_left
                                      · intro w'
                                        go_simp
                                        with_reducible rfl
                                      rotate_left
                                      · simp only [Act.put, List.setIfInBounds_toArray, List.set_cons_zero, List.set_cons_succ, i64_w, i32_w]
                                        rfl
                                      refine pure_ (i := 1) (N := some 102) (v := ?_) (a' := ?_) #[true, true, false, false, false, false, false] rfl rfl (by kernel_rfl) (fun _ _ _ h => h) (Or.inl ⟨by rfl, ?_⟩) ?_ ?_
                                      rotate_left
                                      · intro w'
                                        go_simp
                                        with_reducible rfl
                                      rotate_left
                                      · simp only [Act.put, List.setIfInBounds_toArray, List.set_cons_zero, List.set_cons_succ, i64_w, i32_w]
                                        rfl
                                      refine pure_ (i := 2) (N := some 103) (v := ?_) (a' := ?_) #[true, true, true, false, false, false, false] rfl rfl (by kernel_rfl) (fun _ _ _ h => h) (Or.inl ⟨by rfl, ?_⟩) ?_ ?_
                                      rotate_left
                                      · intro w'
                                        go_simp
                                        with_reducible rfl
                                      rotate_left
                                      · simp only [Act.put, List.setIfInBounds_toArray, List.set_cons_zero, List.set_cons_succ, i64_w, i32_w]
                                        rfl
                                      refine pure_ (i := 3) (N := some 104) (v := ?_) (a' := ?_) #[true, true, true, true, false, false, false] rfl rfl (by kernel_rfl) (fun _ _ _ h => h) (Or.inl ⟨by rfl, ?_⟩) ?_ ?_
                                      rotate_left
                                      · intro w'
                                        go_simp
                                        with_reducible rfl
                                      rotate_left
                                      · simp only [Act.put, List.setIfInBounds_toArray, List.set_cons_zero, List.set_cons_succ, i64_w, i32_w]
                                        rfl
                                      refine pure_ (i := 5) (N := some 16) (v := ?_) (a' := ?_) #[true, true, true, true, false, true, false] rfl rfl (by kernel_rfl) (fun _ _ _ h => h) (Or.inl ⟨by rfl, ?_⟩) ?_ ?_
                                      rotate_left
                                      · intro w'
                                        go_simp
                                        with_reducible rfl
                                      rotate_left
                                      · simp only [Act.put, List.setIfInBounds_toArray, List.set_cons_zero, List.set_cons_succ, i64_w, i32_w]
                                        rfl
                                      refine take_ (i := 4) (N := some 105) (v := ?_) (a' := ?_) #[true, true, true, true, true, true, false] rfl rfl (by kernel_rfl) (fun _ _ _ h => h) (Or.inl ⟨by rfl, ?_⟩) hHeld ?_ ?_
                                      rotate_left
                                      · intro w' s0
                                        go_simp
                                        with_reducible rfl
                                      rotate_left
                                      · simp only [Act.put, List.setIfInBounds_toArray, List.set_cons_zero, List.set_cons_succ, i64_w, i32_w]
                                        rfl
                                      refine pure_ (i := 6) (N := some 17) (v := ?_) (a' := ?_) #[true, true, true, true, true, true, true] rfl rfl (by kernel_rfl) (fun _ _ _ h => h) (Or.inl ⟨by rfl, ?_⟩) ?_ ?_
                                      rotate_left
                                      · intro w'
                                        go_simp
                                        with_reducible rfl
                                      rotate_left
                                      · simp only [Act.put, List.setIfInBounds_toArray, List.set_cons_zero, List.set_cons_succ, i64_w, i32_w]
                                        rfl
                                      refine done_ (by kernel_rfl) ?_
                                      go_upto_if 108 with (fail)
                                      go_cut [16] (fun v16 wc => ∃ (kq : Nat) (x16_72 : Int), v16 = .int .i64 x16_72 ∧ Aside0 (canopylaw1_WordParts.j3 kq t467 t470 t473 t487 t510 x15_3 x16_72 (rd t487 x15_3) = some r) ∧ Aside0 (kq ≤ k3) ∧ Aside0 (Kd.R (Kd.int .i64) 3 wc w.heap.size (fun k_ => some k_ ≠ ((.slice Ao51 t470.length co51) : Value).ownBlock ∧ some k_ ≠ ((.slice (some ad513) t487.length co75) : Value).ownBlock ∧ some k_ ≠ (v511 : Value).ownBlock) (.slice Ao17 t467.length co17) t467) ∧ Aside0 (Kd.R (Kd.int .i64) 3 wc w.heap.size (fun k_ => some k_ ≠ ((.slice Ao17 t467.length co17) : Value).ownBlock ∧ some k_ ≠ ((.slice (some ad513) t487.length co75) : Value).ownBlock ∧ some k_ ≠ (v511 : Value).ownBlock) (.slice Ao51 t470.length co51) t470) ∧ Aside0 (Kd.R (Kd.int .i64) 3 wc w.heap.size (fun k_ => some k_ ≠ ((.slice Ao17 t467.length co17) : Value).ownBlock ∧ some k_ ≠ ((.slice Ao51 t470.length co51) : Value).ownBlock ∧ some k_ ≠ (v511 : Value).ownBlock) (.slice (some ad513) t487.length co75) t487) ∧ Aside0 (Kd.R (Kd.int .i64) 3 wc w.heap.size (fun k_ => some k_ ≠ ((.slice Ao17 t467.length co17) : Value).ownBlock ∧ some k_ ≠ ((.slice Ao51 t470.length co51) : Value).ownBlock ∧ some k_ ≠ ((.slice (some ad513) t487.length co75) : Value).ownBlock) v511 t510) ∧ Aside0 (Below w.heap.size w wc))
                                      case first =>
                                        have H := HC73.out
                                        clear HC73
                                        by_cases c76 : x15_3 ≥ t473
                                        · rw [if_pos c76] at H
                                          have c76b0 : decide (t473 ≤ x15_3) = true := decide_eq_true c76
                                          clear c76
                                          (first | rw [c76b0] | (simp only [i64_w, i32_w]; rw [c76b0]) | skip)
                                          have H' := Aside0.mk H
                                          clear H
                                          go_wp2
                                          go_meet
                                          case rel => exact ⟨_, (wrap64 (x15_3 + (t470.length : Int))), (by first | rfl | (simp; done) | (simp [*]; done)), H', ⟨by have := HJ10.out; have := HJ49.out; have := HK3.out; first | omega | exact Nat.le_refl _⟩, ⟨by (with_reducible repeat (first | apply Kd.R_alloc | apply Kd.R_drewN | apply Kd.R_drew)); exact HO_10.out⟩, ⟨by (with_reducible repeat (first | apply Kd.R_alloc | apply Kd.R_drewN | apply Kd.R_drew)); exact HO_11.out⟩, ⟨by (with_reducible repeat (first | apply Kd.R_alloc | apply Kd.R_drewN | apply Kd.R_drew)); exact HO_13.out⟩, ⟨by (with_reducible repeat (first | apply Kd.R_alloc | apply Kd.R_drewN | apply Kd.R_drew)); exact HO_14.out⟩, ⟨by repeat (first | (with_reducible first | exact HB.out | apply below_alloc | apply pw_below_drewN | apply below_drew1) | exact HB.out)⟩⟩
                                        · rw [if_neg c76] at H
                                          have c76b0 : decide (t473 ≤ x15_3) = false := decide_eq_false c76
                                          clear c76
                                          (first | rw [c76b0] | (simp only [i64_w, i32_w]; rw [c76b0]) | skip)
                                          have H' := Aside0.mk H
                                          clear H
                                          go_wp2
                                          go_meet
                                          case rel => exact ⟨_, (x15_3), (by first | rfl | (simp; done) | (simp [*]; done)), H', ⟨by have := HJ10.out; have := HJ49.out; have := HK3.out; first | omega | exact Nat.le_refl _⟩, ⟨by (with_reducible repeat (first | apply Kd.R_alloc | apply Kd.R_drewN | apply Kd.R_drew)); exact HO_10.out⟩, ⟨by (with_reducible repeat (first | apply Kd.R_alloc | apply Kd.R_drewN | apply Kd.R_drew)); exact HO_11.out⟩, ⟨by (with_reducible repeat (first | apply Kd.R_alloc | apply Kd.R_drewN | apply Kd.R_drew)); exact HO_13.out⟩, ⟨by (with_reducible repeat (first | apply Kd.R_alloc | apply Kd.R_drewN | apply Kd.R_drew)); exact HO_14.out⟩, ⟨by repeat (first | (with_reducible first | exact HB.out | apply below_alloc | apply pw_below_drewN | apply below_drew1) | exact HB.out)⟩⟩
                                      case rest =>
                                        clear HC73
                                        try clear c1
                                        try clear c2
                                        try clear p2
                                        try clear c4
                                        try clear c5
                                        try clear p5
                                        try clear q5
                                        try clear hx5
                                        try clear c6
                                        try clear p6
                                        try clear c7
                                        try clear c25
                                        try clear c29
                                        try clear c43
                                        try clear c43b0
                                        try clear c43b1
                                        try clear c44
                                        try clear c45
                                        try clear c46
                                        try clear c46b0
                                        try clear c47
                                        try clear c47b0
                                        try clear c48
                                        try clear p51
                                        try clear q51
                                        try clear hx51
                                        try clear q54
                                        try clear c55
                                        try clear q55
                                        try clear p64
                                        try clear c65
                                        try clear c65b0
                                        try clear c65b1
                                        try clear c65b2
                                        try clear c69
                                        try clear c70
                                        try clear c70b0
                                        try clear c71
                                        try clear c71b0
                                        try clear c72
                                        try clear c72b0
                                        try clear c76
                                        try clear c76b0
                                        try clear hx513_0
                                        try clear p2
                                        try clear p513
                                        try clear p6
                                        try clear p64
                                        try clear q055
                                        try clear q5
                                        try clear q513
                                        try clear q54
                                        try clear q55
                                        obtain ⟨kq, x16_72, rfl, HA, HJ72, HO_10, HO_11, HO_13, HO_14, HB⟩ := hcut
                                        cases kq with
                                        | zero => exact absurd HA.out (by simp [canopylaw1_WordParts.j3])
                                        | succ kj72 =>
                                          have H := HA.out
                                          clear HA
                                          simp only [canopylaw1_WordParts.j3] at H
                                          by_cases c77 : (rd t487 x15_3) ≥ t473
                                          · rw [if_pos c77] at H
                                            have c77b0 : decide (t473 ≤ (rd t487 x15_3)) = true := decide_eq_true c77
                                            clear c77
                                            by_cases c78 : 0 ≤ x16_72
                                            · rw [if_pos c78] at H
                                              have c78b0 : decide (0 ≤ x16_72) = true := decide_eq_true c78
                                              clear c78
                                              by_cases c79 : x16_72 < (t510.length : Int)
                                              · rw [if_pos c79] at H
                                                have c79b0 : decide (x16_72 < (t510.length : Int)) = true := decide_eq_true c79
                                                clear c79
                                                by_cases c80 : (rd t510 x16_72) = (wrap64 ((rd t487 x15_3) + (t470.length : Int)))
                                                · rw [if_pos c80] at H
                                                  have c80b0 : ((rd t510 x16_72) == (wrap64 ((rd t487 x15_3) + (t470.length : Int)))) = true := beq_iff_eq.mpr c80
                                                  have c80b1 : ((rd t510 x16_72) != (wrap64 ((rd t487 x15_3) + (t470.length : Int)))) = false := bne_eq_false_iff_eq.mpr c80
                                                  clear c80
                                                  have H' := Aside0.mk H
                                                  clear H
                                                  obtain ⟨Ao81, co81, eo81⟩ := Kd.R_slice HO_14.out
                                                  subst eo81
                                                  have p514 : 0 ≤ (x16_72 : Int) := of_decide_eq_true (by first | (with_reducible assumption) | assumption)
                                                  have q514 : x16_72 < (t510.length : Int) := of_decide_eq_true (by first | (with_reducible assumption) | assumption)
                                                  obtain ⟨ad514, e514, hx514_0⟩ := Kd.at_int (Kd.R_reads' HO_14.out).2.2 x16_72 p514 q514
                                                  cases e514
                                                  replace p514 := eq_true p514
                                                  replace q514 := eq_true q514
                                                  go_wp2
                                                  go_roundg kj72
                                                  case measure => have := HJ10.out; have := HJ49.out; have := HK3.out; have := HJ72.out; omega
                                                  case rel => exact ⟨(wrap64 (x15_3 + 1)), (by first | rfl | (simp; done) | (simp [*]; done)), H', ⟨by have := HJ10.out; have := HJ49.out; have := HK3.out; have := HJ72.out; omega⟩, ⟨by (with_reducible repeat (first | apply Kd.R_alloc | apply Kd.R_drewN | apply Kd.R_drew)); exact HO_10.out⟩, ⟨by (with_reducible repeat (first | apply Kd.R_alloc | apply Kd.R_drewN | apply Kd.R_drew)); exact HO_11.out⟩, ⟨by (with_reducible repeat (first | apply Kd.R_alloc | apply Kd.R_drewN | apply Kd.R_drew)); exact HO_13.out⟩, ⟨by (with_reducible repeat (first | apply Kd.R_alloc | apply Kd.R_drewN | apply Kd.R_drew)); exact HO_14.out⟩, ⟨by repeat (first | (with_reducible first | exact HB.out | apply below_alloc | apply pw_below_drewN | apply below_drew1) | exact HB.out)⟩⟩
                                                · rw [if_neg c80] at H
                                                  have c80b0 : ((rd t510 x16_72) == (wrap64 ((rd t487 x15_3) + (t470.length : Int)))) = false := beq_eq_false_iff_ne.mpr c80
                                                  have c80b1 : ((rd t510 x16_72) != (wrap64 ((rd t487 x15_3) + (t470.length : Int)))) = true := bne_iff_ne.mpr c80
                                                  obtain rfl := Option.some.inj H
                                                  obtain ⟨Ao82, co82, eo82⟩ := Kd.R_slice HO_14.out
                                                  subst eo82
                                                  have p514 : 0 ≤ (x16_72 : Int) := of_decide_eq_true (by first | (with_reducible assumption) | assumption)
                                                  have q514 : x16_72 < (t510.length : Int) := of_decide_eq_true (by first | (with_reducible assumption) | assumption)
                                                  obtain ⟨ad514, e514, hx514_0⟩ := Kd.at_int (Kd.R_reads' HO_14.out).2.2 x16_72 p514 q514
                                                  cases e514
                                                  replace p514 := eq_true p514
                                                  replace q514 := eq_true q514
                                                  go_wp2
                                                  go_ret
                                                  exact ⟨by first | rfl | (simp [errW_none, errW_some] <;> rfl) | (simp [*, errW_none, errW_some] <;> rfl), by repeat (first | (with_reducible first | exact HB.out | apply below_alloc | apply pw_below_drewN | apply below_drew1) | exact HB.out)⟩
                                              · rw [if_neg c79] at H
                                                exact absurd H (by simp)
                                            · rw [if_neg c78] at H
                                              exact absurd H (by simp)
                                          · rw [if_neg c77] at H
                                            have c77b0 : decide (t473 ≤ (rd t487 x15_3)) = false := decide_eq_false c77
                                            clear c77
                                            by_cases c83 : 0 ≤ x16_72
                                            · rw [if_pos c83] at H
                                              have c83b0 : decide (0 ≤ x16_72) = true := decide_eq_true c83
                                              clear c83
                                              by_cases c84 : x16_72 < (t510.length : Int)
                                              · rw [if_pos c84] at H
                                                have c84b0 : decide (x16_72 < (t510.length : Int)) = true := decide_eq_true c84
                                                clear c84
                                                by_cases c85 : (rd t510 x16_72) = (rd t487 x15_3)
                                                · rw [if_pos c85] at H
                                                  have c85b0 : ((rd t510 x16_72) == (rd t487 x15_3)) = true := beq_iff_eq.mpr c85
                                                  have c85b1 : ((rd t510 x16_72) != (rd t487 x15_3)) = false := bne_eq_false_iff_eq.mpr c85
                                                  clear c85
                                                  have H' := Aside0.mk H
                                                  clear H
                                                  obtain ⟨Ao86, co86, eo86⟩ := Kd.R_slice HO_14.out
                                                  subst eo86
                                                  have p515 : 0 ≤ (x16_72 : Int) := of_decide_eq_true (by first | (with_reducible assumption) | assumption)
                                                  have q515 : x16_72 < (t510.length : Int) := of_decide_eq_true (by first | (with_reducible assumption) | assumption)
                                                  obtain ⟨ad515, e515, hx515_0⟩ := Kd.at_int (Kd.R_reads' HO_14.out).2.2 x16_72 p515 q515
                                                  cases e515
                                                  replace p515 := eq_true p515
                                                  replace q515 := eq_true q515
                                                  go_wp2
                                                  go_roundg kj72
                                                  case measure => have := HJ10.out; have := HJ49.out; have := HK3.out; have := HJ72.out; omega
                                                  case rel => exact ⟨(wrap64 (x15_3 + 1)), (by first | rfl | (simp; done) | (simp [*]; done)), H', ⟨by have := HJ10.out; have := HJ49.out; have := HK3.out; have := HJ72.out; omega⟩, ⟨by (with_reducible repeat (first | apply Kd.R_alloc | apply Kd.R_drewN | apply Kd.R_drew)); exact HO_10.out⟩, ⟨by (with_reducible repeat (first | apply Kd.R_alloc | apply Kd.R_drewN | apply Kd.R_drew)); exact HO_11.out⟩, ⟨by (with_reducible repeat (first | apply Kd.R_alloc | apply Kd.R_drewN | apply Kd.R_drew)); exact HO_13.out⟩, ⟨by (with_reducible repeat (first | apply Kd.R_alloc | apply Kd.R_drewN | apply Kd.R_drew)); exact HO_14.out⟩, ⟨by repeat (first | (with_reducible first | exact HB.out | apply below_alloc | apply pw_below_drewN | apply below_drew1) | exact HB.out)⟩⟩
                                                · rw [if_neg c85] at H
                                                  have c85b0 : ((rd t510 x16_72) == (rd t487 x15_3)) = false := beq_eq_false_iff_ne.mpr c85
                                                  have c85b1 : ((rd t510 x16_72) != (rd t487 x15_3)) = true := bne_iff_ne.mpr c85
                                                  obtain rfl := Option.some.inj H
                                                  obtain ⟨Ao87, co87, eo87⟩ := Kd.R_slice HO_14.out
                                                  subst eo87
                                                  have p515 : 0 ≤ (x16_72 : Int) := of_decide_eq_true (by first | (with_reducible assumption) | assumption)
                                                  have q515 : x16_72 < (t510.length : Int) := of_decide_eq_true (by first | (with_reducible assumption) | assumption)
                                                  obtain ⟨ad515, e515, hx515_0⟩ := Kd.at_int (Kd.R_reads' HO_14.out).2.2 x16_72 p515 q515
                                                  cases e515
                                                  replace p515 := eq_true p515
                                                  replace q515 := eq_true q515
                                                  go_wp2
                                                  go_ret
                                                  exact ⟨by first | rfl | (simp [errW_none, errW_some] <;> rfl) | (simp [*, errW_none, errW_some] <;> rfl), by repeat (first | (with_reducible first | exact HB.out | apply below_alloc | apply pw_below_drewN | apply below_drew1) | exact HB.out)⟩
                                              · rw [if_neg c84] at H
                                                exact absurd H (by simp)
                                            · rw [if_neg c83] at H
                                              exact absurd H (by simp)
                                    · rw [if_neg c72] at H
                                      exact absurd H (by simp)
                                  · rw [if_neg c71] at H
                                    exact absurd H (by simp)
                                · rw [if_neg c70] at H
                                  have c70b0 : decide (x15_3 < (t467.length : Int)) = false := decide_eq_false c70
                                  clear c70
                                  obtain rfl := Option.some.inj H
                                  go_wp2
                                  go_ret
                                  exact ⟨by first | rfl | (simp [errW_none, errW_some] <;> rfl) | (simp [*, errW_none, errW_some] <;> rfl), by repeat (first | (with_reducible first | exact HB.out | apply below_alloc | apply pw_below_drewN | apply below_drew1) | exact HB.out)⟩
                    · rw [if_neg c48] at H
                      exact absurd H (by simp)
                  · rw [if_neg c45] at H
                    exact absurd H (by simp)
                · rw [if_neg c44] at H
                  exact absurd H (by simp)
              · rw [if_neg c43] at H
                exact absurd H (by simp)
            · rw [if_neg c42] at H
              exact absurd H (by simp)
          · replace c40 := Bool.eq_false_iff.mpr c40
            subst c40
            have H1 : (some true) = some r := by rw [if_neg (show ¬ (false = true) by decide)] at H; exact H
            clear H
            have H := H1
            clear H1
            obtain rfl := Option.some.inj H
            obtain ⟨Ao88, co88, eo88⟩ := Kd.R_slice HO_11.out
            subst eo88
            go_wp2_with (first | ((with_reducible refine gate_callee (f := 29) rfl ?_); refine goesL_ (some 62) rfl rfl Try.func29 (by kernel_rfl) rfl #[.slice Ao14 t464.length co14, .slice Ao88 t470.length co88] rfl (by (try simp only [List.map_toArray, List.map_cons, List.map_nil]); first | done | rfl | (simp only [List.length_drop, List.length_take]; rfl)) ?_; (with_reducible refine (word_Whole.calls kj10 _ _ t464 _ _ t470 false _ ?side1 ?side2 ?side3 ?side4 A39.out).mono ?_); (case side1 => repeat (first | exact (Kd.R_reads' HO_9.out).2.2 | (with_reducible refine Kd.C_alloc ?_ _) | (with_reducible refine Kd.C_drewN ?_ _) | (with_reducible refine Kd.C_drew ?_))); (case side2 => exact (Kd.R_reads' HO_9.out).2.1); (case side3 => repeat (first | exact (Kd.R_reads' HO_11.out).2.2 | (with_reducible refine Kd.C_alloc ?_ _) | (with_reducible refine Kd.C_drewN ?_ _) | (with_reducible refine Kd.C_drew ?_))); (case side4 => exact (Kd.R_reads' HO_11.out).2.1); rintro e w89 ⟨rfl, hb⟩; refine ⟨_, rfl, ?_⟩; have n0_ := Aside0.mk (Kd.R_below (by (with_reducible repeat (first | apply Kd.R_alloc | apply Kd.R_drewN | apply Kd.R_drew)); exact HO_9.out) hb); have n1_ := Aside0.mk (Kd.R_below (by (with_reducible repeat (first | apply Kd.R_alloc | apply Kd.R_drewN | apply Kd.R_drew)); exact HO_10.out) hb); have n2_ := Aside0.mk (Kd.R_below (by (with_reducible repeat (first | apply Kd.R_alloc | apply Kd.R_drewN | apply Kd.R_drew)); exact HO_11.out) hb); have n3_ := Aside0.mk (below_step (by repeat (first | (with_reducible first | exact HB.out | apply below_alloc | apply pw_below_drewN | apply below_drew1) | exact HB.out)) hb); clear HO_9; clear HO_10; clear HO_11; clear HB; have HO_9 := n0_; have HO_10 := n1_; have HO_11 := n2_; have HB := n3_; clear n0_ n1_ n2_ n3_; (try clear hb); (try clear hb2); (try clear hk); (try clear hi)))
            go_ret
            exact ⟨by first | rfl | (simp [errW_none, errW_some] <;> rfl) | (simp [*, errW_none, errW_some] <;> rfl), by repeat (first | (with_reducible first | exact HB.out | apply below_alloc | apply pw_below_drewN | apply below_drew1) | exact HB.out)⟩
  · replace c6 := Bool.eq_false_iff.mpr c6
    subst c6
    have H1 : (some false) = some r := by rw [if_neg (show ¬ (false = true) by decide)] at H; exact H
    clear H
    have H := H1
    clear H1
    obtain rfl := Option.some.inj H
    go_enter Try.func10, Try.ntmps10
    go_wp2_with (first | ((with_reducible refine gate_callee (f := 13) rfl ?_); refine goesL_ (some 18) rfl rfl Try.func13 (by kernel_rfl) rfl #[] rfl (by (try simp only [List.map_toArray, List.map_cons, List.map_nil]); first | done | rfl | (simp only [List.length_drop, List.length_take]; rfl)) ?_; (with_reducible refine (canopylaw1_known.calls k  false _ A5.out).mono ?_); rintro e w90 ⟨rfl, hb⟩; refine ⟨_, rfl, ?_⟩; have n0_ := Aside0.mk (below_step (by repeat (first | (with_reducible first | exact HB.out | apply below_alloc | apply pw_below_drewN | apply below_drew1) | exact HB.out)) hb); clear HB; have HB := n0_; clear n0_; (try clear hb); (try clear hb2); (try clear hk); (try clear hi)))
    go_ret
    exact ⟨by first | rfl | (simp [errW_none, errW_some] <;> rfl) | (simp [*, errW_none, errW_some] <;> rfl), by repeat (first | (with_reducible first | exact HB.out | apply below_alloc | apply pw_below_drewN | apply below_drew1) | exact HB.out)⟩

/-- THE ONE PURE STATEMENT of canopylaw1_WordParts: yours. -/
def canopylaw1_WordParts.Pure : Prop := ∀ (a0 : Int) (l1 : List Int) (l2 : List Int) (a3 : Int), (Lit.int .i64 a0).wf = true → l1.length ≤ maxLen → l1.length * 8 ≤ 140737488351232 → (∀ x ∈ l1, (Lit.int .i64 x).wf = true) → l2.length ≤ maxLen → l2.length * 8 ≤ 140737488351232 → (∀ x ∈ l2, (Lit.int .i64 x).wf = true) → (Lit.int .i64 a3).wf = true → ∃ k, canopylaw1_WordParts.f k a0 l1 l2 a3 = some true
theorem canopylaw1_WordParts.walk (P : canopylaw1_WordParts.Pure) (a0 : Int) (a1 : Option Addr) (len1 cap1 : Nat) (z1 : List Int) (a2 : Option Addr) (len2 cap2 : Nat) (z2 : List Int) (a3 : Int) (w : World) (w0 : (Lit.int .i64 a0).wf = true) (w1 : (a1 = none ∧ len1 = 0 ∧ cap1 = 0 ∧ z1 = []) ∨ ∃ x, a1 = some x ∧ len1 ≤ cap1 ∧ cap1 ≤ maxLen ∧ z1.length = cap1 ∧ (∀ i, i < z1.length → w.cell? (x.add i) = some (.int .i64 (z1.getD i 0))) ∧ ∀ n ∈ z1, (Lit.int .i64 n).wf = true) (y1 : len1 * 8 ≤ 140737488351232) (w2 : (a2 = none ∧ len2 = 0 ∧ cap2 = 0 ∧ z2 = []) ∨ ∃ x, a2 = some x ∧ len2 ≤ cap2 ∧ cap2 ≤ maxLen ∧ z2.length = cap2 ∧ (∀ i, i < z2.length → w.cell? (x.add i) = some (.int .i64 (z2.getD i 0))) ∧ ∀ n ∈ z2, (Lit.int .i64 n).wf = true) (y2 : len2 * 8 ≤ 140737488351232) (w3 : (Lit.int .i64 a3).wf = true) :
    Calls Try.prog 10 #[.int .i64 a0, .slice a1 len1 cap1, .slice a2 len2 cap2, .int .i64 a3] w fun e w' => e = .returned (.bool true) ∧ Below w.heap.size w w' := by
  obtain ⟨l1, rfl, hr1, hm1, hw1, hc1⟩ := ReadsInt.ofRowC w1
  obtain ⟨l2, rfl, hr2, hm2, hw2, hc2⟩ := ReadsInt.ofRowC w2
  obtain ⟨k, h⟩ := P a0 l1 l2 a3 w0 hm1 y1 hw1 hm2 y2 hw2 w3
  refine (canopylaw1_WordParts.calls k a0 _ _ l1 _ _ l2 a3 true w (Kd.C_of_reads (d := (0 : Int)) (h1 := fun _ => rfl) hr1) hc1 (Kd.C_of_reads (d := (0 : Int)) (h1 := fun _ => rfl) hr2) hc2 h).mono ?_
  rintro e w' ⟨rfl, hd⟩
  exact ⟨rfl, hd⟩

end Go.Proofs.Ytiibfkjfanglbaa.P

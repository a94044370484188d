/- What a statement's proof needs: walks of the program's functions, and what they tell (part 2). -/
import Derived.Test.YtodbnnfiadcbaaaC6a0215c96b
import Derived.Shelf.Strings.Builder1
import Derived.Shelf.Strings.Builder2
import Derived.Shelf.Strings.OnBuilder
import Derived.Shelf.Small.Strs
import Derived.Shelf.Strings.Search1
import Derived.Shelf.Strings.Prefix
import Derived.Test.YtodbnnfiadcbaaaProg
import Derived.ScopeJumps
import Derived.Deep.LoopGhost
import Derived.Laws.Slices
import Derived.Below
import Derived.Deep.Draws
import Derived.Deep.AppendLies
import Derived.Maps.AppendAt
import Derived.OwnWalk
import Derived.Laws.BytesArg
import Derived.Laws.MakeOwn
import Derived.Laws.OwnMore
import Derived.Deep.OwnRows
import Derived.Tactics
import Derived.Lib.ConvBytes
import Derived.WalkKit
import Derived.KernelRfl
import Derived.RowKit3
import Derived.Deep.QuietTactic
import Derived.BigQuiet
import Derived.WideLaws
import Derived.Deep.DeepCutAuto
import Derived.Deep.CutBlock
import Derived.Deep.RegionHeld3
import Derived.Laws.Rows
import Derived.Lib.AppendStr
import Derived.ArgAppend
import Derived.Laws.IdiomCopy
import Derived.OrdersHeld
import Derived.Laws.BitsLemmas
import Derived.RowKit
import Derived.LaidEqlPtr
import Derived.LaidEql
import Derived.MapKept
import Derived.WideMake
import Derived.Deep.Cut
import Derived.StillTailTactics
namespace Go.Proofs.YtodbnnfiadcbaaaH
open Go.RowKit Go.Proofs.YtodbnnfiadcbaaaW.PrintWords
set_option linter.unusedVariables false
theorem cells2 {W : World} {g : Nat} {t : TypeId} {a0 a1 : Value} (h : W.heap[g]? = some (.cells #[a0, a1] t (0, 0))) : W.cell? ⟨g, 0, none⟩ = some a0 ∧ W.cell? ⟨g, 1, none⟩ = some a1 ∧ W.frozen? ⟨g, 0, none⟩ = false ∧ W.frozen? ⟨g, 1, none⟩ = false :=
 ⟨(blk_cell h 0).trans rfl, (blk_cell h 1).trans rfl, blk_frozen h 0, blk_frozen h 1⟩
theorem cells3 {W : World} {g : Nat} {t : TypeId} {a0 a1 a2 : Value} (h : W.heap[g]? = some (.cells #[a0, a1, a2] t (0, 0))) : W.cell? ⟨g, 0, none⟩ = some a0 ∧ W.cell? ⟨g, 1, none⟩ = some a1 ∧ W.cell? ⟨g, 2, none⟩ = some a2 ∧ W.frozen? ⟨g, 0, none⟩ = false ∧ W.frozen? ⟨g, 1, none⟩ = false ∧ W.frozen? ⟨g, 2, none⟩ = false :=
 ⟨(blk_cell h 0).trans rfl, (blk_cell h 1).trans rfl, (blk_cell h 2).trans rfl, blk_frozen h 0, blk_frozen h 1, blk_frozen h 2⟩
theorem cells4 {W : World} {g : Nat} {t : TypeId} {a0 a1 a2 a3 : Value} (h : W.heap[g]? = some (.cells #[a0, a1, a2, a3] t (0, 0))) : W.cell? ⟨g, 0, none⟩ = some a0 ∧ W.cell? ⟨g, 1, none⟩ = some a1 ∧ W.cell? ⟨g, 2, none⟩ = some a2 ∧ W.cell? ⟨g, 3, none⟩ = some a3 ∧ W.frozen? ⟨g, 0, none⟩ = false ∧ W.frozen? ⟨g, 1, none⟩ = false ∧ W.frozen? ⟨g, 2, none⟩ = false ∧ W.frozen? ⟨g, 3, none⟩ = false :=
 ⟨(blk_cell h 0).trans rfl, (blk_cell h 1).trans rfl, (blk_cell h 2).trans rfl, (blk_cell h 3).trans rfl, blk_frozen h 0, blk_frozen h 1, blk_frozen h 2, blk_frozen h 3⟩
theorem cells6 {W : World} {g : Nat} {t : TypeId} {a0 a1 a2 a3 a4 a5 : Value} (h : W.heap[g]? = some (.cells #[a0, a1, a2, a3, a4, a5] t (0, 0))) : W.cell? ⟨g, 0, none⟩ = some a0 ∧ W.cell? ⟨g, 1, none⟩ = some a1 ∧ W.cell? ⟨g, 2, none⟩ = some a2 ∧ W.cell? ⟨g, 3, none⟩ = some a3 ∧ W.cell? ⟨g, 4, none⟩ = some a4 ∧ W.cell? ⟨g, 5, none⟩ = some a5 ∧ W.frozen? ⟨g, 0, none⟩ = false ∧ W.frozen? ⟨g, 1, none⟩ = false ∧ W.frozen? ⟨g, 2, none⟩ = false ∧ W.frozen? ⟨g, 3, none⟩ = false ∧ W.frozen? ⟨g, 4, none⟩ = false ∧ W.frozen? ⟨g, 5, none⟩ = false :=
 ⟨(blk_cell h 0).trans rfl, (blk_cell h 1).trans rfl, (blk_cell h 2).trans rfl, (blk_cell h 3).trans rfl, (blk_cell h 4).trans rfl, (blk_cell h 5).trans rfl, blk_frozen h 0, blk_frozen h 1, blk_frozen h 2, blk_frozen h 3, blk_frozen h 4, blk_frozen h 5⟩
theorem cells11 {W : World} {g : Nat} {t : TypeId} {a0 a1 a2 a3 a4 a5 a6 a7 a8 a9 a10 : Value} (h : W.heap[g]? = some (.cells #[a0, a1, a2, a3, a4, a5, a6, a7, a8, a9, a10] t (0, 0))) : W.cell? ⟨g, 0, none⟩ = some a0 ∧ W.cell? ⟨g, 1, none⟩ = some a1 ∧ W.cell? ⟨g, 2, none⟩ = some a2 ∧ W.cell? ⟨g, 3, none⟩ = some a3 ∧ W.cell? ⟨g, 4, none⟩ = some a4 ∧ W.cell? ⟨g, 5, none⟩ = some a5 ∧ W.cell? ⟨g, 6, none⟩ = some a6 ∧ W.cell? ⟨g, 7, none⟩ = some a7 ∧ W.cell? ⟨g, 8, none⟩ = some a8 ∧ W.cell? ⟨g, 9, none⟩ = some a9 ∧ W.cell? ⟨g, 10, none⟩ = some a10 ∧ W.frozen? ⟨g, 0, none⟩ = false ∧ W.frozen? ⟨g, 1, none⟩ = false ∧ W.frozen? ⟨g, 2, none⟩ = false ∧ W.frozen? ⟨g, 3, none⟩ = false ∧ W.frozen? ⟨g, 4, none⟩ = false ∧ W.frozen? ⟨g, 5, none⟩ = false ∧ W.frozen? ⟨g, 6, none⟩ = false ∧ W.frozen? ⟨g, 7, none⟩ = false ∧ W.frozen? ⟨g, 8, none⟩ = false ∧ W.frozen? ⟨g, 9, none⟩ = false ∧ W.frozen? ⟨g, 10, none⟩ = false :=
 ⟨(blk_cell h 0).trans rfl, (blk_cell h 1).trans rfl, (blk_cell h 2).trans rfl, (blk_cell h 3).trans rfl, (blk_cell h 4).trans rfl, (blk_cell h 5).trans rfl, (blk_cell h 6).trans rfl, (blk_cell h 7).trans rfl, (blk_cell h 8).trans rfl, (blk_cell h 9).trans rfl, (blk_cell h 10).trans rfl, blk_frozen h 0, blk_frozen h 1, blk_frozen h 2, blk_frozen h 3, blk_frozen h 4, blk_frozen h 5, blk_frozen h 6, blk_frozen h 7, blk_frozen h 8, blk_frozen h 9, blk_frozen h 10⟩
end Go.Proofs.YtodbnnfiadcbaaaH
namespace Go.Proofs
open Go.Shelf
def Try.lays169_ren : Go.Shelf.Ren := ⟨fun | 169 => 76 | n => n, fun | 70 => 119 | 9 => 9 | 0 => 0 | 72 => 121 | 37 => 80 | 127 => 129 | 3 => 3 | 5 => 5 | n => n, fun | n => n⟩
open Go.RowKit in
open Go.RowKit in
open Go.RowKit in
def Try.lays241_ren : Go.Shelf.Ren := ⟨fun | 241 => 84 | 277 => 91 | n => n, fun | 70 => 119 | 3 => 3 | 0 => 0 | 72 => 121 | 37 => 80 | 5 => 5 | n => n, fun | n => n⟩
open Go.RowKit in
def Try.lays165_ren : Go.Shelf.Ren := ⟨fun | 165 => 74 | 240 => 83 | 241 => 84 | 276 => 90 | 277 => 91 | n => n, fun | 70 => 119 | 3 => 3 | 0 => 0 | 4 => 4 | 9 => 9 | 20 => 20 | 72 => 121 | 37 => 80 | 164 => 132 | 5 => 5 | n => n, fun | n => n⟩
open Go.RowKit in
def Try.lays156_ren : Go.Shelf.Ren := ⟨fun | 156 => 57 | 165 => 74 | 166 => 75 | 169 => 76 | 240 => 83 | 241 => 84 | 276 => 90 | 277 => 91 | n => n, fun | 31 => 39 | 9 => 9 | 3 => 3 | 4 => 4 | 0 => 0 | 20 => 20 | 72 => 121 | 76 => 125 | 70 => 119 | 37 => 80 | 75 => 124 | 127 => 129 | 164 => 132 | 5 => 5 | 80 => 127 | n => n, fun | n => n⟩
theorem Try.lays156 : Go.Proofs.Lays.n156 Try.prog Try.lays156_ren := {
 mixed := by kernel_rfl
 f156 := Try.func57.trans (congrArg some (by kernel_rfl))
 f165 := Try.func74.trans (congrArg some (by kernel_rfl))
 f166 := Try.func75.trans (congrArg some (by kernel_rfl))
 f169 := Try.func76.trans (congrArg some (by kernel_rfl))
 f240 := Try.func83.trans (congrArg some (by kernel_rfl))
 f241 := Try.func84.trans (congrArg some (by kernel_rfl))
 f276 := Try.func90.trans (congrArg some (by kernel_rfl))
 f277 := Try.func91.trans (congrArg some (by kernel_rfl))
 t0 := Try.underlying0
 a0 := Try.isAgg0
 z0 := Try.sizeOf0
 v0 := Try.zeroValue0
 t3 := Try.underlying3
 a3 := Try.isAgg3
 z3 := Try.sizeOf3
 v3 := Try.zeroValue3
 t4 := Try.underlying4
 a4 := Try.isAgg4
 z4 := Try.sizeOf4
 v4 := Try.zeroValue4
 t9 := Try.underlying9
 a9 := Try.isAgg9
 z9 := Try.sizeOf9
 v9 := Try.zeroValue9
 t20 := Try.underlying20
 a20 := Try.isAgg20
 z20 := Try.sizeOf20
 v20 := Try.zeroValue20
 t31 := Try.underlying39
 a31 := Try.isAgg39
 z31 := Try.sizeOf39
 v31 := Try.zeroValue39
 t37 := Try.underlying80
 a37 := Try.isAgg80
 z37 := Try.sizeOf80
 v37 := Try.zeroValue80
 t70 := Try.underlying119
 a70 := Try.isAgg119
 z70 := Try.sizeOf119
 v70 := Try.zeroValue119
 t72 := Try.underlying121
 a72 := Try.isAgg121
 z72 := Try.sizeOf121
 v72 := Try.zeroValue121
 t75 := Try.underlying124
 a75 := Try.isAgg124
 z75 := Try.sizeOf124
 v75 := Try.zeroValue124
 t76 := Try.underlying125
 a76 := Try.isAgg125
 z76 := Try.sizeOf125
 v76 := Try.zeroValue125
 t127 := Try.underlying129
 a127 := Try.isAgg129
 z127 := Try.sizeOf129
 v127 := Try.zeroValue129
 t164 := Try.underlying132
 a164 := Try.isAgg132
 z164 := Try.sizeOf132
 v164 := Try.zeroValue132 }
theorem Try.Builder_Extra_156 : Builder.Extra Try.prog Try.lays156_ren := {
 sizeBuilder := by kernel_rfl
 liesBuilder := by kernel_rfl
 t5 := Try.underlying5
 a5 := Try.isAgg5
 z5 := Try.sizeOf5
 v5 := Try.zeroValue5
 infoByte := by kernel_rfl
 cellsByte := by kernel_rfl
 sizeByte := by kernel_rfl
 neB5 := by decide }
open Go.RowKit in
theorem Try.strings_Join_none (a : Option Addr) (c : Nat) (sep : ByteArray) (w : World) :
  Calls Try.prog 57 #[.slice a 0 c, .string sep] w fun e w' => e = .returned (.string ⟨#[]⟩) ∧ w' = w := Any.strings_Join_none Try.lays156 Try.Builder_Extra_156 a c sep w
open Go.RowKit in
theorem Try.strings_Join (bk o c : Nat) (xs : List ByteArray) (sep : ByteArray) (w : World) (hcells : ∀ (j : Nat) x, xs[j]? = some x → w.cell? ⟨bk, o + j, none⟩ = some (.string x)) (hbk : bk < w.heap.size) (hN : xs.length ≤ 140737488355328) (hcap : xs.length ≤ c) (hlen : (Lib.join (xs.map (·.data.toList)) sep.data.toList).length ≤ 140737488355328) :
  Calls Try.prog 57 #[.slice (some ⟨bk, o, none⟩) xs.length c, .string sep] w fun e w' => e = .returned (.string ⟨(Lib.join (xs.map (·.data.toList)) sep.data.toList).toArray⟩) ∧ Below w.heap.size w w' := Any.strings_Join Try.lays156 Try.Builder_Extra_156 bk o c xs sep w hcells hbk hN hcap hlen
def Try.lays137_ren : Go.Shelf.Ren := ⟨fun | 137 => 58 | 217 => 77 | 266 => 85 | n => n, fun | 9 => 9 | 5 => 5 | 3 => 3 | n => n, fun | n => n⟩
theorem Try.lays137 : Go.Proofs.Lays.n137 Try.prog Try.lays137_ren := {
 mixed := by kernel_rfl
 f137 := Try.func58.trans (congrArg some (by kernel_rfl))
 f217 := Try.func77.trans (congrArg some (by kernel_rfl))
 f266 := Try.func85.trans (congrArg some (by kernel_rfl))
 t3 := Try.underlying3
 a3 := Try.isAgg3
 z3 := Try.sizeOf3
 v3 := Try.zeroValue3
 t5 := Try.underlying5
 a5 := Try.isAgg5
 z5 := Try.sizeOf5
 v5 := Try.zeroValue5
 t9 := Try.underlying9
 a9 := Try.isAgg9
 z9 := Try.sizeOf9
 v9 := Try.zeroValue9 }
open Go.RowKit in
theorem Try.strings_IndexByte (s : ByteArray) (c : Int) (w : World) :
  Calls Try.prog 58 #[.string s, .int .u8 c] w fun e w' => e = .returned (.int .i64 (Lib.indexByte s.data.toList c.toNat.toUInt8)) ∧ w' = w := Any.strings_IndexByte Try.lays137 s c w
def Try.lays217_ren : Go.Shelf.Ren := ⟨fun | 217 => 77 | 266 => 85 | n => n, fun | 9 => 9 | 5 => 5 | 3 => 3 | n => n, fun | n => n⟩
theorem Try.lays217 : Go.Proofs.Lays.n217 Try.prog Try.lays217_ren := {
 mixed := by kernel_rfl
 f217 := Try.func77.trans (congrArg some (by kernel_rfl))
 f266 := Try.func85.trans (congrArg some (by kernel_rfl))
 t3 := Try.underlying3
 a3 := Try.isAgg3
 z3 := Try.sizeOf3
 v3 := Try.zeroValue3
 t5 := Try.underlying5
 a5 := Try.isAgg5
 z5 := Try.sizeOf5
 v5 := Try.zeroValue5
 t9 := Try.underlying9
 a9 := Try.isAgg9
 z9 := Try.sizeOf9
 v9 := Try.zeroValue9 }
open Go.RowKit Go.Lib in
theorem Try.stringslite_IndexByte (s : ByteArray) (c : Int) (w : World) :
  Calls Try.prog 77 #[.string s, .int .u8 c] w fun e w' => e = .returned (.int .i64 (Lib.indexByte s.data.toList c.toNat.toUInt8)) ∧ w' = w := Any.stringslite_IndexByte Try.lays217 s c w
def Try.lays206_ren : Go.Shelf.Ren := ⟨fun | 206 => 78 | n => n, fun | 9 => 9 | 4 => 4 | 3 => 3 | n => n, fun | n => n⟩
theorem Try.lays206 : Go.Proofs.Lays.n206 Try.prog Try.lays206_ren := {
 mixed := by kernel_rfl
 f206 := Try.func78.trans (congrArg some (by kernel_rfl))
 t3 := Try.underlying3
 a3 := Try.isAgg3
 z3 := Try.sizeOf3
 v3 := Try.zeroValue3
 t4 := Try.underlying4
 a4 := Try.isAgg4
 z4 := Try.sizeOf4
 v4 := Try.zeroValue4
 t9 := Try.underlying9
 a9 := Try.isAgg9
 z9 := Try.sizeOf9
 v9 := Try.zeroValue9 }
open Go.RowKit Go.Lib in
theorem Try.stringslite_HasPrefix (s p : ByteArray) (w : World) :
  Calls Try.prog 78 #[.string s, .string p] w fun e w' => e = .returned (.bool (Lib.hasPrefix s.data.toList p.data.toList)) ∧ w' = w := Any.stringslite_HasPrefix Try.lays206 s p w
def Try.lays99_ren : Go.Shelf.Ren := ⟨fun | 99 => 59 | 206 => 78 | n => n, fun | 9 => 9 | 4 => 4 | 3 => 3 | n => n, fun | n => n⟩
theorem Try.lays99 : Go.Proofs.Lays.n99 Try.prog Try.lays99_ren := {
 mixed := by kernel_rfl
 f99 := Try.func59.trans (congrArg some (by kernel_rfl))
 f206 := Try.func78.trans (congrArg some (by kernel_rfl))
 t3 := Try.underlying3
 a3 := Try.isAgg3
 z3 := Try.sizeOf3
 v3 := Try.zeroValue3
 t4 := Try.underlying4
 a4 := Try.isAgg4
 z4 := Try.sizeOf4
 v4 := Try.zeroValue4
 t9 := Try.underlying9
 a9 := Try.isAgg9
 z9 := Try.sizeOf9
 v9 := Try.zeroValue9 }
open Go.RowKit Go.Lib in
theorem Try.strings_HasPrefix (s p : ByteArray) (w : World) :
  Calls Try.prog 59 #[.string s, .string p] w fun e w' => e = .returned (.bool (Lib.hasPrefix s.data.toList p.data.toList)) ∧ w' = w := Any.strings_HasPrefix Try.lays99 s p w
end Go.Proofs
namespace Go.Proofs.YtodbnnfiadcbaaaH
open Go.RowKit Go.Proofs.YtodbnnfiadcbaaaW.PrintWords Go.Proofs.YtodbnnfiadcbaaaW.PrintLast Go.Proofs.YtodbnnfiadcbaaaW.PrintMore
theorem strs_cells {w : World} {A : Option Addr} {xs : List ByteArray} (h : Kd.C Kd.string w A xs.length xs) (h0 : 0 < xs.length) :
  ∃ bk o, A = some ⟨bk, o, none⟩ ∧ (∀ (j : Nat) x, xs[j]? = some x → w.cell? ⟨bk, o + j, none⟩ = some (.string x)) ∧ bk < w.heap.size := by
 have hp : 0 < xs.length → ∃ ad, A = some ad ∧ ∀ j p, xs[j]? = some p → ∃ c, c.length = Kd.string.sz ∧ Kd.string.K w p c ∧ ∀ i u, c[i]? = some u → w.cell? (ad.add (j * Kd.string.sz + i)) = some u := by first | exact h.1.2.2 | exact h.2.2
 obtain ⟨ad, e0, hc⟩ := hp h0
 clear hp
 subst e0
 obtain ⟨b, o, s⟩ := ad
 obtain ⟨c, hl, rfl, hi⟩ := hc 0 _ (List.getElem?_eq_getElem h0)
 have h1 := hi 0 _ rfl
 have hs : s = none := by
  cases s with
  | none => rfl
  | some q =>
   simp only [Nat.zero_mul, Nat.add_zero, Addr.add, if_true, World.cell?, Option.isSome_some] at h1
   split at h1 <;> simp at h1
 subst hs
 refine ⟨b, o, rfl, fun j x hx => ?_, ?_⟩
 ·obtain ⟨c, hl, rfl, hi⟩ := hc j x hx
  have h2 := hi 0 _ rfl
  have e : (⟨b, o, none⟩ : Addr).add (j * Kd.string.sz + 0) = ⟨b, o + j, none⟩ := by
   show (⟨b, o, none⟩ : Addr).add (j * 1 + 0) = ⟨b, o + j, none⟩
   unfold Addr.add
   by_cases hj : j = 0
   ·subst hj; simp
   ·simp [hj]
  rw [e] at h2
  exact h2
 ·have := World.block_lt_of_cell? w _ h1
  simpa [Addr.add] using this
/-- xs[:n:n] of a row: its capacity is its length. -/
theorem cut_max {P : Program} (t e : TypeId) (kh : IntKind) {i : TypeInfo} (ht : P.underlying t = some (.slice e)) (hi : P.info? e = some i) (A : Option Addr) (n c : Nat) (j : Int) (h0 : 0 ≤ j) (hm : j ≤ n) (hc : n ≤ c) :
  ∀ W : World, (Instr.slice t (.slice A n c) none (some (.int kh j)) (some (.int kh j))).run P W = .ok (.slice A j.toNat j.toNat) W := by
 intro W
 have hel : P.elem t = e := by simp [Program.elem, ht]
 have hu : P.underlying t = some (.slice (P.elem t)) := by rw [hel]; exact ht
 have ha : (A.map fun x => x.add 0) = A := by cases A <;> simp [Addr.add]
 rw [run_slice_hm W t A n c hu kh kh j j h0 (Int.le_refl _) (by omega), hel]
 simp [sizeOf, typeInfo, hi, sliced, Result.andThen, ha]
end Go.Proofs.YtodbnnfiadcbaaaH
namespace Go
section
variable {P : Program} {a : Act} {w : World} {Q : Exit → Act → World → Prop}
theorem Exit.jump_normal_Ytodbnnfiadcbaaa (l : Nat) (J : Act → World → Prop) : Exit.jump l J Q .normal a w = Q .normal a w := rfl
theorem Exit.jump_exit_Ytodbnnfiadcbaaa (l : Nat) (J : Act → World → Prop) (id : Nat) : Exit.jump l J Q (.exit id) a w = Q (.exit id) a w := rfl
theorem Exit.jump_ret_Ytodbnnfiadcbaaa (l : Nat) (J : Act → World → Prop) : Exit.jump l J Q .ret a w = Q .ret a w := rfl
theorem Exit.jump_panic_Ytodbnnfiadcbaaa (l : Nat) (J : Act → World → Prop) (ch : List PanicEntry) : Exit.jump l J Q (.panic ch) a w = Q (.panic ch) a w := rfl
/-- A scope with one label, its code behind the label walked once: an invariant that bears a number, which every way back to the label lowers. -/
theorem wp_scope_ghost_Ytodbnnfiadcbaaa {S B : Code} (l : Nat) (I : Nat → Act → World → Prop) (hf : findLabel S l = some (.seq .skip B))
  (round : ∀ n a w, I n a w → ∀ (J : Nat → Act → World → Prop) (K : Act → World → Prop), (∀ k a' w', I k a' w' → J k a' w') → (∀ a' w', Handed J n a' w' → K a' w') → B.wp P (Exit.jump l K Q) a w)
  (first : Go.Proofs.YtodbnnfiadcbaaaW.PrintWords.Aside0 (∀ n a w, I n a w → B.wp P (Exit.jump l (fun a w => ∃ n, I n a w) Q) a w) → S.wp P (Exit.jump l (fun a w => ∃ n, I n a w) Q) a w) : (Code.scope S).wp P Q a w := by
 refine wp_scope_jumps l (fun a w => ∃ n, I n a w) (fun a w => leastOf (fun n => I n a w)) hf (first ⟨fun n a w h => ?_⟩) ?_
 ·exact round n a w h I _ (fun _ _ _ q => q) fun a' w' q => by
   obtain ⟨n', _, h'⟩ := q
   exact ⟨n', h'⟩
 ·intro a w hI
  refine wp_seq (wp_skip ?_)
  exact round _ a w (leastOf_spec hI).1 I _ (fun _ _ _ q => q) fun a' w' q => by
   obtain ⟨n', hlt, hI'⟩ := q
   exact ⟨⟨n', hI'⟩, Nat.lt_of_le_of_lt ((leastOf_spec ⟨n', hI'⟩).2 n' hI') hlt⟩
end
end Go
namespace Go.Proofs.YtodbnnfiadcbaaaW.PrintWords
open Go.RowKit
namespace Kd
end Kd
end Go.Proofs.YtodbnnfiadcbaaaW.PrintWords
namespace Go.Proofs.YtodbnnfiadcbaaaH
open Go.RowKit Go.Proofs.YtodbnnfiadcbaaaW.PrintWords Go.Proofs.YtodbnnfiadcbaaaW.PrintLast Go.Proofs.YtodbnnfiadcbaaaW.PrintMore
theorem M0 {p : Prop} (h : p) : Aside0 p := ⟨h⟩
theorem bT {α : Type} [BEq α] [LawfulBEq α] {a b : α} (h : a = b) : (a == b) = true := beq_iff_eq.mpr h
theorem bF {α : Type} [BEq α] [LawfulBEq α] {a b : α} (h : ¬ a = b) : (a == b) = false := beq_eq_false_iff_ne.mpr h
theorem nT {α : Type} [BEq α] [LawfulBEq α] {a b : α} (h : ¬ a = b) : (a != b) = true := bne_iff_ne.mpr h
theorem nF {α : Type} [BEq α] [LawfulBEq α] {a b : α} (h : a = b) : (a != b) = false := bne_eq_false_iff_eq.mpr h
end Go.Proofs.YtodbnnfiadcbaaaH
namespace Go.Proofs.Ytodbnnfiadcbaaa.P
open Go.RowKit Go.Proofs.YtodbnnfiadcbaaaW.PrintWords Go.Proofs.YtodbnnfiadcbaaaW.PrintLast Go.Proofs.YtodbnnfiadcbaaaW.PrintMore
attribute [local go_sem] max2_int min2_int max_two min_two max_three min_three max_four min_four   -- for this text's walks alone
set_option linter.unusedVariables false
set_option linter.unusedSimpArgs false



def errW : Option Int → Value
 | none => .nilIface
 | some c => .iface 0 (.int .i64 c)
theorem errW_none : errW none = .nilIface := rfl
theorem errW_some (c : Int) : errW (some c) = .iface 0 (.int .i64 c) := rfl

theorem info4 : (Try.prog.info? 4).map (fun i => (i.zero, i.size, i.bytes)) = some (some (.bool false), 1, 1) := by kernel_rfl
theorem info9 : (Try.prog.info? 9).map (fun i => (i.zero, i.size, i.bytes)) = some (some (.string ⟨#[]⟩), 1, 16) := by kernel_rfl
theorem info28 : (Try.prog.info? 28).map (fun i => (i.zero, i.size, i.bytes)) = some (some (.agg #[(.int .i64 0), (.int .i64 0), (.int .i64 0), (.slice none 0 0)]), 4, 48) := by kernel_rfl
theorem info56 : (Try.prog.info? 56).map (fun i => (i.zero, i.size, i.bytes)) = some (some (.agg #[(.string ⟨#[]⟩), (.int .i64 0)]), 2, 24) := by kernel_rfl
theorem info95 : (Try.prog.info? 95).map (fun i => (i.zero, i.size, i.bytes)) = some (some (.slice none 0 0), 1, 24) := by kernel_rfl
-- the values' own types
/-! #### struct type 56 -/
structure S56 where
 f0 : ByteArray
 f1 : Int
def z56 : S56 := ⟨(⟨#[]⟩ : ByteArray), (0 : Int)⟩
def k56 : Kd S56 := Kd.iso (Kd.pair Kd.string (Kd.int .i64)) (fun x : S56 => (x.f0, x.f1))
theorem k56_heap : Kd.Heap k56 := Kd.heap_iso _ (Kd.heap_pair Kd.heap_string (Kd.heap_int .i64))
theorem k56_open {w : World} {x : S56} {cs : List Value} (h : k56.K w x cs) : cs = [.string x.f0, .int .i64 x.f1] := by
 obtain ⟨_, _, rfl, rfl, rfl⟩ := h
 exact rfl
theorem k56_mkM (w : World) (base : Nat) (ok : Nat → Prop) (x : S56)  : k56.M w base ok x [.string x.f0, .int .i64 x.f1] := ⟨[.string x.f0], [.int .i64 x.f1], rfl, rfl, rfl⟩
def rd_T56 (xs : List S56) (i : Int) : S56 := xs.getD i.toNat z56
theorem at_T56 {w : World} {A : Option Addr} {n : Nat} {xs : List S56} (h : Kd.C k56 w A n xs) (i : Int) (h0 : 0 ≤ i) (h1 : i < n) : ∃ ad , A = some ad ∧ w.cell? (ad.add (i.toNat * 2)) = some (.string (rd_T56 xs i).f0) ∧ w.cell? ⟨(ad.add (i.toNat * 2)).block, (ad.add (i.toNat * 2)).off + 1, none⟩ = some (.int .i64 (rd_T56 xs i).f1) := by
 obtain ⟨ad, c, e, _, hK, hc0⟩ := Kd.C_get h z56 i h0 h1
 have hc : ∀ j u, c[j]? = some u → w.cell? (ad.add (i.toNat * 2 + j)) = some u := hc0
 obtain rfl := k56_open hK
 exact ⟨ad, e, hc 0 _ rfl, by rw [← add_field _ _ 1 (by omega)]; exact hc 1 _ rfl⟩

/-! #### struct type 28, nested in itself -/
structure S28 where
 f0 : Int
 f1 : Int
 f2 : Int
 f3 : (List S28)
def z28 : S28 := ⟨(0 : Int), (0 : Int), (0 : Int), ([] : List S28)⟩
def F28 (d : Kd S28) : Kd S28 := Kd.iso (Kd.pair (Kd.int .i64) (Kd.pair (Kd.int .i64) (Kd.pair (Kd.int .i64) (Kd.slice 28 d)))) (fun x : S28 => (x.f0, x.f1, x.f2, x.f3))
theorem mono28 : Kd.Mono F28 := Kd.mono_iso _ (Kd.mono_pair (Kd.mono_const _) (Kd.mono_pair (Kd.mono_const _) (Kd.mono_pair (Kd.mono_const _) (Kd.mono_slice 28 Kd.mono_id))))
theorem sub28 : Kd.Sub F28 [28] := Kd.sub_iso _ (Kd.sub_pair (Kd.sub_const _ (by decide)) (Kd.sub_pair (Kd.sub_const _ (by decide)) (Kd.sub_pair (Kd.sub_const _ (by decide)) (Kd.sub_slice 28 (by decide) Kd.sub_id))))
theorem sz28 : ∀ n, (Kd.upto F28 4 [28] n).sz = 4 := Kd.upto_sz (fun _ => rfl)
def k28 : Kd S28 := Kd.fix F28 4 [28] sz28 (Kd.upto_E sub28)
theorem k28_heap : Kd.Heap k28 := Kd.heap_fix (fun _ h_ => Kd.heap_iso _ (Kd.heap_pair (Kd.heap_int .i64) (Kd.heap_pair (Kd.heap_int .i64) (Kd.heap_pair (Kd.heap_int .i64) (Kd.heap_slice 28 h_)))))
theorem k28_open {w : World} {x : S28} {cs : List Value} (h : k28.K w x cs) : ∃ A3 c3, cs = [.int .i64 x.f0, .int .i64 x.f1, .int .i64 x.f2, .slice A3 x.f3.length c3] ∧ x.f3.length ≤ c3 ∧ k28.C w A3 x.f3.length x.f3 := by
 obtain ⟨n, h⟩ := h
 cases n with
 | zero => exact h.elim
 | succ n =>
  obtain ⟨_, _, rfl, rfl, ⟨_, _, rfl, rfl, ⟨_, _, rfl, rfl, ⟨A3, c3, rfl, l3, g3⟩⟩⟩⟩ := h
  exact ⟨A3, c3, rfl, l3, Kd.fix_C g3⟩
theorem k28_mk (w : World) (x : S28) {A3 : Option Addr} {c3 : Nat} (l3 : x.f3.length ≤ c3) (g3 : k28.C w A3 x.f3.length x.f3) : k28.K w x [.int .i64 x.f0, .int .i64 x.f1, .int .i64 x.f2, .slice A3 x.f3.length c3] := by
 obtain ⟨n3, q3⟩ := Kd.fix_C_back mono28 g3
 have r3 := Kd.upto_C_le mono28 sz28 (show n3 ≤ n3 by omega) q3
 exact ⟨n3 + 1, ⟨[.int .i64 x.f0], [.int .i64 x.f1, .int .i64 x.f2, .slice A3 x.f3.length c3], rfl, rfl, ⟨[.int .i64 x.f1], [.int .i64 x.f2, .slice A3 x.f3.length c3], rfl, rfl, ⟨[.int .i64 x.f2], [.slice A3 x.f3.length c3], rfl, rfl, ⟨A3, c3, rfl, l3, r3⟩⟩⟩⟩⟩
theorem k28_openF {W : World} {ok : Nat → Prop} {x : S28} {cs : List Value} (h : Kd.FK k28 W ok x cs) : ∃ A3 c3, cs = [.int .i64 x.f0, .int .i64 x.f1, .int .i64 x.f2, .slice A3 x.f3.length c3] ∧ x.f3.length ≤ c3 ∧ Kd.F k28 W ok A3 x.f3.length x.f3 := by
 obtain ⟨A3, c3, rfl, l3, _⟩ := k28_open (Kd.FK_now h)
 exact ⟨A3, c3, rfl, l3, (fun W' hW => by obtain ⟨A3_, c3_, he, l3_, g3_⟩ := k28_open (h W' hW); injection (Option.some.inj (show some (Value.slice A3 x.f3.length c3) = some (Value.slice A3_ x.f3.length c3_) from congrArg (fun l => l[3]?) he)) with ha_ _ _; rw [ha_]; exact g3_)⟩
theorem k28_mkF (W : World) (ok : Nat → Prop) (x : S28) {A3 : Option Addr} {c3 : Nat} (l3 : x.f3.length ≤ c3) (g3 : Kd.F k28 W ok A3 x.f3.length x.f3) : Kd.FK k28 W ok x [.int .i64 x.f0, .int .i64 x.f1, .int .i64 x.f2, .slice A3 x.f3.length c3] := fun W2 hW => k28_mk W2 x l3 (g3 W2 hW)
def rd_T28 (xs : List S28) (i : Int) : S28 := xs.getD i.toNat z28
theorem at_T28 {w : World} {A : Option Addr} {n : Nat} {xs : List S28} (h : Kd.C k28 w A n xs) (i : Int) (h0 : 0 ≤ i) (h1 : i < n) : ∃ ad A3 c3, A = some ad ∧ w.cell? (ad.add (i.toNat * 4)) = some (.int .i64 (rd_T28 xs i).f0) ∧ w.cell? ⟨(ad.add (i.toNat * 4)).block, (ad.add (i.toNat * 4)).off + 1, none⟩ = some (.int .i64 (rd_T28 xs i).f1) ∧ w.cell? ⟨(ad.add (i.toNat * 4)).block, (ad.add (i.toNat * 4)).off + 2, none⟩ = some (.int .i64 (rd_T28 xs i).f2) ∧ w.cell? ⟨(ad.add (i.toNat * 4)).block, (ad.add (i.toNat * 4)).off + 3, none⟩ = some (.slice A3 (rd_T28 xs i).f3.length c3) ∧ (rd_T28 xs i).f3.length ≤ c3 ∧ k28.C w A3 (rd_T28 xs i).f3.length (rd_T28 xs i).f3 := by
 obtain ⟨ad, c, e, _, hK, hc0⟩ := Kd.C_get h z28 i h0 h1
 have hc : ∀ j u, c[j]? = some u → w.cell? (ad.add (i.toNat * 4 + j)) = some u := hc0
 obtain ⟨A3, c3, rfl, l3, g3⟩ := k28_open hK
 exact ⟨ad, A3, c3, e, hc 0 _ rfl, by rw [← add_field _ _ 1 (by omega)]; exact hc 1 _ rfl, by rw [← add_field _ _ 2 (by omega)]; exact hc 2 _ rfl, by rw [← add_field _ _ 3 (by omega)]; exact hc 3 _ rfl, l3, g3⟩

def rd_L5 (xs : List (List Bool)) (i : Int) : (List Bool) := xs.getD i.toNat ([] : List Bool)
end Go.Proofs.Ytodbnnfiadcbaaa.P
namespace Go.Proofs.Ytodbnnfiadcbaaa.P
open Go.RowKit Go.Proofs.YtodbnnfiadcbaaaW.PrintWords Go.Proofs.YtodbnnfiadcbaaaW.PrintLast Go.Proofs.YtodbnnfiadcbaaaW.PrintMore
set_option linter.unusedVariables false
set_option linter.unusedSimpArgs false
def keyV (p : Addr) (n : Int) : Value := .agg #[.pointer (some p), .int .i64 n]
def PlainAt (W : World) (p : Addr) : Prop := ∃ cells t, W.heap[p.block]? = some (.cells cells t (0, 0))
theorem eq_ptr (d : Nat) (w : World) {p q : Addr} (hp : PlainAt w p) (hq : PlainAt w q) :
  (Op.equalIn (d + 1) 97 (.pointer (some p)) (.pointer (some q))).run Try.prog w = .ok (decide (p = q)) w := by
 have hu := Try.underlying97
 obtain ⟨j, hi, _, hsz, _⟩ := info_parts info28
 by_cases h : p = q
 ·subst h
  simp [Op.equalIn, run_underlying hu, sizeOf, typeInfo, hi, hsz, run_sameAddr_same]
 ·obtain ⟨cp, tp, hp⟩ := hp
  obtain ⟨cq, tq, hq⟩ := hq
  simp [Op.equalIn, run_underlying hu, sizeOf, typeInfo, hi, hsz, run_sameAddr_other w h hp hq, h]
theorem eq_key (d : Nat) (w : World) {p q : Addr} (m n : Int) (hp : PlainAt w p) (hq : PlainAt w q) :
  (Op.equalIn (d + 2) 115 (keyV p m) (keyV q n)).run Try.prog w = .ok (decide (p = q) && (m == n)) w := by
 refine eqA_of Try.underlying115 (by kernel_rfl) ?_
 refine eqf_cons (by rfl) (by go_simp) (by go_simp) (eq_ptr d w hp hq) ?_
 exact eqf_last (by rfl) (by go_simp; rfl) (by go_simp; rfl) (by go_simp)
theorem check_key (em : Bool) (w : World) (p : Addr) (n : Int) : (Instr.checkKey em 10000 115 (keyV p n)).run Try.prog w = .ok () w := by
 have h1 : ∀ (d : Nat) , (Instr.checkKey em (d + 1) 97 (.pointer (some p))).run Try.prog w = .ok () w := fun d => by simp [Instr.checkKey, run_underlying Try.underlying97]
 have h2 : ∀ (d : Nat) , (Instr.checkKey em (d + 1) 3 (.int .i64 n)).run Try.prog w = .ok () w := fun d => by simp [Instr.checkKey, run_underlying Try.underlying3]
 have p1 : (part 97 #[.pointer (some p), .int .i64 n] 0).run Try.prog w = .ok (.pointer (some p)) w := by go_simp
 have p2 : (part 3 #[.pointer (some p), .int .i64 n] 1).run Try.prog w = .ok (.int .i64 n) w := by go_simp
 unfold keyV
 rw [show (10000 : Nat) = 9998 + 1 + 1 from rfl, Instr.checkKey]
 simp only [Sem.run_bind, run_underlying Try.underlying115, Result.andThen_ok]
 simp [p1, p2, h1, h2]
def KeysOk (W : World) (es : List MapEntry) : Prop := ∀ e ∈ es, ∃ (p : Addr) (n : Int), e.key = keyV p n ∧ PlainAt W p
theorem find_asking (w : World) {p : Addr} (n : Int) (hp : PlainAt w p) : ∀ (es : List MapEntry) (i : Nat), KeysOk w es →
  (∃ r : Option (Nat × Value), (Instr.findAsking 115 (keyV p n) es i).run Try.prog w = .ok r w ∧ ∀ j v, r = some (j, v) → ∃ e, i ≤ j ∧ es[j - i]? = some e ∧ e.key = keyV p n ∧ e.val = v)
 | [], i, _ => ⟨none, by simp [Instr.findAsking], fun _ _ h => by cases h⟩
 | e :: es, i, hk => by
  obtain ⟨q, m, he, hq⟩ := hk e (by simp)
  have hrun := eq_key 9998 w n m hp hq
  have heq : (Op.equal 115 (keyV p n) e.key).run Try.prog w = .ok (decide (p = q) && (n == m)) w := by rw [he]; exact hrun
  by_cases hb : (decide (p = q) && (n == m)) = true
  ·refine ⟨some (i, e.val), ?_, ?_⟩
   ·rw [Instr.findAsking]; simp only [Sem.run_bind, heq, Result.andThen_ok, hb, if_true]; simp
   ·intro j v h
    injection h with h
    injection h with h1 h2
    subst h1
    simp only [Bool.and_eq_true, decide_eq_true_eq, beq_iff_eq] at hb
    obtain ⟨rfl, rfl⟩ := hb
    exact ⟨e, Nat.le_refl _, by simp, he, h2⟩
  ·obtain ⟨r, hr, hs⟩ := find_asking w n hp es (i + 1) (fun x hx => hk x (by simp [hx]))
   refine ⟨r, ?_, ?_⟩
   ·rw [Instr.findAsking]; simp only [Sem.run_bind, heq, Result.andThen_ok, hb]; simpa using hr
   ·intro j v h
    obtain ⟨e', h1, h2, h3, h4⟩ := hs j v h
    refine ⟨e', by omega, ?_, h3, h4⟩
    rw [show j - i = (j - (i + 1)) + 1 by omega, List.getElem?_cons_succ]
    exact h2
theorem find_key (w : World) {p : Addr} (n : Int) (hp : PlainAt w p) (es : List MapEntry) (hk : KeysOk w es) :
  ∃ r : Option (Nat × Value), (Instr.findKey 115 (keyV p n) es).run Try.prog w = .ok r w ∧ ∀ j v, r = some (j, v) → ∃ e, es[j]? = some e ∧ e.key = keyV p n ∧ e.val = v := by
 obtain ⟨r, hr, hs⟩ := find_asking w n hp es 0 hk
 cases es with
 | nil => exact ⟨none, by simp [Instr.findKey, run_underlying Try.underlying115, Instr.findNow], fun _ _ h => by cases h⟩
 | cons e es =>
  refine ⟨r, ?_, fun j v h => ?_⟩
  ·simp only [Instr.findKey, Sem.run_bind, run_underlying Try.underlying115, Result.andThen_ok]
   have : Instr.findNow (TypeDesc.struct #[{ name := "node", type := 97, offset := 0, embedded := false, tag := "", pkgPath := "canopy/expr", byteOffset := 0 }, { name := "at", type := 3, offset := 1, embedded := false, tag := "", pkgPath := "canopy/expr", byteOffset := 8 }]) (keyV p n) (e :: es) 0 = none := by rfl
   rw [this]
   exact hr
  ·obtain ⟨e', _, h2, h3, h4⟩ := hs j v h
   exact ⟨e', by simpa using h2, h3, h4⟩
/-- 'm[k]' with 'ok': what is found is an entry's. -/
theorem lookup_run (w : World) {p : Addr} (n : Int) (hp : PlainAt w p) {bm clk : Nat} {es : Array MapEntry} (hb : w.heap[bm]? = some (.map es clk)) (hk : KeysOk w es.toList) :
  ∃ (v : Value) (b : Bool), (Instr.lookup 92 (.map (some bm)) (keyV p n) true).run Try.prog w = .ok (.tuple #[v, .bool b]) w ∧ (b = true → ∃ e ∈ es.toList, e.key = keyV p n ∧ e.val = v) := by
 obtain ⟨r, hr, hs⟩ := find_key w n hp es.toList hk
 have hz : (zeroValue 95).run Try.prog w = .ok (.slice none 0 0) w := by
  obtain ⟨i, hi, hz, _, _⟩ := info_parts info95
  simp [zeroValue, typeInfo, hi, hz]
 cases r with
 | none => exact ⟨.slice none 0 0, false, by simp [Instr.lookup, run_underlying Try.underlying92, MapKept.run_getObj_map hb, MapKept.run_setObj_map _ hb, Result.andThen, check_key, hr, hz], fun h => by cases h⟩
 | some z =>
  obtain ⟨j, v⟩ := z
  obtain ⟨e, h2, h3, h4⟩ := hs j v rfl
  exact ⟨v, true, by simp [Instr.lookup, run_underlying Try.underlying92, MapKept.run_getObj_map hb, MapKept.run_setObj_map _ hb, Result.andThen, check_key, hr], fun _ => ⟨e, List.mem_of_getElem? h2, h3, h4⟩⟩
theorem key_stays (w : World) (p : Addr) (n : Int) : (Instr.keyThatStays (keyV p n) (keyV p n)).run Try.prog w = .ok (keyV p n) w := by
 have : Instr.sameBits 10000 (keyV p n) (keyV p n) = true := by simp [keyV, Instr.sameBits]
 simp [Instr.keyThatStays, this]
/-- 'm[k] = v': one entry more, or an entry with this value. -/
theorem update_run (w : World) {p : Addr} (n : Int) (v : Value) (hp : PlainAt w p) {bm clk : Nat} {es : Array MapEntry} (hb : w.heap[bm]? = some (.map es clk)) (hk : KeysOk w es.toList) :
  ∃ es' clk', (Instr.mapUpdate 92 (.map (some bm)) (keyV p n) v).run Try.prog w = .ok () { w with heap := w.heap.setIfInBounds bm (.map es' clk') } ∧ ∀ e ∈ es'.toList, e ∈ es.toList ∨ e.key = keyV p n ∧ e.val = v := by
 obtain ⟨r, hr, hs⟩ := find_key w n hp es.toList hk
 cases r with
 | none =>
  refine ⟨es.push { key := keyV p n, val := v, born := clk }, clk + 1, ?_, ?_⟩
  ·simp [Instr.mapUpdate, run_underlying Try.underlying92, MapKept.run_getObj_map hb, MapKept.run_setObj_map _ hb, Result.andThen, check_key, hr]
  ·intro e he
   simp at he
   rcases he with he | rfl
   ·exact .inl (by simpa using he)
   ·exact .inr ⟨rfl, rfl⟩
 | some z =>
  obtain ⟨j, u⟩ := z
  obtain ⟨e0, h2, h3, h4⟩ := hs j u rfl
  refine ⟨es.modify j fun e => { e with key := keyV p n, val := v }, clk, ?_, ?_⟩
  ·have h5 : es[j]? = some e0 := by simpa using h2
   simp [Instr.mapUpdate, run_underlying Try.underlying92, MapKept.run_getObj_map hb, MapKept.run_setObj_map _ hb, Result.andThen, check_key, hr, h5, h3, key_stays]
  ·intro e he
   obtain ⟨i, hi⟩ := List.getElem?_of_mem he
   rw [Array.getElem?_toList, Array.getElem?_modify] at hi
   split at hi
   ·cases hq : es[i]? with
    | none => rw [hq] at hi; cases hi
    | some x =>
     rw [hq] at hi
     injection hi with hi
     subst hi
     exact .inr ⟨rfl, rfl⟩
   ·exact .inl (List.mem_of_getElem? (by rw [Array.getElem?_toList]; exact hi))
end Go.Proofs.Ytodbnnfiadcbaaa.P
namespace Go.Proofs.Ytodbnnfiadcbaaa.P
open Go.RowKit Go.Proofs.YtodbnnfiadcbaaaW.PrintWords Go.Proofs.YtodbnnfiadcbaaaW.PrintLast Go.Proofs.YtodbnnfiadcbaaaW.PrintMore
/-! #### numbers, told without omega in a walk -/
theorem wrap_suc {j n : Nat} (h : j < n) (hn : n ≤ 9223372036854775807) : wrap64 ((j : Int) + 1) = ((j + 1 : Nat) : Int) := by unfold wrap64; omega
theorem tr_lt {j n : Nat} (h : j < n) : ((j : Int) < (n : Int)) = True := eq_true (Int.ofNat_lt.2 h)
theorem tr_ge (j : Nat) : (0 ≤ (j : Int)) = True := eq_true (Int.natCast_nonneg _)
theorem tr_dlt {j n : Nat} (h : j < n) : decide ((j : Int) < (n : Int)) = true := decide_eq_true (Int.ofNat_lt.2 h)
theorem fl_lt {j n : Nat} (h : ¬ j < n) : ((j : Int) < (n : Int)) = False := eq_false fun e => h (Int.ofNat_lt.1 e)
theorem fl_dlt {j n : Nat} (h : ¬ j < n) : decide ((j : Int) < (n : Int)) = false := decide_eq_false fun e => h (Int.ofNat_lt.1 e)
theorem tr_suc {j n : Nat} (h : j + 1 < n) : ((j : Int) + 1 < (n : Int)) = True := eq_true (by omega)
theorem tr_suc0 (j : Nat) : (0 ≤ (j : Int) + 1) = True := eq_true (by omega)
theorem toNat_suc (j : Nat) : ((j : Int) + 1).toNat = j + 1 := by omega
theorem pred_ex {g j n : Nat} (h : g + j = n) (hj : j < n) : ∃ k, g = k + 1 ∧ Aside0 (k + (j + 1) = n) := ⟨g - 1, by omega, ⟨by omega⟩⟩
theorem ne_one {n : Nat} (h : ¬ n = 1) : ((n : Int) == 1) = false := beq_eq_false_iff_ne.mpr (by omega)
end Go.Proofs.Ytodbnnfiadcbaaa.P
namespace Go.Proofs.Ytodbnnfiadcbaaa.P
open Go.RowKit Go.Proofs.YtodbnnfiadcbaaaW.PrintWords Go.Proofs.YtodbnnfiadcbaaaW.PrintLast Go.Proofs.YtodbnnfiadcbaaaW.PrintMore
attribute [local go_sem] max2_int min2_int max_two min_two max_three min_three max_four min_four   -- for this text's walks alone
set_option linter.unusedVariables false
set_option linter.unusedSimpArgs false

theorem eqA56 (d : Nat) (w : World) (x0 y0 : ByteArray) (x1 y1 : Int) :
  (Op.equalIn (d + 2) 56 (.agg #[.string x0, .int .i64 x1]) (.agg #[.string y0, .int .i64 y1])).run Try.prog w = .ok (x0.toList == y0.toList && (x1 == y1)) w := by
 refine eqA_of Try.underlying56 (by kernel_rfl) ?_
 refine eqf_cons (by rfl) (by go_simp; rfl) (by go_simp; rfl) (by go_simp) ?_
 exact eqf_last (by rfl) (by go_simp; rfl) (by go_simp; rfl) (by go_simp)
theorem eqA73 (d : Nat) (w : World) (x0 y0 : Int) (x1 y1 : ByteArray) (x2 y2 : Int) (x3 y3 : Int) :
  (Op.equalIn (d + 3) 73 (.agg #[.int .i64 x0, .string x1, .int .i64 x2, .int .u8 x3]) (.agg #[.int .i64 y0, .string y1, .int .i64 y2, .int .u8 y3])).run Try.prog w = .ok (x0 == y0 && ((x1.toList == y1.toList && (x2 == y2)) && (x3 == y3))) w := by
 refine eqA_of Try.underlying73 (by kernel_rfl) ?_
 refine eqf_cons (by rfl) (by go_simp; rfl) (by go_simp; rfl) (by go_simp) ?_
 refine eqf_cons (by rfl) (by go_simp) (by go_simp) (eqA56 (d + 0) w _ _ _ _) ?_
 exact eqf_last (by rfl) (by go_simp; rfl) (by go_simp; rfl) (by go_simp)
end Go.Proofs.Ytodbnnfiadcbaaa.P
namespace Go.Proofs.Ytodbnnfiadcbaaa.P
open Go.RowKit Go.Proofs.YtodbnnfiadcbaaaW.PrintWords Go.Proofs.YtodbnnfiadcbaaaW.PrintLast Go.Proofs.YtodbnnfiadcbaaaW.PrintMore Go.Proofs.YtodbnnfiadcbaaaH
attribute [local go_sem] max2_int min2_int max_two min_two max_three min_three max_four min_four   -- for this text's walks alone
set_option linter.unusedVariables false
set_option linter.unusedSimpArgs false

/-! ### canopylaw1_within: function 29 -/
def canopylaw1_within.f (a0 : Int) (a1 : Int) : Option (Int) := if a1 = 0 then (none) else (if (Int.tmod a0 a1) < 0 then (some (wrap64 ((Int.tmod a0 a1) + a1))) else (some (Int.tmod a0 a1)))
set_option maxHeartbeats 8000000 in
set_option maxRecDepth 100000 in
theorem canopylaw1_within.calls (a0 : Int) (a1 : Int) (r : Int) (w : World) (h : canopylaw1_within.f a0 a1 = some r) :
  Calls Try.prog 29 #[.int .i64 a0, .int .i64 a1] w fun e w' => e = .returned (.int .i64 r) ∧ w = w' := by
 have H : (if a1 = 0 then (none) else (if (Int.tmod a0 a1) < 0 then (some (wrap64 ((Int.tmod a0 a1) + a1))) else (some (Int.tmod a0 a1)))) = some r := h
 clear h
 by_cases c3 : a1 = 0
 ·rw [if_pos c3] at H
  exact absurd H (by simp)
 ·rw [if_neg c3] at H
  have c3b0 := bF c3
  have c3b1 := nT c3
  by_cases c4 : (Int.tmod a0 a1) < 0
  ·rw [if_pos c4] at H
   have c4b0 := decide_eq_true c4
   clear c4
   obtain rfl := Option.some.inj H
   go_enter Try.func29, Try.ntmps29
   go_wp2
   go_ret
   exact ⟨by rfl, rfl⟩
  ·rw [if_neg c4] at H
   have c4b0 := decide_eq_false c4
   clear c4
   obtain rfl := Option.some.inj H
   go_enter Try.func29, Try.ntmps29
   go_wp2
   go_ret
   exact ⟨by rfl, rfl⟩

/-! ### canopylaw1_Syms: function 14 -/
def canopylaw1_Syms.f (a0 : Int) (l1 : List Int) : Option ((List (S56))) := (some (([(⟨(⟨#[97]⟩ : ByteArray), 1⟩ : S56), (⟨(⟨#[97]⟩ : ByteArray), 2⟩ : S56), (⟨(⟨#[98]⟩ : ByteArray), 3⟩ : S56), (⟨(⟨#[99]⟩ : ByteArray), 1⟩ : S56), (⟨(⟨#[99]⟩ : ByteArray), 2⟩ : S56), (⟨(⟨#[100]⟩ : ByteArray), 3⟩ : S56), (⟨(⟨#[120]⟩ : ByteArray), 2⟩ : S56)] : List (S56)) : List (S56))).bind fun y101 => ((canopylaw1_within.f a0 5).bind fun t104 => ((canopylaw1_within.f a0 7).bind fun t105 => (if t105 = 1 then (if 2 < (y101.length : Int) then (if 1 < (y101.length : Int) then (if 0 < (y101.length : Int) then (some (([(⟨(rd_T56 y101 2).f0, (rd_T56 y101 2).f1⟩ : S56), (⟨(rd_T56 y101 1).f0, (rd_T56 y101 1).f1⟩ : S56), (⟨(rd_T56 y101 0).f0, (rd_T56 y101 0).f1⟩ : S56)] : List (S56)))) else (none)) else (none)) else (none)) else ((canopylaw1_within.f a0 11).bind fun t112 => (if t112 = 2 then (if (l1.length : Int) > 0 then (if 0 < (l1.length : Int) then ((canopylaw1_within.f (rd l1 0) 7).bind fun t114 => (if 0 ≤ t114 then (if t114 < (y101.length : Int) then (some (([(⟨(rd_T56 y101 t114).f0, (rd_T56 y101 t114).f1⟩ : S56)] : List (S56)))) else (none)) else (none))) else (none)) else (if 0 ≤ (wrap64 (3 + t104)) then (if (wrap64 (3 + t104)) ≤ (y101.length : Int) then (some (y101.take ((wrap64 (3 + t104)) : Int).toNat)) else (none)) else (none))) else (if 0 ≤ (wrap64 (3 + t104)) then (if (wrap64 (3 + t104)) ≤ (y101.length : Int) then (some (y101.take ((wrap64 (3 + t104)) : Int).toNat)) else (none)) else (none)))))))
def canopylaw1_Syms.T4 : Bool × List (List Nat × List Nat) := (true, [([], []), ([0], [0]), ([1], [1]), ([], []), ([3], [3]), ([4], [4]), ([], []), ([6], [6]), ([7], [7]), ([2, 5, 8], [2, 5, 8]), ([9, 0, 1, 2, 3, 4, 5, 6, 7, 8, 9], [9])])
def canopylaw1_Syms.B4 : List Nat := [0, 1, 3, 0, 8, 24, 0, 64, 192, 511, 1023]
theorem canopylaw1_Syms.tab4 : rtab .any (opsOf Try.f14 4) = canopylaw1_Syms.T4 := by kernel_rfl
theorem canopylaw1_Syms.bits4 : waitsOk canopylaw1_Syms.T4.2 canopylaw1_Syms.B4 = true := by kernel_rfl
set_option maxHeartbeats 8000000 in
set_option maxRecDepth 100000 in
theorem canopylaw1_Syms.calls (a0 : Int) (A1 : Option Addr) (c1 : Nat) (l1 : List Int) (r : List (S56)) (w : World) (hr1 : Kd.C (Kd.int .i64) w A1 l1.length l1) (hc1 : l1.length ≤ c1) (h : canopylaw1_Syms.f a0 l1 = some r) :
  Calls Try.prog 14 #[.int .i64 a0, .slice A1 l1.length c1] w fun e w' => ∃ v0_ : Value, e = .returned (v0_) ∧ Kd.R k56 56 w' w.heap.size (fun _ => True) v0_ r ∧ Below w.heap.size w w' := by
 have HR1 := M0 hr1
 clear hr1 hc1
 have HB := M0 (Below.refl w.heap.size w)
 have H : ((some (([(⟨(⟨#[97]⟩ : ByteArray), 1⟩ : S56), (⟨(⟨#[97]⟩ : ByteArray), 2⟩ : S56), (⟨(⟨#[98]⟩ : ByteArray), 3⟩ : S56), (⟨(⟨#[99]⟩ : ByteArray), 1⟩ : S56), (⟨(⟨#[99]⟩ : ByteArray), 2⟩ : S56), (⟨(⟨#[100]⟩ : ByteArray), 3⟩ : S56), (⟨(⟨#[120]⟩ : ByteArray), 2⟩ : S56)] : List (S56)) : List (S56))).bind fun y101 => ((canopylaw1_within.f a0 5).bind fun t104 => ((canopylaw1_within.f a0 7).bind fun t105 => (if t105 = 1 then (if 2 < (y101.length : Int) then (if 1 < (y101.length : Int) then (if 0 < (y101.length : Int) then (some (([(⟨(rd_T56 y101 2).f0, (rd_T56 y101 2).f1⟩ : S56), (⟨(rd_T56 y101 1).f0, (rd_T56 y101 1).f1⟩ : S56), (⟨(rd_T56 y101 0).f0, (rd_T56 y101 0).f1⟩ : S56)] : List (S56)))) else (none)) else (none)) else (none)) else ((canopylaw1_within.f a0 11).bind fun t112 => (if t112 = 2 then (if (l1.length : Int) > 0 then (if 0 < (l1.length : Int) then ((canopylaw1_within.f (rd l1 0) 7).bind fun t114 => (if 0 ≤ t114 then (if t114 < (y101.length : Int) then (some (([(⟨(rd_T56 y101 t114).f0, (rd_T56 y101 t114).f1⟩ : S56)] : List (S56)))) else (none)) else (none))) else (none)) else (if 0 ≤ (wrap64 (3 + t104)) then (if (wrap64 (3 + t104)) ≤ (y101.length : Int) then (some (y101.take ((wrap64 (3 + t104)) : Int).toNat)) else (none)) else (none))) else (if 0 ≤ (wrap64 (3 + t104)) then (if (wrap64 (3 + t104)) ≤ (y101.length : Int) then (some (y101.take ((wrap64 (3 + t104)) : Int).toNat)) else (none)) else (none)))))))) = some r := h
 clear h
 obtain ⟨y101, hy101⟩ : ∃ y_ : List (S56), y_ = (([(⟨(⟨#[97]⟩ : ByteArray), 1⟩ : S56), (⟨(⟨#[97]⟩ : ByteArray), 2⟩ : S56), (⟨(⟨#[98]⟩ : ByteArray), 3⟩ : S56), (⟨(⟨#[99]⟩ : ByteArray), 1⟩ : S56), (⟨(⟨#[99]⟩ : ByteArray), 2⟩ : S56), (⟨(⟨#[100]⟩ : ByteArray), 3⟩ : S56), (⟨(⟨#[120]⟩ : ByteArray), 2⟩ : S56)] : List (S56))) := ⟨_, rfl⟩
 replace H : ((canopylaw1_within.f a0 5).bind fun t104 => ((canopylaw1_within.f a0 7).bind fun t105 => (if t105 = 1 then (if 2 < (y101.length : Int) then (if 1 < (y101.length : Int) then (if 0 < (y101.length : Int) then (some (([(⟨(rd_T56 y101 2).f0, (rd_T56 y101 2).f1⟩ : S56), (⟨(rd_T56 y101 1).f0, (rd_T56 y101 1).f1⟩ : S56), (⟨(rd_T56 y101 0).f0, (rd_T56 y101 0).f1⟩ : S56)] : List (S56)))) else (none)) else (none)) else (none)) else ((canopylaw1_within.f a0 11).bind fun t112 => (if t112 = 2 then (if (l1.length : Int) > 0 then (if 0 < (l1.length : Int) then ((canopylaw1_within.f (rd l1 0) 7).bind fun t114 => (if 0 ≤ t114 then (if t114 < (y101.length : Int) then (some (([(⟨(rd_T56 y101 t114).f0, (rd_T56 y101 t114).f1⟩ : S56)] : List (S56)))) else (none)) else (none))) else (none)) else (if 0 ≤ (wrap64 (3 + t104)) then (if (wrap64 (3 + t104)) ≤ (y101.length : Int) then (some (y101.take ((wrap64 (3 + t104)) : Int).toNat)) else (none)) else (none))) else (if 0 ≤ (wrap64 (3 + t104)) then (if (wrap64 (3 + t104)) ≤ (y101.length : Int) then (some (y101.take ((wrap64 (3 + t104)) : Int).toNat)) else (none)) else (none))))))) = some r := by (have H2_ := (Option.bind_some _ _).symm.trans H; rw [hy101]; with_reducible exact H2_)
 have Ny101 := M0 hy101
 clear hy101
 replace H := Option.bind_eq_some_iff.mp H
 obtain ⟨t104, A30, H⟩ := H
 try dsimp only at H
 have A3 := M0 A30
 clear A30
 replace H := Option.bind_eq_some_iff.mp H
 obtain ⟨t105, A40, H⟩ := H
 try dsimp only at H
 have A4 := M0 A40
 clear A40
 by_cases c5 : t105 = 1
 ·rw [if_pos c5] at H
  have c5b0 := bT c5
  have c5b1 := nF c5
  clear c5
  by_cases c6 : 2 < (y101.length : Int)
  ·rw [if_pos c6] at H
   have c6b0 := decide_eq_true c6
   have c6b1 : decide (2 < y101.length) = true := decide_eq_true (by omega)
   clear c6
   by_cases c7 : 1 < (y101.length : Int)
   ·rw [if_pos c7] at H
    have c7b0 := decide_eq_true c7
    have c7b1 : decide (1 < y101.length) = true := decide_eq_true (by omega)
    clear c7
    by_cases c8 : 0 < (y101.length : Int)
    ·rw [if_pos c8] at H
     have c8b0 := decide_eq_true c8
     clear c8
     obtain ⟨y109, hy109⟩ : ∃ y_ : List (S56), y_ = (([(⟨(rd_T56 y101 2).f0, (rd_T56 y101 2).f1⟩ : S56), (⟨(rd_T56 y101 1).f0, (rd_T56 y101 1).f1⟩ : S56), (⟨(rd_T56 y101 0).f0, (rd_T56 y101 0).f1⟩ : S56)] : List (S56))) := ⟨_, rfl⟩
     replace H : (some y109) = some r := by (rw [hy109]; with_reducible exact H)
     have Ny109 := M0 hy109
     clear hy109
     obtain rfl := Option.some.inj H
     go_enter Try.func14, Try.ntmps14
     go_wp2_with (first | ((with_reducible refine gate_dst (N := 14) rfl ?_); refine Kd.R_lit k56 _ 56 ?hg (N := 14) ?hd (xs := ([(⟨(⟨#[97]⟩ : ByteArray), 1⟩ : S56), (⟨(⟨#[97]⟩ : ByteArray), 2⟩ : S56), (⟨(⟨#[98]⟩ : ByteArray), 3⟩ : S56), (⟨(⟨#[99]⟩ : ByteArray), 1⟩ : S56), (⟨(⟨#[99]⟩ : ByteArray), 2⟩ : S56), (⟨(⟨#[100]⟩ : ByteArray), 3⟩ : S56), (⟨(⟨#[120]⟩ : ByteArray), 2⟩ : S56)] : List (S56))) (inner := [.string (⟨#[97]⟩ : ByteArray), .int .i64 1, .string (⟨#[97]⟩ : ByteArray), .int .i64 2, .string (⟨#[98]⟩ : ByteArray), .int .i64 3, .string (⟨#[99]⟩ : ByteArray), .int .i64 1, .string (⟨#[99]⟩ : ByteArray), .int .i64 2, .string (⟨#[100]⟩ : ByteArray), .int .i64 3, .string (⟨#[120]⟩ : ByteArray), .int .i64 2]) (ok := fun _ => True) (okp := fun _ => True) ?hr ?hp (fun _ hk => hk) trivial (Below.refl _ _) (Nat.le_refl _) (by simp) ?_; (case hd => rfl); (case hg => rfl); (case hr => (go_simp; done)); (case hp => exact (Reps.c2 (show Kd.M k56 _ _ _ (⟨(⟨#[97]⟩ : ByteArray), 1⟩ : S56) [.string (⟨#[97]⟩ : ByteArray), .int .i64 1] from (k56_mkM _ _ _ (⟨(⟨#[97]⟩ : ByteArray), 1⟩ : S56) )) (Reps.c2 (show Kd.M k56 _ _ _ (⟨(⟨#[97]⟩ : ByteArray), 2⟩ : S56) [.string (⟨#[97]⟩ : ByteArray), .int .i64 2] from (k56_mkM _ _ _ (⟨(⟨#[97]⟩ : ByteArray), 2⟩ : S56) )) (Reps.c2 (show Kd.M k56 _ _ _ (⟨(⟨#[98]⟩ : ByteArray), 3⟩ : S56) [.string (⟨#[98]⟩ : ByteArray), .int .i64 3] from (k56_mkM _ _ _ (⟨(⟨#[98]⟩ : ByteArray), 3⟩ : S56) )) (Reps.c2 (show Kd.M k56 _ _ _ (⟨(⟨#[99]⟩ : ByteArray), 1⟩ : S56) [.string (⟨#[99]⟩ : ByteArray), .int .i64 1] from (k56_mkM _ _ _ (⟨(⟨#[99]⟩ : ByteArray), 1⟩ : S56) )) (Reps.c2 (show Kd.M k56 _ _ _ (⟨(⟨#[99]⟩ : ByteArray), 2⟩ : S56) [.string (⟨#[99]⟩ : ByteArray), .int .i64 2] from (k56_mkM _ _ _ (⟨(⟨#[99]⟩ : ByteArray), 2⟩ : S56) )) (Reps.c2 (show Kd.M k56 _ _ _ (⟨(⟨#[100]⟩ : ByteArray), 3⟩ : S56) [.string (⟨#[100]⟩ : ByteArray), .int .i64 3] from (k56_mkM _ _ _ (⟨(⟨#[100]⟩ : ByteArray), 3⟩ : S56) )) (Reps.c2 (show Kd.M k56 _ _ _ (⟨(⟨#[120]⟩ : ByteArray), 2⟩ : S56) [.string (⟨#[120]⟩ : ByteArray), .int .i64 2] from (k56_mkM _ _ _ (⟨(⟨#[120]⟩ : ByteArray), 2⟩ : S56) )) (Reps.none _ _))))))))); intro v102 w9 ho10 hb hg_ hnew_; clear hg_ hnew_; (rw [← Ny101.out] at ho10); have HO103 := M0 (Kd.R_lower ho10 (below_size HB.out)); replace HB := M0 (below_step HB.out hb); clear hb ho10) | ((with_reducible refine gate_callee (f := 29) rfl ?_); refine goesL_ (some 16) rfl rfl Try.func29 (by kernel_rfl) rfl #[.int .i64 a0, .int .i64 5] rfl (by (simp only [List.map_toArray, List.map_cons, List.map_nil]); rfl) ?_; (with_reducible refine (canopylaw1_within.calls a0 5 t104 _ A3.out).mono ?_); rintro e w' ⟨rfl, rfl⟩; refine ⟨_, rfl, ?_⟩) | ((with_reducible refine gate_callee (f := 29) rfl ?_); refine goesL_ (some 19) rfl rfl Try.func29 (by kernel_rfl) rfl #[.int .i64 a0, .int .i64 7] rfl (by (simp only [List.map_toArray, List.map_cons, List.map_nil]); rfl) ?_; (with_reducible refine (canopylaw1_within.calls a0 7 t105 _ A4.out).mono ?_); rintro e w' ⟨rfl, rfl⟩; refine ⟨_, rfl, ?_⟩))
     (skip)
     have n0_ := M0 (Kd.R_drew HO103.out)
     have n1_ := M0 (below_drew1 HB.out)
     clear HO103 HB
     have HO103 := n0_
     have HB := n1_
     clear n0_ n1_
     obtain ⟨Ao12, co12, eo12⟩ := Kd.R_slice HO103.out
     (subst eo12)
     have p106 : 0 ≤ (2 : Int) := (by omega)
     have q106 : 2 < (y101.length : Int) := of_decide_eq_true (by (with_reducible assumption))
     obtain ⟨ad106, e106, hx106_0, hx106_1⟩ := at_T56 (Kd.R_reads' HO103.out).2.2 2 p106 q106
     cases e106
     (simp only [show (2 : Int).toNat = 2 from rfl, Nat.reduceMul, Nat.reduceEqDiff, Go.Addr.add, ↓reduceIte] at hx106_0)
     (simp only [show (2 : Int).toNat = 2 from rfl, Nat.reduceMul, Nat.reduceEqDiff, Go.Addr.add, ↓reduceIte] at hx106_1)
     (skip)
     (skip)
     (skip)
     (skip)
     replace p106 := eq_true p106
     replace q106 := eq_true q106
     have p107 : 0 ≤ (1 : Int) := (by omega)
     have q107 : 1 < (y101.length : Int) := of_decide_eq_true (by (with_reducible assumption))
     obtain ⟨ad107, e107, hx107_0, hx107_1⟩ := at_T56 (Kd.R_reads' HO103.out).2.2 1 p107 q107
     obtain rfl : ad106 = ad107 := (by injection e107)
     (simp only [show (1 : Int).toNat = 1 from rfl, Nat.reduceMul, Nat.reduceEqDiff, Go.Addr.add, ↓reduceIte] at hx107_0)
     (simp only [show (1 : Int).toNat = 1 from rfl, Nat.reduceMul, Nat.reduceEqDiff, Go.Addr.add, ↓reduceIte] at hx107_1)
     (skip)
     (skip)
     (skip)
     (skip)
     replace p107 := eq_true p107
     replace q107 := eq_true q107
     have p108 : 0 ≤ (0 : Int) := (by omega)
     have q108 : 0 < (y101.length : Int) := of_decide_eq_true (by (with_reducible assumption))
     obtain ⟨ad108, e108, hx108_0, hx108_1⟩ := at_T56 (Kd.R_reads' HO103.out).2.2 0 p108 q108
     obtain rfl : ad106 = ad108 := (by injection e108)
     have qi108 : (0 < y101.length) = True := eq_true (by omega)
     (rw [show ((0 : Int)).toNat = 0 from rfl] at hx108_0)
     (rw [show 0 * 2 = 0 from rfl] at hx108_0)
     (rw [Addr.add_zero'] at hx108_0)
     (rw [show ((0 : Int)).toNat = 0 from rfl] at hx108_1)
     (rw [show 0 * 2 = 0 from rfl] at hx108_1)
     (rw [Addr.add_zero'] at hx108_1)
     clear p108
     clear q108
     refine start_ (n := 11) (S := fun w' => w'.cell? ⟨ad106.block, ad106.off + 4, none⟩ = some (.string ((rd_T56 y101 2).f0)) ∧ w'.cell? ⟨ad106.block, ad106.off + 4 + 1, none⟩ = some (.int .i64 ((rd_T56 y101 2).f1)) ∧ w'.cell? ⟨ad106.block, ad106.off + 2, none⟩ = some (.string ((rd_T56 y101 1).f0)) ∧ w'.cell? ⟨ad106.block, ad106.off + 2 + 1, none⟩ = some (.int .i64 ((rd_T56 y101 1).f1)) ∧ w'.cell? ad106 = some (.string ((rd_T56 y101 0).f0)) ∧ w'.cell? ⟨ad106.block, ad106.off + 1, none⟩ = some (.int .i64 ((rd_T56 y101 0).f1))) (ds := []) #[false, false, false, false, false, false, false, false, false, false, false] (by kernel_rfl) rfl rfl ⟨hx106_0, hx106_1, hx107_0, hx107_1, hx108_0, hx108_1⟩ (fun hHeld => ?_); refine with_tabW canopylaw1_Syms.tab4 canopylaw1_Syms.bits4 (fun HT_ HW_ => ?_)
     generalize w9.drew = w11 at HO103 HB hx106_0 hx106_1 hx107_0 hx107_1 hx108_0 hx108_1 hHeld ⊢
     refine pure_ (i := 0) (N := some 21) (v := ?_) (a' := ?_) #[true, false, false, false, false, false, false, false, false, false, false] rfl rfl (any_of HT_.out (by kernel_rfl)) (fun _ _ _ h => h) (Or.inl ⟨by rfl, ?_⟩) ?_ ?_
     rotate_left
     ·intro w'
      go_simp
      with_reducible rfl
     rotate_left
     ·simp only [Act.put, List.setIfInBounds_toArray, List.set_cons_zero, List.set_cons_succ, i64_w, i32_w]
      rfl
     refine pure_ (i := 1) (N := some 22) (v := ?_) (a' := ?_) #[true, true, false, false, false, false, false, false, false, false, false] rfl rfl (any_of HT_.out (by kernel_rfl)) (fun _ _ _ h => h) (Or.inl ⟨by rfl, ?_⟩) ?_ ?_
     rotate_left
     ·intro w'
      go_simp
      with_reducible rfl
     rotate_left
     ·simp only [Act.put, List.setIfInBounds_toArray, List.set_cons_zero, List.set_cons_succ, i64_w, i32_w]
      rfl
     refine pure_ (i := 3) (N := some 24) (v := ?_) (a' := ?_) #[true, true, false, true, false, false, false, false, false, false, false] rfl rfl (any_of HT_.out (by kernel_rfl)) (fun _ _ _ h => h) (Or.inl ⟨by rfl, ?_⟩) ?_ ?_
     rotate_left
     ·intro w'
      go_simp
      with_reducible rfl
     rotate_left
     ·simp only [Act.put, List.setIfInBounds_toArray, List.set_cons_zero, List.set_cons_succ, i64_w, i32_w]
      rfl
     refine pure_ (i := 4) (N := some 25) (v := ?_) (a' := ?_) #[true, true, false, true, true, false, false, false, false, false, false] rfl rfl (any_of HT_.out (by kernel_rfl)) (fun _ _ _ h => h) (Or.inl ⟨by rfl, ?_⟩) ?_ ?_
     rotate_left
     ·intro w'
      go_simp
      with_reducible rfl
     rotate_left
     ·simp only [Act.put, List.setIfInBounds_toArray, List.set_cons_zero, List.set_cons_succ, i64_w, i32_w]
      rfl
     refine pure_ (i := 6) (N := some 27) (v := ?_) (a' := ?_) #[true, true, false, true, true, false, true, false, false, false, false] rfl rfl (any_of HT_.out (by kernel_rfl)) (fun _ _ _ h => h) (Or.inl ⟨by rfl, ?_⟩) ?_ ?_
     rotate_left
     ·intro w'
      go_simp
      with_reducible rfl
     rotate_left
     ·simp only [Act.put, List.setIfInBounds_toArray, List.set_cons_zero, List.set_cons_succ, i64_w, i32_w]
      rfl
     refine pure_ (i := 7) (N := some 28) (v := ?_) (a' := ?_) #[true, true, false, true, true, false, true, true, false, false, false] rfl rfl (any_of HT_.out (by kernel_rfl)) (fun _ _ _ h => h) (Or.inl ⟨by rfl, ?_⟩) ?_ ?_
     rotate_left
     ·intro w'
      go_simp
      with_reducible rfl
     rotate_left
     ·simp only [Act.put, List.setIfInBounds_toArray, List.set_cons_zero, List.set_cons_succ, i64_w, i32_w]
      rfl
     refine take_ (i := 2) (N := some 23) (v := ?_) (a' := ?_) #[true, true, true, true, true, false, true, true, false, false, false] rfl rfl (take_ofW HT_.out HW_.out (by kernel_rfl)) (fun _ _ _ h => h) (Or.inl ⟨by rfl, ?_⟩) hHeld ?_ ?_
     rotate_left
     ·rintro w' ⟨s0, s1, s2, s3, s4, s5⟩
      go_simp
      with_reducible rfl
     rotate_left
     ·simp only [Act.put, List.setIfInBounds_toArray, List.set_cons_zero, List.set_cons_succ, i64_w, i32_w]
      rfl
     refine take_ (i := 5) (N := some 26) (v := ?_) (a' := ?_) #[true, true, true, true, true, true, true, true, false, false, false] rfl rfl (take_ofW HT_.out HW_.out (by kernel_rfl)) (fun _ _ _ h => h) (Or.inl ⟨by rfl, ?_⟩) hHeld ?_ ?_
     rotate_left
     ·rintro w' ⟨s0, s1, s2, s3, s4, s5⟩
      go_simp
      with_reducible rfl
     rotate_left
     ·simp only [Act.put, List.setIfInBounds_toArray, List.set_cons_zero, List.set_cons_succ, i64_w, i32_w]
      rfl
     refine take_ (i := 8) (N := some 29) (v := ?_) (a' := ?_) #[true, true, true, true, true, true, true, true, true, false, false] rfl rfl (take_ofW HT_.out HW_.out (by kernel_rfl)) (fun _ _ _ h => h) (Or.inl ⟨by rfl, ?_⟩) hHeld ?_ ?_
     rotate_left
     ·rintro w' ⟨s0, s1, s2, s3, s4, s5⟩
      go_simp
      with_reducible rfl
     rotate_left
     ·simp only [Act.put, List.setIfInBounds_toArray, List.set_cons_zero, List.set_cons_succ, i64_w, i32_w]
      rfl
     refine one_ (i := 9) (N := some 30) #[true, true, true, true, true, true, true, true, true, true, false] rfl rfl (one_of HT_.out (by kernel_rfl)) (by decide) (fun K hK => ?_)
     refine Kd.R_lit_step k56 _ 56 ?hg (N := 30) ?hd (xs := ([(⟨(rd_T56 y101 2).f0, (rd_T56 y101 2).f1⟩ : S56), (⟨(rd_T56 y101 1).f0, (rd_T56 y101 1).f1⟩ : S56), (⟨(rd_T56 y101 0).f0, (rd_T56 y101 0).f1⟩ : S56)] : List (S56))) (inner := [.string ((rd_T56 y101 2).f0), .int .i64 ((rd_T56 y101 2).f1), .string ((rd_T56 y101 1).f0), .int .i64 ((rd_T56 y101 1).f1), .string ((rd_T56 y101 0).f0), .int .i64 ((rd_T56 y101 0).f1)]) (ok := fun _ => True) (okp := fun _ => True) ?hr ?hp (fun _ hk => hk) trivial (Below.refl _ _) (Nat.le_refl _) (by simp) ?_; (case hd => rfl); (case hg => rfl); (case hr => (go_simp; done)); (case hp => exact (Reps.c2 (show Kd.M k56 _ _ _ (⟨(rd_T56 y101 2).f0, (rd_T56 y101 2).f1⟩ : S56) [.string ((rd_T56 y101 2).f0), .int .i64 ((rd_T56 y101 2).f1)] from (k56_mkM _ _ _ (⟨(rd_T56 y101 2).f0, (rd_T56 y101 2).f1⟩ : S56) )) (Reps.c2 (show Kd.M k56 _ _ _ (⟨(rd_T56 y101 1).f0, (rd_T56 y101 1).f1⟩ : S56) [.string ((rd_T56 y101 1).f0), .int .i64 ((rd_T56 y101 1).f1)] from (k56_mkM _ _ _ (⟨(rd_T56 y101 1).f0, (rd_T56 y101 1).f1⟩ : S56) )) (Reps.c2 (show Kd.M k56 _ _ _ (⟨(rd_T56 y101 0).f0, (rd_T56 y101 0).f1⟩ : S56) [.string ((rd_T56 y101 0).f0), .int .i64 ((rd_T56 y101 0).f1)] from (k56_mkM _ _ _ (⟨(rd_T56 y101 0).f0, (rd_T56 y101 0).f1⟩ : S56) )) (Reps.none _ _)))))
     intro v110 w13 ho14 hb hg_ hnew_
     have HS0_ := (hb.cell (World.block_lt_of_cell? _ _ (hHeld.1))).trans (hHeld.1)
     have HS1_ := (hb.cell (World.block_lt_of_cell? _ _ (hHeld.2.1))).trans (hHeld.2.1)
     have HS2_ := (hb.cell (World.block_lt_of_cell? _ _ (hHeld.2.2.1))).trans (hHeld.2.2.1)
     have HS3_ := (hb.cell (World.block_lt_of_cell? _ _ (hHeld.2.2.2.1))).trans (hHeld.2.2.2.1)
     have HS4_ := (hb.cell (World.block_lt_of_cell? _ _ (hHeld.2.2.2.2.1))).trans (hHeld.2.2.2.2.1)
     have HS5_ := (hb.cell (World.block_lt_of_cell? _ _ (hHeld.2.2.2.2.2))).trans (hHeld.2.2.2.2.2)
     clear hg_ hnew_
     (rw [← Ny109.out] at ho14)
     have n0_ := M0 (Kd.R_elder' HO103.out (Kd.R_base ho14) hb)
     have n1_ := M0 (Kd.R_lower (Kd.R_new' ho14 (Kd.R_lt HO103.out)) (below_size HB.out))
     have n2_ := M0 (below_step HB.out hb)
     clear HO103 HB
     have HO111 := n1_
     have HB := n2_
     clear n0_ n1_ n2_ hb ho14
     refine hK.out _ _ ⟨HS0_, HS1_, HS2_, HS3_, HS4_, HS5_⟩ (fun hHeld => ?_)
     clear hK K
     refine norm_ (a' := ?_) ?_ ?_
     rotate_left
     ·show Act.put _ (some 30) _ = _
      simp only [Act.put, List.setIfInBounds_toArray, List.set_cons_zero, List.set_cons_succ, i64_w, i32_w]
      rfl
     refine pure_ (i := 10) (N := some 4) (v := ?_) (a' := ?_) #[true, true, true, true, true, true, true, true, true, true, true] rfl rfl (any_of HT_.out (by kernel_rfl)) (fun _ _ _ h => h) (Or.inl ⟨by rfl, ?_⟩) ?_ ?_
     rotate_left
     ·intro w'
      go_simp
      with_reducible rfl
     rotate_left
     ·simp only [Act.put, List.setIfInBounds_toArray, List.set_cons_zero, List.set_cons_succ, i64_w, i32_w]
      rfl
     refine done_ (done_of HT_.out (by kernel_rfl)) ?_
     go_wp2
     go_ret
     exact ⟨_, by rfl, by exact Kd.R_mono HO111.out (fun _ hk => trivial), by with_reducible exact HB.out⟩
    ·rw [if_neg c8] at H
     exact absurd H (by simp)
   ·rw [if_neg c7] at H
    exact absurd H (by simp)
  ·rw [if_neg c6] at H
   exact absurd H (by simp)
 ·rw [if_neg c5] at H
  have c5b0 := bF c5
  replace H := Option.bind_eq_some_iff.mp H
  obtain ⟨t112, A150, H⟩ := H
  try dsimp only at H
  have A15 := M0 A150
  clear A150
  by_cases c16 : t112 = 2
  ·rw [if_pos c16] at H
   have c16b0 := bT c16
   have c16b1 := nF c16
   clear c16
   by_cases c17 : (l1.length : Int) > 0
   ·rw [if_pos c17] at H
    have c17b0 : decide (0 < (l1.length : Int)) = true := decide_eq_true c17
    have c17b1 : decide (0 < l1.length) = true := decide_eq_true (by omega)
    clear c17
    by_cases c18 : 0 < (l1.length : Int)
    ·rw [if_pos c18] at H
     have c18b0 := decide_eq_true c18
     clear c18
     replace H := Option.bind_eq_some_iff.mp H
     obtain ⟨t114, A190, H⟩ := H
     try dsimp only at H
     have A19 := M0 A190
     clear A190
     by_cases c20 : 0 ≤ t114
     ·rw [if_pos c20] at H
      have c20b0 := decide_eq_true c20
      clear c20
      by_cases c21 : t114 < (y101.length : Int)
      ·rw [if_pos c21] at H
       have c21b0 := decide_eq_true c21
       clear c21
       obtain ⟨y116, hy116⟩ : ∃ y_ : List (S56), y_ = (([(⟨(rd_T56 y101 t114).f0, (rd_T56 y101 t114).f1⟩ : S56)] : List (S56))) := ⟨_, rfl⟩
       replace H : (some y116) = some r := by (rw [hy116]; with_reducible exact H)
       have Ny116 := M0 hy116
       clear hy116
       obtain rfl := Option.some.inj H
       go_enter Try.func14, Try.ntmps14
       go_wp2_with (first | ((with_reducible refine gate_dst (N := 14) rfl ?_); refine Kd.R_lit k56 _ 56 ?hg (N := 14) ?hd (xs := ([(⟨(⟨#[97]⟩ : ByteArray), 1⟩ : S56), (⟨(⟨#[97]⟩ : ByteArray), 2⟩ : S56), (⟨(⟨#[98]⟩ : ByteArray), 3⟩ : S56), (⟨(⟨#[99]⟩ : ByteArray), 1⟩ : S56), (⟨(⟨#[99]⟩ : ByteArray), 2⟩ : S56), (⟨(⟨#[100]⟩ : ByteArray), 3⟩ : S56), (⟨(⟨#[120]⟩ : ByteArray), 2⟩ : S56)] : List (S56))) (inner := [.string (⟨#[97]⟩ : ByteArray), .int .i64 1, .string (⟨#[97]⟩ : ByteArray), .int .i64 2, .string (⟨#[98]⟩ : ByteArray), .int .i64 3, .string (⟨#[99]⟩ : ByteArray), .int .i64 1, .string (⟨#[99]⟩ : ByteArray), .int .i64 2, .string (⟨#[100]⟩ : ByteArray), .int .i64 3, .string (⟨#[120]⟩ : ByteArray), .int .i64 2]) (ok := fun _ => True) (okp := fun _ => True) ?hr ?hp (fun _ hk => hk) trivial (Below.refl _ _) (Nat.le_refl _) (by simp) ?_; (case hd => rfl); (case hg => rfl); (case hr => (go_simp; done)); (case hp => exact (Reps.c2 (show Kd.M k56 _ _ _ (⟨(⟨#[97]⟩ : ByteArray), 1⟩ : S56) [.string (⟨#[97]⟩ : ByteArray), .int .i64 1] from (k56_mkM _ _ _ (⟨(⟨#[97]⟩ : ByteArray), 1⟩ : S56) )) (Reps.c2 (show Kd.M k56 _ _ _ (⟨(⟨#[97]⟩ : ByteArray), 2⟩ : S56) [.string (⟨#[97]⟩ : ByteArray), .int .i64 2] from (k56_mkM _ _ _ (⟨(⟨#[97]⟩ : ByteArray), 2⟩ : S56) )) (Reps.c2 (show Kd.M k56 _ _ _ (⟨(⟨#[98]⟩ : ByteArray), 3⟩ : S56) [.string (⟨#[98]⟩ : ByteArray), .int .i64 3] from (k56_mkM _ _ _ (⟨(⟨#[98]⟩ : ByteArray), 3⟩ : S56) )) (Reps.c2 (show Kd.M k56 _ _ _ (⟨(⟨#[99]⟩ : ByteArray), 1⟩ : S56) [.string (⟨#[99]⟩ : ByteArray), .int .i64 1] from (k56_mkM _ _ _ (⟨(⟨#[99]⟩ : ByteArray), 1⟩ : S56) )) (Reps.c2 (show Kd.M k56 _ _ _ (⟨(⟨#[99]⟩ : ByteArray), 2⟩ : S56) [.string (⟨#[99]⟩ : ByteArray), .int .i64 2] from (k56_mkM _ _ _ (⟨(⟨#[99]⟩ : ByteArray), 2⟩ : S56) )) (Reps.c2 (show Kd.M k56 _ _ _ (⟨(⟨#[100]⟩ : ByteArray), 3⟩ : S56) [.string (⟨#[100]⟩ : ByteArray), .int .i64 3] from (k56_mkM _ _ _ (⟨(⟨#[100]⟩ : ByteArray), 3⟩ : S56) )) (Reps.c2 (show Kd.M k56 _ _ _ (⟨(⟨#[120]⟩ : ByteArray), 2⟩ : S56) [.string (⟨#[120]⟩ : ByteArray), .int .i64 2] from (k56_mkM _ _ _ (⟨(⟨#[120]⟩ : ByteArray), 2⟩ : S56) )) (Reps.none _ _))))))))); intro v102 w22 ho23 hb hg_ hnew_; clear hg_ hnew_; (rw [← Ny101.out] at ho23); have HO103 := M0 (Kd.R_lower ho23 (below_size HB.out)); replace HB := M0 (below_step HB.out hb); clear hb ho23) | ((with_reducible refine gate_callee (f := 29) rfl ?_); refine goesL_ (some 16) rfl rfl Try.func29 (by kernel_rfl) rfl #[.int .i64 a0, .int .i64 5] rfl (by (simp only [List.map_toArray, List.map_cons, List.map_nil]); rfl) ?_; (with_reducible refine (canopylaw1_within.calls a0 5 t104 _ A3.out).mono ?_); rintro e w' ⟨rfl, rfl⟩; refine ⟨_, rfl, ?_⟩) | ((with_reducible refine gate_callee (f := 29) rfl ?_); refine goesL_ (some 19) rfl rfl Try.func29 (by kernel_rfl) rfl #[.int .i64 a0, .int .i64 7] rfl (by (simp only [List.map_toArray, List.map_cons, List.map_nil]); rfl) ?_; (with_reducible refine (canopylaw1_within.calls a0 7 t105 _ A4.out).mono ?_); rintro e w' ⟨rfl, rfl⟩; refine ⟨_, rfl, ?_⟩) | ((with_reducible refine gate_callee (f := 29) rfl ?_); refine goesL_ (some 32) rfl rfl Try.func29 (by kernel_rfl) rfl #[.int .i64 a0, .int .i64 11] rfl (by (simp only [List.map_toArray, List.map_cons, List.map_nil]); rfl) ?_; (with_reducible refine (canopylaw1_within.calls a0 11 t112 _ A15.out).mono ?_); rintro e w' ⟨rfl, rfl⟩; refine ⟨_, rfl, ?_⟩; have p113 : 0 ≤ (0 : Int) := (by omega); have q113 : 0 < (l1.length : Int) := of_decide_eq_true (by (with_reducible assumption)); obtain ⟨ad113, e113, hx113_0⟩ := Kd.at_int HR1.out 0 p113 q113; cases e113; have qi113 : (0 < l1.length) = True := eq_true (by omega); (rw [show ((0 : Int)).toNat = 0 from rfl] at hx113_0); (rw [Addr.add_zero'] at hx113_0); replace hx113_0 := (HB.out.cell (World.block_lt_of_cell? w _ hx113_0)).trans hx113_0; clear p113; clear q113) | ((with_reducible refine gate_callee (f := 29) rfl ?_); refine goesL_ (some 43) rfl rfl Try.func29 (by kernel_rfl) rfl #[.int .i64 (rd l1 0), .int .i64 7] rfl (by (simp only [List.map_toArray, List.map_cons, List.map_nil]); rfl) ?_; (with_reducible refine (canopylaw1_within.calls (rd l1 0) 7 t114 _ A19.out).mono ?_); rintro e w' ⟨rfl, rfl⟩; refine ⟨_, rfl, ?_⟩; obtain ⟨Ao24, co24, eo24⟩ := Kd.R_slice HO103.out; subst eo24; have p115 : 0 ≤ (t114 : Int) := of_decide_eq_true (by (with_reducible assumption)); have q115 : t114 < (y101.length : Int) := of_decide_eq_true (by (with_reducible assumption)); obtain ⟨ad115, e115, hx115_0, hx115_1⟩ := at_T56 (Kd.R_reads' HO103.out).2.2 t114 p115 q115; cases e115; replace p115 := eq_true p115; replace q115 := eq_true q115) | ((with_reducible refine gate_dst (N := 46) rfl ?_); refine Kd.R_lit k56 _ 56 ?hg (N := 46) ?hd (xs := ([(⟨(rd_T56 y101 t114).f0, (rd_T56 y101 t114).f1⟩ : S56)] : List (S56))) (inner := [.string ((rd_T56 y101 t114).f0), .int .i64 ((rd_T56 y101 t114).f1)]) (ok := fun _ => True) (okp := fun _ => True) ?hr ?hp (fun _ hk => hk) trivial (Below.refl _ _) (Nat.le_refl _) (by simp) ?_; (case hd => rfl); (case hg => rfl); (case hr => (go_simp; done)); (case hp => exact (Reps.c2 (show Kd.M k56 _ _ _ (⟨(rd_T56 y101 t114).f0, (rd_T56 y101 t114).f1⟩ : S56) [.string ((rd_T56 y101 t114).f0), .int .i64 ((rd_T56 y101 t114).f1)] from (k56_mkM _ _ _ (⟨(rd_T56 y101 t114).f0, (rd_T56 y101 t114).f1⟩ : S56) )) (Reps.none _ _))); intro v117 w25 ho26 hb hg_ hnew_; clear hg_ hnew_; (rw [← Ny116.out] at ho26); have HO118 := M0 (Kd.R_lower (Kd.R_new' ho26 (Kd.R_lt HO103.out)) (below_size HB.out)); clear HO103; replace HB := M0 (below_step HB.out hb); clear hb ho26))
       go_ret
       exact ⟨_, by rfl, by exact Kd.R_mono HO118.out (fun _ hk => trivial), by with_reducible exact HB.out⟩
      ·rw [if_neg c21] at H
       exact absurd H (by simp)
     ·rw [if_neg c20] at H
      exact absurd H (by simp)
    ·rw [if_neg c18] at H
     exact absurd H (by simp)
   ·rw [if_neg c17] at H
    have c17b1 : decide (0 < l1.length) = false := decide_eq_false (by omega)
    clear c17
    obtain ⟨ji27, hji27⟩ : ∃ j_ : Int, (wrap64 (3 + t104)) = j_ := ⟨_, rfl⟩
    replace H : (if 0 ≤ (ji27) then (if (ji27) ≤ (y101.length : Int) then (some (y101.take ((ji27) : Int).toNat)) else (none)) else (none)) = some r := by (rw [hji27] at H; exact H)
    (skip)
    (skip)
    (skip)
    have hji27w : (IntKind.i64.wrap (3 + t104)) = ji27 := (i64_w _).trans hji27
    by_cases c28 : 0 ≤ (ji27)
    ·rw [if_pos c28] at H
     have c28b0 := eq_true c28
     have c28b1 := decide_eq_true c28
     clear c28
     by_cases c29 : (ji27) ≤ (y101.length : Int)
     ·rw [if_pos c29] at H
      have c29b1 := decide_eq_true c29
      clear c29
      obtain ⟨y119, hy119⟩ : ∃ y_ : List (S56), y_ = (y101.take ((ji27) : Int).toNat) := ⟨_, rfl⟩
      replace H : (some y119) = some r := by (rw [hy119]; with_reducible exact H)
      have Ny119 := M0 hy119
      clear hy119
      obtain rfl := Option.some.inj H
      go_enter Try.func14, Try.ntmps14
      go_wp2_with (first | ((with_reducible refine gate_dst (N := 14) rfl ?_); refine Kd.R_lit k56 _ 56 ?hg (N := 14) ?hd (xs := ([(⟨(⟨#[97]⟩ : ByteArray), 1⟩ : S56), (⟨(⟨#[97]⟩ : ByteArray), 2⟩ : S56), (⟨(⟨#[98]⟩ : ByteArray), 3⟩ : S56), (⟨(⟨#[99]⟩ : ByteArray), 1⟩ : S56), (⟨(⟨#[99]⟩ : ByteArray), 2⟩ : S56), (⟨(⟨#[100]⟩ : ByteArray), 3⟩ : S56), (⟨(⟨#[120]⟩ : ByteArray), 2⟩ : S56)] : List (S56))) (inner := [.string (⟨#[97]⟩ : ByteArray), .int .i64 1, .string (⟨#[97]⟩ : ByteArray), .int .i64 2, .string (⟨#[98]⟩ : ByteArray), .int .i64 3, .string (⟨#[99]⟩ : ByteArray), .int .i64 1, .string (⟨#[99]⟩ : ByteArray), .int .i64 2, .string (⟨#[100]⟩ : ByteArray), .int .i64 3, .string (⟨#[120]⟩ : ByteArray), .int .i64 2]) (ok := fun _ => True) (okp := fun _ => True) ?hr ?hp (fun _ hk => hk) trivial (Below.refl _ _) (Nat.le_refl _) (by simp) ?_; (case hd => rfl); (case hg => rfl); (case hr => (go_simp; done)); (case hp => exact (Reps.c2 (show Kd.M k56 _ _ _ (⟨(⟨#[97]⟩ : ByteArray), 1⟩ : S56) [.string (⟨#[97]⟩ : ByteArray), .int .i64 1] from (k56_mkM _ _ _ (⟨(⟨#[97]⟩ : ByteArray), 1⟩ : S56) )) (Reps.c2 (show Kd.M k56 _ _ _ (⟨(⟨#[97]⟩ : ByteArray), 2⟩ : S56) [.string (⟨#[97]⟩ : ByteArray), .int .i64 2] from (k56_mkM _ _ _ (⟨(⟨#[97]⟩ : ByteArray), 2⟩ : S56) )) (Reps.c2 (show Kd.M k56 _ _ _ (⟨(⟨#[98]⟩ : ByteArray), 3⟩ : S56) [.string (⟨#[98]⟩ : ByteArray), .int .i64 3] from (k56_mkM _ _ _ (⟨(⟨#[98]⟩ : ByteArray), 3⟩ : S56) )) (Reps.c2 (show Kd.M k56 _ _ _ (⟨(⟨#[99]⟩ : ByteArray), 1⟩ : S56) [.string (⟨#[99]⟩ : ByteArray), .int .i64 1] from (k56_mkM _ _ _ (⟨(⟨#[99]⟩ : ByteArray), 1⟩ : S56) )) (Reps.c2 (show Kd.M k56 _ _ _ (⟨(⟨#[99]⟩ : ByteArray), 2⟩ : S56) [.string (⟨#[99]⟩ : ByteArray), .int .i64 2] from (k56_mkM _ _ _ (⟨(⟨#[99]⟩ : ByteArray), 2⟩ : S56) )) (Reps.c2 (show Kd.M k56 _ _ _ (⟨(⟨#[100]⟩ : ByteArray), 3⟩ : S56) [.string (⟨#[100]⟩ : ByteArray), .int .i64 3] from (k56_mkM _ _ _ (⟨(⟨#[100]⟩ : ByteArray), 3⟩ : S56) )) (Reps.c2 (show Kd.M k56 _ _ _ (⟨(⟨#[120]⟩ : ByteArray), 2⟩ : S56) [.string (⟨#[120]⟩ : ByteArray), .int .i64 2] from (k56_mkM _ _ _ (⟨(⟨#[120]⟩ : ByteArray), 2⟩ : S56) )) (Reps.none _ _))))))))); intro v102 w30 ho31 hb hg_ hnew_; clear hg_ hnew_; (rw [← Ny101.out] at ho31); have HO103 := M0 (Kd.R_lower ho31 (below_size HB.out)); replace HB := M0 (below_step HB.out hb); clear hb ho31) | ((with_reducible refine gate_callee (f := 29) rfl ?_); refine goesL_ (some 16) rfl rfl Try.func29 (by kernel_rfl) rfl #[.int .i64 a0, .int .i64 5] rfl (by (simp only [List.map_toArray, List.map_cons, List.map_nil]); rfl) ?_; (with_reducible refine (canopylaw1_within.calls a0 5 t104 _ A3.out).mono ?_); rintro e w' ⟨rfl, rfl⟩; refine ⟨_, rfl, ?_⟩) | ((with_reducible refine gate_callee (f := 29) rfl ?_); refine goesL_ (some 19) rfl rfl Try.func29 (by kernel_rfl) rfl #[.int .i64 a0, .int .i64 7] rfl (by (simp only [List.map_toArray, List.map_cons, List.map_nil]); rfl) ?_; (with_reducible refine (canopylaw1_within.calls a0 7 t105 _ A4.out).mono ?_); rintro e w' ⟨rfl, rfl⟩; refine ⟨_, rfl, ?_⟩) | ((with_reducible refine gate_callee (f := 29) rfl ?_); refine goesL_ (some 32) rfl rfl Try.func29 (by kernel_rfl) rfl #[.int .i64 a0, .int .i64 11] rfl (by (simp only [List.map_toArray, List.map_cons, List.map_nil]); rfl) ?_; (with_reducible refine (canopylaw1_within.calls a0 11 t112 _ A15.out).mono ?_); rintro e w' ⟨rfl, rfl⟩; refine ⟨_, rfl, ?_⟩; obtain ⟨Ao32, co32, eo32⟩ := Kd.R_slice HO103.out; subst eo32; have q33 : ((ji27) : Int) ≤ ((y101.length : Int) : Int) := of_decide_eq_true (by (with_reducible assumption)); obtain ⟨i033, hi033, _, hsz33, _⟩ := info_parts info56; have hcut33 := cut_to (P := Try.prog) 24 56 .i64 Try.underlying24 hi033 Ao32 y101.length co32 (ji27) (of_decide_eq_true (by (with_reducible assumption))) q33 (Kd.R_reads' HO103.out).2.1; have hr33 := Kd.R_take (m := ((ji27) : Int).toNat) HO103.out (by omega); have hy33 : y119.length = ((ji27) : Int).toNat := (by rw [Ny119.out, List.length_take]; omega); rw [← Ny119.out] at hr33; rw [← hy33] at hr33 hcut33; clear hy33 hi033 hsz33 HO103; have HO121 := M0 hr33; clear hr33; clear q33))
      go_ret
      exact ⟨_, by rfl, by exact HO121.out, by with_reducible exact HB.out⟩
     ·rw [if_neg c29] at H
      exact absurd H (by simp)
    ·rw [if_neg c28] at H
     exact absurd H (by simp)
  ·rw [if_neg c16] at H
   have c16b0 := bF c16
   obtain ⟨ji34, hji34⟩ : ∃ j_ : Int, (wrap64 (3 + t104)) = j_ := ⟨_, rfl⟩
   replace H : (if 0 ≤ (ji34) then (if (ji34) ≤ (y101.length : Int) then (some (y101.take ((ji34) : Int).toNat)) else (none)) else (none)) = some r := by (rw [hji34] at H; exact H)
   (skip)
   (skip)
   (skip)
   have hji34w : (IntKind.i64.wrap (3 + t104)) = ji34 := (i64_w _).trans hji34
   by_cases c35 : 0 ≤ (ji34)
   ·rw [if_pos c35] at H
    have c35b0 := eq_true c35
    have c35b1 := decide_eq_true c35
    clear c35
    by_cases c36 : (ji34) ≤ (y101.length : Int)
    ·rw [if_pos c36] at H
     have c36b1 := decide_eq_true c36
     clear c36
     obtain ⟨y122, hy122⟩ : ∃ y_ : List (S56), y_ = (y101.take ((ji34) : Int).toNat) := ⟨_, rfl⟩
     replace H : (some y122) = some r := by (rw [hy122]; with_reducible exact H)
     have Ny122 := M0 hy122
     clear hy122
     obtain rfl := Option.some.inj H
     go_enter Try.func14, Try.ntmps14
     go_wp2_with (first | ((with_reducible refine gate_dst (N := 14) rfl ?_); refine Kd.R_lit k56 _ 56 ?hg (N := 14) ?hd (xs := ([(⟨(⟨#[97]⟩ : ByteArray), 1⟩ : S56), (⟨(⟨#[97]⟩ : ByteArray), 2⟩ : S56), (⟨(⟨#[98]⟩ : ByteArray), 3⟩ : S56), (⟨(⟨#[99]⟩ : ByteArray), 1⟩ : S56), (⟨(⟨#[99]⟩ : ByteArray), 2⟩ : S56), (⟨(⟨#[100]⟩ : ByteArray), 3⟩ : S56), (⟨(⟨#[120]⟩ : ByteArray), 2⟩ : S56)] : List (S56))) (inner := [.string (⟨#[97]⟩ : ByteArray), .int .i64 1, .string (⟨#[97]⟩ : ByteArray), .int .i64 2, .string (⟨#[98]⟩ : ByteArray), .int .i64 3, .string (⟨#[99]⟩ : ByteArray), .int .i64 1, .string (⟨#[99]⟩ : ByteArray), .int .i64 2, .string (⟨#[100]⟩ : ByteArray), .int .i64 3, .string (⟨#[120]⟩ : ByteArray), .int .i64 2]) (ok := fun _ => True) (okp := fun _ => True) ?hr ?hp (fun _ hk => hk) trivial (Below.refl _ _) (Nat.le_refl _) (by simp) ?_; (case hd => rfl); (case hg => rfl); (case hr => (go_simp; done)); (case hp => exact (Reps.c2 (show Kd.M k56 _ _ _ (⟨(⟨#[97]⟩ : ByteArray), 1⟩ : S56) [.string (⟨#[97]⟩ : ByteArray), .int .i64 1] from (k56_mkM _ _ _ (⟨(⟨#[97]⟩ : ByteArray), 1⟩ : S56) )) (Reps.c2 (show Kd.M k56 _ _ _ (⟨(⟨#[97]⟩ : ByteArray), 2⟩ : S56) [.string (⟨#[97]⟩ : ByteArray), .int .i64 2] from (k56_mkM _ _ _ (⟨(⟨#[97]⟩ : ByteArray), 2⟩ : S56) )) (Reps.c2 (show Kd.M k56 _ _ _ (⟨(⟨#[98]⟩ : ByteArray), 3⟩ : S56) [.string (⟨#[98]⟩ : ByteArray), .int .i64 3] from (k56_mkM _ _ _ (⟨(⟨#[98]⟩ : ByteArray), 3⟩ : S56) )) (Reps.c2 (show Kd.M k56 _ _ _ (⟨(⟨#[99]⟩ : ByteArray), 1⟩ : S56) [.string (⟨#[99]⟩ : ByteArray), .int .i64 1] from (k56_mkM _ _ _ (⟨(⟨#[99]⟩ : ByteArray), 1⟩ : S56) )) (Reps.c2 (show Kd.M k56 _ _ _ (⟨(⟨#[99]⟩ : ByteArray), 2⟩ : S56) [.string (⟨#[99]⟩ : ByteArray), .int .i64 2] from (k56_mkM _ _ _ (⟨(⟨#[99]⟩ : ByteArray), 2⟩ : S56) )) (Reps.c2 (show Kd.M k56 _ _ _ (⟨(⟨#[100]⟩ : ByteArray), 3⟩ : S56) [.string (⟨#[100]⟩ : ByteArray), .int .i64 3] from (k56_mkM _ _ _ (⟨(⟨#[100]⟩ : ByteArray), 3⟩ : S56) )) (Reps.c2 (show Kd.M k56 _ _ _ (⟨(⟨#[120]⟩ : ByteArray), 2⟩ : S56) [.string (⟨#[120]⟩ : ByteArray), .int .i64 2] from (k56_mkM _ _ _ (⟨(⟨#[120]⟩ : ByteArray), 2⟩ : S56) )) (Reps.none _ _))))))))); intro v102 w37 ho38 hb hg_ hnew_; clear hg_ hnew_; (rw [← Ny101.out] at ho38); have HO103 := M0 (Kd.R_lower ho38 (below_size HB.out)); replace HB := M0 (below_step HB.out hb); clear hb ho38) | ((with_reducible refine gate_callee (f := 29) rfl ?_); refine goesL_ (some 16) rfl rfl Try.func29 (by kernel_rfl) rfl #[.int .i64 a0, .int .i64 5] rfl (by (simp only [List.map_toArray, List.map_cons, List.map_nil]); rfl) ?_; (with_reducible refine (canopylaw1_within.calls a0 5 t104 _ A3.out).mono ?_); rintro e w' ⟨rfl, rfl⟩; refine ⟨_, rfl, ?_⟩) | ((with_reducible refine gate_callee (f := 29) rfl ?_); refine goesL_ (some 19) rfl rfl Try.func29 (by kernel_rfl) rfl #[.int .i64 a0, .int .i64 7] rfl (by (simp only [List.map_toArray, List.map_cons, List.map_nil]); rfl) ?_; (with_reducible refine (canopylaw1_within.calls a0 7 t105 _ A4.out).mono ?_); rintro e w' ⟨rfl, rfl⟩; refine ⟨_, rfl, ?_⟩) | ((with_reducible refine gate_callee (f := 29) rfl ?_); refine goesL_ (some 32) rfl rfl Try.func29 (by kernel_rfl) rfl #[.int .i64 a0, .int .i64 11] rfl (by (simp only [List.map_toArray, List.map_cons, List.map_nil]); rfl) ?_; (with_reducible refine (canopylaw1_within.calls a0 11 t112 _ A15.out).mono ?_); rintro e w' ⟨rfl, rfl⟩; refine ⟨_, rfl, ?_⟩; obtain ⟨Ao39, co39, eo39⟩ := Kd.R_slice HO103.out; subst eo39; have q40 : ((ji34) : Int) ≤ ((y101.length : Int) : Int) := of_decide_eq_true (by (with_reducible assumption)); obtain ⟨i040, hi040, _, hsz40, _⟩ := info_parts info56; have hcut40 := cut_to (P := Try.prog) 24 56 .i64 Try.underlying24 hi040 Ao39 y101.length co39 (ji34) (of_decide_eq_true (by (with_reducible assumption))) q40 (Kd.R_reads' HO103.out).2.1; have hr40 := Kd.R_take (m := ((ji34) : Int).toNat) HO103.out (by omega); have hy40 : y122.length = ((ji34) : Int).toNat := (by rw [Ny122.out, List.length_take]; omega); rw [← Ny122.out] at hr40; rw [← hy40] at hr40 hcut40; clear hy40 hi040 hsz40 HO103; have HO124 := M0 hr40; clear hr40; clear q40))
     go_ret
     exact ⟨_, by rfl, by exact HO124.out, by with_reducible exact HB.out⟩
    ·rw [if_neg c36] at H
     exact absurd H (by simp)
   ·rw [if_neg c35] at H
    exact absurd H (by simp)

/-! ### expr_shape: function 54 -/
mutual
def expr_shape.j0 : Nat → Int → Int → Bool → Int → Int → Int → List (S28) → Option (Bool)
 | 0, _, _, _, _, _, _, _ => none
 | k + 1, x3, x8, x9, x126000, x126001, x126002, x126003 => if x9 = true then (if x3 = 0 then (if x126001 = 0 then (some (x126002 == 0)) else (some false)) else (some false)) else (if x8 = 3 then (if x3 = 0 then (some (x126002 == 0)) else (some false)) else (if x8 = 4 then (some (x3 == 1)) else (if x8 = 5 then (expr_shape.j1 k x3 x8 (x8 == 5) x126000 x126001 x126002 x126003) else (expr_shape.j1 k x3 x8 (x8 == 6) x126000 x126001 x126002 x126003))))
def expr_shape.j1 : Nat → Int → Int → Bool → Int → Int → Int → List (S28) → Option (Bool)
 | 0, _, _, _, _, _, _, _ => none
 | k + 1, x3, x8, x37, x126000, x126001, x126002, x126003 => if x37 = true then (if x3 ≥ 2 then (if x126001 = 0 then (some (x126002 == 0)) else (some false)) else (some false)) else (if x8 = 7 then (if x3 = 1 then (if x126001 = 0 then (some (x126002 == 0)) else (some false)) else (some false)) else (some false))
end
def expr_shape.f (k : Nat) (a0_0 : Int) (a0_1 : Int) (a0_2 : Int) (l0_3 : List (S28)) : Option (Bool) := if a0_0 = 1 then (expr_shape.j0 k (l0_3.length : Int) a0_0 (a0_0 == 1) a0_0 a0_1 a0_2 l0_3) else (expr_shape.j0 k (l0_3.length : Int) a0_0 (a0_0 == 2) a0_0 a0_1 a0_2 l0_3)
theorem expr_shape.mono_l : ∀ k, (∀ y0 y1 y2 y3 y4 y5 y6, LeO (expr_shape.j0 k y0 y1 y2 y3 y4 y5 y6) (expr_shape.j0 (k + 1) y0 y1 y2 y3 y4 y5 y6)) ∧ (∀ y0 y1 y2 y3 y4 y5 y6, LeO (expr_shape.j1 k y0 y1 y2 y3 y4 y5 y6) (expr_shape.j1 (k + 1) y0 y1 y2 y3 y4 y5 y6))
 | 0 => ⟨fun _ _ _ _ _ _ _ r h => by simp [expr_shape.j0] at h, fun _ _ _ _ _ _ _ r h => by simp [expr_shape.j1] at h⟩
 | k + 1 => by
  obtain ⟨ih0, ih1⟩ := expr_shape.mono_l k
  refine ⟨?_, ?_⟩
  ·intro y0 y1 y2 y3 y4 y5 y6
   unfold expr_shape.j0
   repeat' first
   | (with_reducible exact ih1 _ _ _ _ _ _ _)
   | (with_reducible exact LeO.refl _)
   | (with_reducible refine LeO.ite ?_ ?_)
  ·intro y0 y1 y2 y3 y4 y5 y6
   unfold expr_shape.j1
   repeat' first
   | (with_reducible exact LeO.refl _)
theorem expr_shape.mono : ∀ a0 a1 a2 a3 k, LeO (expr_shape.f k a0 a1 a2 a3) (expr_shape.f (k + 1) a0 a1 a2 a3) := by
 intro a0 a1 a2 a3 k
 obtain ⟨ih0, ih1⟩ := expr_shape.mono_l k
 unfold expr_shape.f
 repeat' first
   | (with_reducible exact ih0 _ _ _ _ _ _ _)
   | (with_reducible refine LeO.ite ?_ ?_)
set_option maxHeartbeats 8000000 in
set_option maxRecDepth 100000 in
theorem expr_shape.calls (k : Nat) (a0_0 : Int) (a0_1 : Int) (a0_2 : Int) (A0_3 : Option Addr) (c0_3 : Nat) (l0_3 : List (S28)) (r : Bool) (w : World) (hr0_3 : Kd.C k28 w A0_3 l0_3.length l0_3) (hc0_3 : l0_3.length ≤ c0_3) (h : expr_shape.f k a0_0 a0_1 a0_2 l0_3 = some r) :
  Calls Try.prog 54 #[.agg #[.int .i64 a0_0, .int .i64 a0_1, .int .i64 a0_2, .slice A0_3 l0_3.length c0_3]] w fun e w' => e = .returned (.bool r) ∧ Below w.heap.size w w' := by
 clear hr0_3 hc0_3
 have HB := M0 (Below.refl w.heap.size w)
 have H : (if a0_0 = 1 then (expr_shape.j0 k (l0_3.length : Int) a0_0 (a0_0 == 1) a0_0 a0_1 a0_2 l0_3) else (expr_shape.j0 k (l0_3.length : Int) a0_0 (a0_0 == 2) a0_0 a0_1 a0_2 l0_3)) = some r := h
 clear h
 have HC2 := M0 H
 clear H
 go_enter Try.func54, Try.ntmps54
 go_upto_if 9 with (((with_reducible refine gate_dst (N := 1) rfl ?_); refine box_event ?hg (N := 1) ?hd (cs := #[.int .i64 a0_0, .int .i64 a0_1, .int .i64 a0_2, .slice A0_3 l0_3.length c0_3]) (t := 28) ?hr ?_; (case hd => rfl); (case hg => rfl); (case hr => (go_simp; done)); intro gb125 hg w3 hbox hb; have BK125 := M0 hbox; replace HB := M0 (below_step HB.out hb); clear hb hbox hg; obtain ⟨hcz4_0, hcz4_1, hcz4_2, hcz4_3, hfz4_0, hfz4_1, hfz4_2, hfz4_3⟩ := cells4 BK125.out))
 (skip)
 go_cut [9] (fun v9 wc => ∃ (kq : Nat) (x9_1 : Bool), v9 = .bool x9_1 ∧ Aside0 (expr_shape.j0 kq (l0_3.length : Int) a0_0 x9_1 a0_0 a0_1 a0_2 l0_3 = some r) ∧ Aside0 (kq ≤ k) ∧ Aside0 (wc.heap[gb125]? = some (.cells #[.int .i64 a0_0, .int .i64 a0_1, .int .i64 a0_2, (.slice A0_3 l0_3.length c0_3)] 28 (0, 0))) ∧ Aside0 (Below w.heap.size w wc))
 case first =>
  have H := HC2.out
  clear HC2
  by_cases c5 : a0_0 = 1
  ·rw [if_pos c5] at H
   have c5b0 := bT c5
   clear c5
   (rw [c5b0])
   have H' := M0 H
   clear H
   go_wp2
   go_meet
   case rel => exact ⟨_, ((a0_0 == 1)), (by (simp [*]; done)), H', ⟨by omega⟩, ⟨by exact BK125.out⟩, ⟨by with_reducible exact HB.out⟩⟩
  ·rw [if_neg c5] at H
   have c5b0 := bF c5
   (rw [c5b0])
   have H' := M0 H
   clear H
   go_wp2
   go_meet
   case rel => exact ⟨_, ((a0_0 == 2)), (by rfl), H', ⟨by omega⟩, ⟨by exact BK125.out⟩, ⟨by with_reducible exact HB.out⟩⟩
 case rest =>
  clear HC2 hcz4_0 hcz4_1 hcz4_2 hcz4_3 hfz4_0 hfz4_1 hfz4_2 hfz4_3
  obtain ⟨kq, x9_1, rfl, HA, HJ1, BK125, HB⟩ := hcut
  cases kq with
  | zero => exact absurd HA.out (by simp [expr_shape.j0])
  | succ kj1 =>
   have H := HA.out
   clear HA
   simp only [expr_shape.j0] at H
   by_cases c6 : x9_1 = true
   ·subst c6
    rw [if_pos rfl] at H
    by_cases c7 : (l0_3.length : Int) = 0
    ·rw [if_pos c7] at H
     have c7b0 := bT c7
     have c7b1 := nF c7
     clear c7
     by_cases c8 : a0_1 = 0
     ·rw [if_pos c8] at H
      have c8b0 := bT c8
      clear c8
      obtain rfl := Option.some.inj H
      obtain ⟨_, _, _, _, _, _, _, _⟩ := cells4 BK125.out
      go_wp2
      go_ret
      exact ⟨by rfl, by with_reducible exact HB.out⟩
     ·rw [if_neg c8] at H
      have c8b0 := bF c8
      obtain rfl := Option.some.inj H
      obtain ⟨_, _, _, _, _, _, _, _⟩ := cells4 BK125.out
      go_wp2
      go_ret
      exact ⟨by rfl, by with_reducible exact HB.out⟩
    ·rw [if_neg c7] at H
     have c7b0 := bF c7
     obtain rfl := Option.some.inj H
     go_wp2
     go_ret
     exact ⟨by rfl, by with_reducible exact HB.out⟩
   ·replace c6 := Bool.eq_false_iff.mpr c6
    subst c6
    rw [if_neg (show ¬ (false = true) by decide)] at H
    by_cases c11 : a0_0 = 3
    ·rw [if_pos c11] at H
     have c11b0 := bT c11
     have c11b1 := nF c11
     clear c11
     by_cases c12 : (l0_3.length : Int) = 0
     ·rw [if_pos c12] at H
      have c12b0 := bT c12
      clear c12
      obtain rfl := Option.some.inj H
      obtain ⟨_, _, _, _, _, _, _, _⟩ := cells4 BK125.out
      go_wp2
      go_ret
      exact ⟨by rfl, by with_reducible exact HB.out⟩
     ·rw [if_neg c12] at H
      have c12b0 := bF c12
      obtain rfl := Option.some.inj H
      go_wp2
      go_ret
      exact ⟨by rfl, by with_reducible exact HB.out⟩
    ·rw [if_neg c11] at H
     have c11b0 := bF c11
     have c11b1 := nT c11
     by_cases c14 : a0_0 = 4
     ·rw [if_pos c14] at H
      have c14b0 := bT c14
      clear c14
      obtain rfl := Option.some.inj H
      go_wp2
      go_ret
      exact ⟨by rfl, by with_reducible exact HB.out⟩
     ·rw [if_neg c14] at H
      have c14b0 := bF c14
      have c14b1 := nT c14
      have HC15 := M0 H
      clear H
      go_upto_if 37 with (fail)
      go_cut [37] (fun v37 wc => ∃ (kq : Nat) (x37_14 : Bool), v37 = .bool x37_14 ∧ Aside0 (expr_shape.j1 kq (l0_3.length : Int) a0_0 x37_14 a0_0 a0_1 a0_2 l0_3 = some r) ∧ Aside0 (kq ≤ kj1) ∧ Aside0 (wc.heap[gb125]? = some (.cells #[.int .i64 a0_0, .int .i64 a0_1, .int .i64 a0_2, (.slice A0_3 l0_3.length c0_3)] 28 (0, 0))) ∧ Aside0 (Below w.heap.size w wc))
      case first =>
       have H := HC15.out
       clear HC15
       by_cases c16 : a0_0 = 5
       ·rw [if_pos c16] at H
        have c16b0 := bT c16
        clear c16
        (rw [c16b0])
        have H' := M0 H
        clear H
        go_wp2
        go_meet
        case rel => exact ⟨_, ((a0_0 == 5)), (by (simp [*]; done)), H', ⟨by have := HJ1.out; omega⟩, ⟨by exact BK125.out⟩, ⟨by with_reducible exact HB.out⟩⟩
       ·rw [if_neg c16] at H
        have c16b0 := bF c16
        (rw [c16b0])
        have H' := M0 H
        clear H
        go_wp2
        go_meet
        case rel => exact ⟨_, ((a0_0 == 6)), (by rfl), H', ⟨by have := HJ1.out; omega⟩, ⟨by exact BK125.out⟩, ⟨by with_reducible exact HB.out⟩⟩
      case rest =>
       clear HC15 c11 c11b0 c11b1 c14 c14b0 c14b1
       obtain ⟨kq, x37_14, rfl, HA, HJ14, BK125, HB⟩ := hcut
       cases kq with
       | zero => exact absurd HA.out (by simp [expr_shape.j1])
       | succ kj14 =>
        have H := HA.out
        clear HA
        simp only [expr_shape.j1] at H
        by_cases c17 : x37_14 = true
        ·subst c17
         rw [if_pos rfl] at H
         by_cases c18 : (l0_3.length : Int) ≥ 2
         ·rw [if_pos c18] at H
          have c18b0 : decide (2 ≤ (l0_3.length : Int)) = true := decide_eq_true c18
          have c18b1 : decide (2 ≤ l0_3.length) = true := decide_eq_true (by omega)
          clear c18
          by_cases c19 : a0_1 = 0
          ·rw [if_pos c19] at H
           have c19b0 := bT c19
           clear c19
           obtain rfl := Option.some.inj H
           obtain ⟨_, _, _, _, _, _, _, _⟩ := cells4 BK125.out
           go_wp2
           go_ret
           exact ⟨by rfl, by with_reducible exact HB.out⟩
          ·rw [if_neg c19] at H
           have c19b0 := bF c19
           obtain rfl := Option.some.inj H
           obtain ⟨_, _, _, _, _, _, _, _⟩ := cells4 BK125.out
           go_wp2
           go_ret
           exact ⟨by rfl, by with_reducible exact HB.out⟩
         ·rw [if_neg c18] at H
          have c18b0 : decide (2 ≤ (l0_3.length : Int)) = false := decide_eq_false c18
          clear c18
          obtain rfl := Option.some.inj H
          go_wp2
          go_ret
          exact ⟨by rfl, by with_reducible exact HB.out⟩
        ·replace c17 := Bool.eq_false_iff.mpr c17
         subst c17
         rw [if_neg (show ¬ (false = true) by decide)] at H
         by_cases c22 : a0_0 = 7
         ·rw [if_pos c22] at H
          have c22b0 := bT c22
          have c22b1 := nF c22
          clear c22
          by_cases c23 : (l0_3.length : Int) = 1
          ·rw [if_pos c23] at H
           have c23b0 := bT c23
           have c23b1 := nF c23
           clear c23
           by_cases c24 : a0_1 = 0
           ·rw [if_pos c24] at H
            have c24b0 := bT c24
            clear c24
            obtain rfl := Option.some.inj H
            obtain ⟨_, _, _, _, _, _, _, _⟩ := cells4 BK125.out
            go_wp2
            go_ret
            exact ⟨by rfl, by with_reducible exact HB.out⟩
           ·rw [if_neg c24] at H
            have c24b0 := bF c24
            obtain rfl := Option.some.inj H
            obtain ⟨_, _, _, _, _, _, _, _⟩ := cells4 BK125.out
            go_wp2
            go_ret
            exact ⟨by rfl, by with_reducible exact HB.out⟩
          ·rw [if_neg c23] at H
           have c23b0 := bF c23
           obtain rfl := Option.some.inj H
           go_wp2
           go_ret
           exact ⟨by rfl, by with_reducible exact HB.out⟩
         ·rw [if_neg c22] at H
          have c22b0 := bF c22
          obtain rfl := Option.some.inj H
          go_wp2
          go_ret
          exact ⟨by rfl, by with_reducible exact HB.out⟩

/-! ### expr_of: function 55 -/
def expr_of.f (l0 : List (S56)) (a1 : Int) : Option (Int) := if a1 < 0 then (some 0) else (if a1 ≥ (l0.length : Int) then (some 0) else (if 0 ≤ a1 then (if a1 < (l0.length : Int) then (some ((rd_T56 l0 a1).f1)) else (none)) else (none)))
set_option maxHeartbeats 8000000 in
set_option maxRecDepth 100000 in
theorem expr_of.calls (A0 : Option Addr) (c0 : Nat) (l0 : List (S56)) (a1 : Int) (r : Int) (w : World) (hr0 : Kd.C k56 w A0 l0.length l0) (hc0 : l0.length ≤ c0) (h : expr_of.f l0 a1 = some r) :
  Calls Try.prog 55 #[.slice A0 l0.length c0, .int .i64 a1] w fun e w' => e = .returned (.int .i64 r) ∧ Drawn0 w w' := by
 have HR0 := M0 hr0
 clear hr0 hc0
 have H : (if a1 < 0 then (some 0) else (if a1 ≥ (l0.length : Int) then (some 0) else (if 0 ≤ a1 then (if a1 < (l0.length : Int) then (some ((rd_T56 l0 a1).f1)) else (none)) else (none)))) = some r := h
 clear h
 by_cases c3 : a1 < 0
 ·rw [if_pos c3] at H
  have c3b0 := decide_eq_true c3
  clear c3
  obtain rfl := Option.some.inj H
  go_enter Try.func55, Try.ntmps55
  go_wp2
  go_ret
  exact ⟨by rfl, by repeat (exact Drawn0.refl _)⟩
 ·rw [if_neg c3] at H
  have c3b0 := decide_eq_false c3
  clear c3
  by_cases c4 : a1 ≥ (l0.length : Int)
  ·rw [if_pos c4] at H
   have c4b0 : decide ((l0.length : Int) ≤ a1) = true := decide_eq_true c4
   clear c4
   obtain rfl := Option.some.inj H
   go_enter Try.func55, Try.ntmps55
   go_wp2
   go_ret
   exact ⟨by rfl, by repeat (exact Drawn0.refl _)⟩
  ·rw [if_neg c4] at H
   have c4b0 : decide ((l0.length : Int) ≤ a1) = false := decide_eq_false c4
   clear c4
   by_cases c5 : 0 ≤ a1
   ·rw [if_pos c5] at H
    have c5b0 := decide_eq_true c5
    clear c5
    by_cases c6 : a1 < (l0.length : Int)
    ·rw [if_pos c6] at H
     have c6b0 := decide_eq_true c6
     clear c6
     obtain rfl := Option.some.inj H
     have p126 : 0 ≤ (a1 : Int) := of_decide_eq_true (by (with_reducible assumption))
     have q126 : a1 < (l0.length : Int) := of_decide_eq_true (by (with_reducible assumption))
     obtain ⟨ad126, e126, hx126_0, hx126_1⟩ := at_T56 HR0.out a1 p126 q126
     cases e126
     replace p126 := eq_true p126
     replace q126 := eq_true q126
     go_enter Try.func55, Try.ntmps55
     go_wp2
     go_ret
     exact ⟨by rfl, by repeat (exact Drawn0.refl _)⟩
    ·rw [if_neg c6] at H
     exact absurd H (by simp)
   ·rw [if_neg c5] at H
    exact absurd H (by simp)

-- NOT PRINTED: function 36 (expr_faults_over)

end Go.Proofs.Ytodbnnfiadcbaaa.P
namespace Go.Proofs.Ytodbnnfiadcbaaa.P
open Go.RowKit Go.Proofs.YtodbnnfiadcbaaaW.PrintWords Go.Proofs.YtodbnnfiadcbaaaW.PrintLast Go.Proofs.YtodbnnfiadcbaaaW.PrintMore
set_option linter.unusedVariables false
set_option linter.unusedSimpArgs false
structure OvS where
 n : Int
 deep : Bool
 kind : Bool
 name : Bool
 loose : Bool
/-! #### the plain function -/
def ofF (l : List S56) (i : Int) : Int := if i < 0 then 0 else if i ≥ (l.length : Int) then 0 else (rd_T56 l i).f1
def shF (e : S28) : Bool :=
 if e.f0 = 1 ∨ e.f0 = 2 then e.f3.length == 0 && (e.f1 == 0 && e.f2 == 0)
 else if e.f0 = 3 then e.f3.length == 0 && e.f2 == 0
 else if e.f0 = 4 then e.f3.length == 1
 else if e.f0 = 5 ∨ e.f0 = 6 then decide (2 ≤ e.f3.length) && (e.f1 == 0 && e.f2 == 0)
 else if e.f0 = 7 then e.f3.length == 1 && (e.f1 == 0 && e.f2 == 0)
 else false
theorem shape_shF (e : S28) : expr_shape.f 3 e.f0 e.f1 e.f2 e.f3 = some (shF e) := by
 unfold expr_shape.f shF
 by_cases h1 : e.f0 = 1
 ·simp only [h1, expr_shape.j0, if_true]
  by_cases a0 : e.f3.length = 0 <;> by_cases a1 : e.f1 = 0 <;> simp [a0, a1]
 by_cases h2 : e.f0 = 2
 ·simp only [h2, expr_shape.j0, if_true]
  by_cases a0 : e.f3.length = 0 <;> by_cases a1 : e.f1 = 0 <;> simp [a0, a1]
 have b1 : (e.f0 == 1) = false := beq_eq_false_iff_ne.mpr h1
 have b2 : (e.f0 == 2) = false := beq_eq_false_iff_ne.mpr h2
 by_cases h3 : e.f0 = 3
 ·simp only [h3, expr_shape.j0]
  by_cases a0 : e.f3.length = 0 <;> simp [a0]
 by_cases h4 : e.f0 = 4
 ·simp only [h4, expr_shape.j0]
  simp
  rw [Bool.eq_iff_iff]; simp; omega
 by_cases h5 : e.f0 = 5
 ·simp only [h5, expr_shape.j0, expr_shape.j1]
  by_cases a0 : 2 ≤ e.f3.length <;> by_cases a1 : e.f1 = 0 <;> simp [a0, a1] <;> omega
 by_cases h6 : e.f0 = 6
 ·simp only [h6, expr_shape.j0, expr_shape.j1]
  by_cases a0 : 2 ≤ e.f3.length <;> by_cases a1 : e.f1 = 0 <;> simp [a0, a1] <;> omega
 by_cases h7 : e.f0 = 7
 ·simp only [h7, expr_shape.j0, expr_shape.j1]
  by_cases a0 : e.f3.length = 1
  ·by_cases a1 : e.f1 = 0 <;> simp [a0, a1]
  ·have a2 : ¬ (e.f3.length : Int) = 1 := by omega
   simp [a0, a2]
 ·have b3 : (e.f0 == 3) = false := beq_eq_false_iff_ne.mpr h3
  have b4 : (e.f0 == 4) = false := beq_eq_false_iff_ne.mpr h4
  have b5 : (e.f0 == 5) = false := beq_eq_false_iff_ne.mpr h5
  have b6 : (e.f0 == 6) = false := beq_eq_false_iff_ne.mpr h6
  simp [expr_shape.j0, expr_shape.j1, h1, h2, h3, h4, h5, h6, h7]
def ovNm (l : List S56) (e : S28) (nm : Bool) : Bool :=
 if e.f0 = 3 then nm || ofF l e.f1 == 0 else if e.f0 = 4 then nm || (ofF l e.f1 != 1 || ofF l e.f2 != 2) else nm
def ovLs (l : List S56) (e : S28) (nest ls : Bool) : Bool :=
 if e.f0 = 3 then ls || (nest && (ofF l e.f1 == 1 || ofF l e.f1 == 2)) else ls
def ovA (f : S28 → OvS → Option OvS) : List S28 → OvS → Option OvS
 | [], s => some s
 | x :: xs, s => if s.deep = true then ovA f xs s else (f x s).bind fun s' => ovA f xs s'
def ovB (f : S28 → OvS → Option OvS) : List S28 → OvS → Option OvS
 | [], s => some s
 | x :: xs, s => (f x s).bind fun s' => ovB f xs s'
def overF : Nat → List S56 → OvS → S28 → Int → Bool → Option OvS
 | 0, _, _, _, _, _ => none
 | k + 1, l, s, e, deep, nest =>
  if ((s.deep || decide (20 < deep)) || decide (200 < wrap64 (s.n + 1))) = true then ovA (fun x s => overF k l s x (wrap64 (deep + 1)) nest) e.f3 ⟨wrap64 (s.n + 1), s.deep || decide (20 < deep), s.kind, s.name, s.loose⟩
  else ovB (fun x s => overF k l s x (wrap64 (deep + 1)) (nest || e.f0 == 4)) e.f3 ⟨wrap64 (s.n + 1), s.deep || decide (20 < deep), s.kind || !shF e, ovNm l e s.name, ovLs l e nest s.loose⟩
theorem ovA_le {f g : S28 → OvS → Option OvS} (h : ∀ x s, LeO (f x s) (g x s)) : ∀ xs s, LeO (ovA f xs s) (ovA g xs s)
 | [], s => LeO.refl _
 | x :: xs, s => by
  unfold ovA
  exact LeO.ite (ovA_le h xs s) (LeO.bind (h x s) fun s' => ovA_le h xs s')
theorem ovB_le {f g : S28 → OvS → Option OvS} (h : ∀ x s, LeO (f x s) (g x s)) : ∀ xs s, LeO (ovB f xs s) (ovB g xs s)
 | [], s => LeO.refl _
 | x :: xs, s => LeO.bind (h x s) fun s' => ovB_le h xs s'
theorem overF_le : ∀ k l s e d n, LeO (overF k l s e d n) (overF (k + 1) l s e d n)
 | 0, l, s, e, d, n => by unfold overF; exact LeO.none _
 | k + 1, l, s, e, d, n => by
  unfold overF
  exact LeO.ite (ovA_le (fun x s => overF_le k l s x _ _) _ _) (ovB_le (fun x s => overF_le k l s x _ _) _ _)
theorem ovA_step {f : S28 → OvS → Option OvS} {l : List S28} {s r : OvS} {j : Nat} (hj : j < l.length) (h : ovA f (l.drop j) s = some r) :
  (s.deep = true ∧ ovA f (l.drop (j + 1)) s = some r) ∨ (s.deep = false ∧ ∃ s', f (l.getD j z28) s = some s' ∧ ovA f (l.drop (j + 1)) s' = some r) := by
 rw [show l.drop j = l.getD j z28 :: l.drop (j + 1) by rw [List.getD_eq_getElem?_getD, List.getElem?_eq_getElem hj]; exact List.drop_eq_getElem_cons hj] at h
 unfold ovA at h
 cases hd : s.deep with
 | true => rw [hd, if_pos rfl] at h; exact .inl ⟨rfl, h⟩
 | false =>
  rw [hd, if_neg (by decide)] at h
  exact .inr ⟨rfl, Option.bind_eq_some_iff.mp h⟩
theorem ovB_step {f : S28 → OvS → Option OvS} {l : List S28} {s r : OvS} {j : Nat} (hj : j < l.length) (h : ovB f (l.drop j) s = some r) :
  ∃ s', f (l.getD j z28) s = some s' ∧ ovB f (l.drop (j + 1)) s' = some r := by
 rw [show l.drop j = l.getD j z28 :: l.drop (j + 1) by rw [List.getD_eq_getElem?_getD, List.getElem?_eq_getElem hj]; exact List.drop_eq_getElem_cons hj] at h
 exact Option.bind_eq_some_iff.mp h
def errF (s : OvS) : Int := if s.deep = true then 3 else if 200 < s.n then 2 else if s.kind = true then 7 else if s.name = true then 6 else if s.loose = true then 8 else 0
def checkF (k : Nat) (l : List S56) (e : S28) : Option Int := (overF k l ⟨0, false, false, false, false⟩ e 1 false).bind fun s => some (errF s)
theorem checkF_le (k : Nat) (l : List S56) (e : S28) : LeO (checkF k l e) (checkF (k + 1) l e) := LeO.bind (overF_le k l _ e _ _) fun _ => LeO.refl _
/-! #### the state in memory -/
structure OvI (w0 W : World) (g : Nat) (A0 : Option Addr) (c0 : Nat) (l : List S56) (s : OvS) : Prop where
 blk : W.heap[g]? = some (.cells #[.slice A0 l.length c0, .int .i64 s.n, .bool s.deep, .bool s.kind, .bool s.name, .bool s.loose] 67 (0, 0))
 ge : w0.heap.size ≤ g
 row : Kd.C k56 w0 A0 l.length l
 cap : l.length ≤ c0
 below : Below w0.heap.size w0 W
structure OvJ (w0 w W : World) (g gb : Nat) (A0 : Option Addr) (c0 : Nat) (l : List S56) (s : OvS) (e : S28) (A3 : Option Addr) (c3 : Nat) : Prop where
 st : OvI w0 W g A0 c0 l s
 keep : KeepBut w W g none
 box : W.heap[gb]? = some (.cells #[.int .i64 e.f0, .int .i64 e.f1, .int .i64 e.f2, .slice A3 e.f3.length c3] 28 (0, 0))
 ne : g < gb
 old : w.heap.size ≤ gb
section
variable {w0 w W W1 : World} {g gb : Nat} {A0 : Option Addr} {c0 : Nat} {l : List S56} {s s' : OvS} {e : S28} {A3 : Option Addr} {c3 : Nat}
theorem OvI.lt (h : OvI w0 W g A0 c0 l s) : g < W.heap.size := (Array.getElem?_eq_some_iff.1 h.blk).1
theorem OvI.next (h : OvI w0 W g A0 c0 l s) (hb : Below W.heap.size W W1) : OvI w0 W1 g A0 c0 l s :=
 ⟨(hb.block g h.lt).trans h.blk, h.ge, h.row, h.cap, below_step h.below hb⟩
theorem OvI.put (h : OvI w0 W g A0 c0 l s) (j : Nat) (u : Value) (hs : (#[.slice A0 l.length c0, .int .i64 s.n, .bool s.deep, .bool s.kind, .bool s.name, .bool s.loose] : Array Value).setIfInBounds j u = #[.slice A0 l.length c0, .int .i64 s'.n, .bool s'.deep, .bool s'.kind, .bool s'.name, .bool s'.loose]) :
  OvI w0 (W.setCell ⟨g, j, none⟩ u) g A0 c0 l s' :=
 ⟨by rw [← hs]; exact blk_set h.blk j u, h.ge, h.row, h.cap, below_set h.below h.ge⟩
theorem OvJ.next (h : OvJ w0 w W g gb A0 c0 l s e A3 c3) (hb : Below W.heap.size W W1) : OvJ w0 w W1 g gb A0 c0 l s e A3 c3 :=
 ⟨h.st.next hb, KeepBut.trans h.keep (KeepBut.of_below hb g none) (.inl rfl), blk_below h.box hb, h.ne, h.old⟩
theorem OvJ.put (h : OvJ w0 w W g gb A0 c0 l s e A3 c3) (j : Nat) (u : Value) (hs : (#[.slice A0 l.length c0, .int .i64 s.n, .bool s.deep, .bool s.kind, .bool s.name, .bool s.loose] : Array Value).setIfInBounds j u = #[.slice A0 l.length c0, .int .i64 s'.n, .bool s'.deep, .bool s'.kind, .bool s'.name, .bool s'.loose]) :
  OvJ w0 w (W.setCell ⟨g, j, none⟩ u) g gb A0 c0 l s' e A3 c3 :=
 ⟨h.st.put j u hs, KeepBut.set_ h.keep j u, blk_far h.box (p := ⟨g, j, none⟩) (by have := h.ne; show gb ≠ g; omega) u, h.ne, h.old⟩
theorem OvJ.call (h : OvJ w0 w W g gb A0 c0 l s e A3 c3) (hI : OvI w0 W1 g A0 c0 l s') (hk : KeepBut W W1 g none) : OvJ w0 w W1 g gb A0 c0 l s' e A3 c3 :=
 ⟨hI, KeepBut.trans h.keep hk (.inl rfl), KeepBut.blk hk h.box (by have := h.ne; omega) (by simp), h.ne, h.old⟩
end
theorem row_at {w0 W : World} {A : Option Addr} {n : Nat} {xs : List S28} (hr : Kd.C k28 w0 A n xs) (hB : Below w0.heap.size w0 W) : Kd.C k28 W A n xs := Kd.F_now (Kd.F_step (Kd.C_F k28_heap hr) (fun k hk _ => hB.block k hk))
theorem syms_at {w0 W : World} {A : Option Addr} {n : Nat} {xs : List S56} (hr : Kd.C k56 w0 A n xs) (hB : Below w0.heap.size w0 W) : Kd.C k56 W A n xs := Kd.F_now (Kd.F_step (Kd.C_F k56_heap hr) (fun k hk _ => hB.block k hk))
theorem child_at {w0 W : World} {A : Option Addr} {xs : List S28} (hr : Kd.C k28 w0 A xs.length xs) (hB : Below w0.heap.size w0 W) {j : Nat} (hj : j < xs.length) : ∃ ad A' c', A = some ad ∧ W.cell? (ad.add (j * 4)) = some (.int .i64 (xs.getD j z28).f0) ∧ W.cell? ⟨(ad.add (j * 4)).block, (ad.add (j * 4)).off + 1, none⟩ = some (.int .i64 (xs.getD j z28).f1) ∧
  W.cell? ⟨(ad.add (j * 4)).block, (ad.add (j * 4)).off + 2, none⟩ = some (.int .i64 (xs.getD j z28).f2) ∧ W.cell? ⟨(ad.add (j * 4)).block, (ad.add (j * 4)).off + 3, none⟩ = some (.slice A' (xs.getD j z28).f3.length c') ∧ (xs.getD j z28).f3.length ≤ c' ∧ Kd.C k28 w0 A' (xs.getD j z28).f3.length (xs.getD j z28).f3 := by
 obtain ⟨ad, A', c', eA, x0, x1, x2, x3, hl, hC⟩ := at_T28 hr (j : Int) (Int.natCast_nonneg _) (Int.ofNat_lt.2 hj)
 have e : rd_T28 xs (j : Int) = xs.getD j z28 := rfl
 rw [e] at x0 x1 x2 x3 hl hC
 rw [Int.toNat_natCast] at x0 x1 x2 x3
 have up : ∀ {p : Addr} {v : Value}, w0.cell? p = some v → W.cell? p = some v := fun {p v} h => (hB.cell (World.block_lt_of_cell? w0 _ h)).trans h
 exact ⟨ad, A', c', eA, up x0, up x1, up x2, up x3, hl, hC⟩
def OvC (k : Nat) : Prop := ∀ (g : Nat) (A0 : Option Addr) (c0 : Nat) (l : List S56) (s r : OvS) (e : S28) (A3 : Option Addr) (c3 : Nat) (deep : Int) (nest : Bool) (w0 w : World),
 OvI w0 w g A0 c0 l s → Kd.C k28 w0 A3 e.f3.length e.f3 → e.f3.length ≤ c3 → overF k l s e deep nest = some r →
 Calls Try.prog 36 #[.pointer (some ⟨g, 0, none⟩), .agg #[.int .i64 e.f0, .int .i64 e.f1, .int .i64 e.f2, .slice A3 e.f3.length c3], .int .i64 deep, .bool nest] w fun x w' => x = .returned (.tuple #[]) ∧ OvI w0 w' g A0 c0 l r ∧ KeepBut w w' g none
end Go.Proofs.Ytodbnnfiadcbaaa.P
namespace Go.Proofs.Ytodbnnfiadcbaaa.P
open Go.RowKit Go.Proofs.YtodbnnfiadcbaaaW.PrintWords Go.Proofs.YtodbnnfiadcbaaaW.PrintLast Go.Proofs.YtodbnnfiadcbaaaW.PrintMore
attribute [local go_sem] max2_int min2_int max_two min_two max_three min_three max_four min_four
set_option linter.unusedVariables false
set_option linter.unusedSimpArgs false
theorem of_same (A0 : Option Addr) (c0 : Nat) (l : List S56) (a : Int) (w : World) (hr : Kd.C k56 w A0 l.length l) (hc : l.length ≤ c0) :
  Calls Try.prog 55 #[.slice A0 l.length c0, .int .i64 a] w fun e w' => e = .returned (.int .i64 (ofF l a)) ∧ w' = w := by
 unfold ofF
 by_cases h0 : a < 0
 ·rw [if_pos h0]
  have b0 : decide (a < 0) = true := decide_eq_true h0
  clear h0
  go_enter Try.func55, Try.ntmps55
  go_wp2
  go_ret
  exact ⟨rfl, rfl⟩
 ·rw [if_neg h0]
  have b0 : decide (a < 0) = false := decide_eq_false h0
  by_cases h1 : a ≥ (l.length : Int)
  ·rw [if_pos h1]
   have b1 : decide ((l.length : Int) ≤ a) = true := decide_eq_true h1
   clear h0 h1
   go_enter Try.func55, Try.ntmps55
   go_wp2
   go_ret
   exact ⟨rfl, rfl⟩
  ·rw [if_neg h1]
   have b1 : decide ((l.length : Int) ≤ a) = false := decide_eq_false h1
   have p0 : 0 ≤ a := by omega
   have p1 : a < (l.length : Int) := by omega
   obtain ⟨ad, e, hx0, hx1⟩ := at_T56 hr a p0 p1
   cases e
   replace p0 := eq_true p0
   replace p1 := eq_true p1
   clear h0 h1
   go_enter Try.func55, Try.ntmps55
   go_wp2
   go_ret
   exact ⟨rfl, rfl⟩
set_option maxHeartbeats 8000000 in
set_option maxRecDepth 100000 in
theorem over_step {k : Nat} (ih : OvC k) : OvC (k + 1) := by
 intro g A0 c0 l s r e A3 c3 deep nest w0 w hI hr hc h
 obtain ⟨d1, hd1⟩ : ∃ d1, d1 = (s.deep || decide (20 < deep)) := ⟨_, rfl⟩
 obtain ⟨n1, hn⟩ : ∃ n1, n1 = wrap64 (s.n + 1) := ⟨_, rfl⟩
 unfold overF at h
 rw [← hd1, ← hn] at h
 have H := Aside0.mk h
 have HR := Aside0.mk hr
 have hd1' := Aside0.mk hd1
 have hlen : e.f3.length ≤ 9223372036854775807 := Kd.C_max hr
 clear h hr hd1
 obtain ⟨q0, q1, q2, q3, q4, q5, -, f1, f2, f3, f4, f5⟩ := YtodbnnfiadcbaaaH.cells6 hI.blk
 have hgl := Aside0.mk hI.lt
 have hN := Aside0.mk hn
 clear hn
 go_enter Try.func36, Try.ntmps36
 go_upto_if 21 with ((with_reducible refine gate_dst (N := 5) rfl ?_); refine box_event ?hg (N := 5) ?hd (cs := #[.int .i64 e.f0, .int .i64 e.f1, .int .i64 e.f2, .slice A3 e.f3.length c3]) (t := 28) ?hr ?_; (case hd => rfl); (case hg => rfl); (case hr => first | (go_simp; done) | (go_simp; rfl)); intro gb hgb W hbox hb; have HJ : OvJ w0 w W g gb A0 c0 l s e A3 c3 := ⟨hI.next hb, KeepBut.of_below hb g none, hbox, by rw [hgb]; exact hgl.out, by rw [hgb]; exact Nat.le_refl _⟩; clear hbox hb hgb q0 q1 q2 q3 q4 q5 f1 f2 f3 f4 f5; obtain ⟨q0, q1, q2, q3, q4, q5, -, f1, f2, f3, f4, f5⟩ := YtodbnnfiadcbaaaH.cells6 HJ.st.blk; obtain ⟨e0, e1, e2, e3, -, -, -, -⟩ := YtodbnnfiadcbaaaH.cells4 HJ.box; have hgb := HJ.ne; have hn1 : ¬ g = gb := Nat.ne_of_lt HJ.ne; have hn2 : ¬ gb = g := Nat.ne_of_gt HJ.ne; have hg1 := HJ.st.lt; have hg2 := blk_lt HJ.box)
 have HK := HJ.put (s' := ⟨n1, s.deep, s.kind, s.name, s.loose⟩) 1 (.int .i64 n1) rfl
 rw [hN.out] at HK
 clear q0 q1 q2 q3 q4 q5 f1 f2 f3 f4 f5 e0 e1 e2 e3 hgb hn1 hn2 hg1 hg2
 clear HJ
 generalize World.setCell _ _ _ = W1 at HK ⊢
 rw [← hN.out] at HK ⊢
 go_cut [] (fun wc => OvJ w0 w wc g gb A0 c0 l ⟨n1, d1, s.kind, s.name, s.loose⟩ e A3 c3)
 case first =>
  by_cases hd : 20 < deep
  ·have b1 : decide (20 < deep) = true := decide_eq_true hd
   have hd2 := hd1'.out
   rw [b1, Bool.or_true] at hd2
   subst hd2
   obtain ⟨q0, q1, q2, q3, q4, q5, -, f1, f2, f3, f4, f5⟩ := YtodbnnfiadcbaaaH.cells6 HK.st.blk; obtain ⟨e0, e1, e2, e3, -, -, -, -⟩ := YtodbnnfiadcbaaaH.cells4 HK.box; have hgb := HK.ne; have hn1 : ¬ g = gb := Nat.ne_of_lt HK.ne; have hn2 : ¬ gb = g := Nat.ne_of_gt HK.ne; have hg1 := HK.st.lt; have hg2 := blk_lt HK.box
   go_wp2
   go_meet
   case rel => exact HK.put 2 (.bool true) rfl
  ·have b1 : decide (20 < deep) = false := decide_eq_false hd
   have hd2 := hd1'.out
   rw [b1, Bool.or_false] at hd2
   subst hd2
   go_wp2
   go_meet
   case rel => exact HK
 case rest =>
  clear HK
  have HK := hcut
  clear hcut
  go_upto_region 4 with (fail)
  go_cut [35] (fun v wc => v = .bool (d1 || decide (200 < n1)) ∧ OvJ w0 w wc g gb A0 c0 l ⟨n1, d1, s.kind, s.name, s.loose⟩ e A3 c3)
  case first =>
   obtain ⟨q0, q1, q2, q3, q4, q5, -, f1, f2, f3, f4, f5⟩ := YtodbnnfiadcbaaaH.cells6 HK.st.blk; obtain ⟨e0, e1, e2, e3, -, -, -, -⟩ := YtodbnnfiadcbaaaH.cells4 HK.box; have hgb := HK.ne; have hn1 : ¬ g = gb := Nat.ne_of_lt HK.ne; have hn2 : ¬ gb = g := Nat.ne_of_gt HK.ne; have hg1 := HK.st.lt; have hg2 := blk_lt HK.box
   cases d1 with
   | true =>
    go_wp2
    go_meet
    case rel => exact ⟨rfl, HK⟩
   | false =>
    go_wp2
    go_meet
    case rel => exact ⟨rfl, HK⟩
  case rest =>
   clear HK
   obtain ⟨rfl, HK⟩ := hcut
   clear hd1' hN
   have H0 := H.out
   clear H
   generalize hb : (d1 || decide (200 < n1)) = b at H0 ⊢
   cases b with
   | true =>
    rw [if_pos rfl] at H0
    have H1 := Aside0.mk H0
    clear H0 hb
    obtain ⟨q0, q1, q2, q3, q4, q5, -, f1, f2, f3, f4, f5⟩ := YtodbnnfiadcbaaaH.cells6 HK.st.blk; obtain ⟨e0, e1, e2, e3, -, -, -, -⟩ := YtodbnnfiadcbaaaH.cells4 HK.box; have hgb := HK.ne; have hn1 : ¬ g = gb := Nat.ne_of_lt HK.ne; have hn2 : ¬ gb = g := Nat.ne_of_gt HK.ne; have hg1 := HK.st.lt; have hg2 := blk_lt HK.box
    go_wp2
    go_loopg [39] e.f3.length (fun kq s39 wr => ∃ (j : Nat) (st : OvS), s39 = .int .i64 (j : Int) ∧ Aside0 (kq + j = e.f3.length) ∧ Aside0 (OvJ w0 w wr g gb A0 c0 l st e A3 c3) ∧ Aside0 (ovA (fun x s => overF k l s x (wrap64 (deep + 1)) nest) (e.f3.drop j) st = some r))
    case atStart => exact ⟨0, _, rfl, ⟨rfl⟩, ⟨HK⟩, H1⟩
    case round =>
     clear HK H1
     clear q0 q1 q2 q3 q4 q5 f1 f2 f3 f4 f5 e0 e1 e2 e3 hgb hn1 hn2 hg1 hg2
     obtain ⟨j, st, rfl, hq, HJ, Hn⟩ := hrel
     replace HJ := HJ.out
     obtain ⟨q0, q1, q2, q3, q4, q5, -, f1, f2, f3, f4, f5⟩ := YtodbnnfiadcbaaaH.cells6 HJ.st.blk; obtain ⟨e0, e1, e2, e3, -, -, -, -⟩ := YtodbnnfiadcbaaaH.cells4 HJ.box; have hgb := HJ.ne; have hn1 : ¬ g = gb := Nat.ne_of_lt HJ.ne; have hn2 : ¬ gb = g := Nat.ne_of_gt HJ.ne; have hg1 := HJ.st.lt; have hg2 := blk_lt HJ.box
     by_cases hj : j < e.f3.length
     ·obtain ⟨k1, rfl, hq3⟩ := pred_ex hq.out hj
      have j0 := tr_ge j
      have j1 := tr_lt hj
      have j2 := tr_dlt hj
      obtain ⟨ad, A', c', eA, x0, x1, x2, x3, hl, hC⟩ := child_at HR.out HJ.st.below hj
      subst eA
      rcases ovA_step hj Hn.out with ⟨hd, Hr⟩ | ⟨hd, s', hf, Hr⟩
      ·rw [hd] at q2
       generalize e.f3.getD j z28 = x at x0 x1 x2 x3 hl hC
       have Hr' := Aside0.mk Hr
       clear Hr Hn hC hd
       go_wp2
       go_roundg k1
       case measure => exact Nat.lt_succ_self _
       case rel => exact ⟨j + 1, _, (by first | rfl | go_num), hq3, ⟨HJ.next (below_alloc (Below.refl _ _) _)⟩, Hr'⟩
      ·rw [hd] at q2
       generalize e.f3.getD j z28 = x at x0 x1 x2 x3 hl hC hf
       have Hr' := Aside0.mk Hr
       have hC' := Aside0.mk hC
       have hf' := Aside0.mk hf
       clear Hr Hn hC hd hf
       go_wp2_with (fail)
       refine (ih g A0 c0 l st s' x A' c' (wrap64 (deep + 1)) nest w0 _ (HJ.st.next (below_alloc (Below.refl _ _) _)) hC'.out hl hf'.out).mono ?_
       rintro _ W9 ⟨rfl, hI9, hk9⟩
       have HJ9 := (HJ.next (below_alloc (Below.refl _ _) _)).call hI9 hk9
       clear hI9 hk9 x0 x1 x2 x3
       clear q0 q1 q2 q3 q4 q5 f1 f2 f3 f4 f5 e0 e1 e2 e3 hgb hn1 hn2 hg1 hg2
       clear HJ
       have HJ := HJ9
       clear HJ9
       obtain ⟨q0, q1, q2, q3, q4, q5, -, f1, f2, f3, f4, f5⟩ := YtodbnnfiadcbaaaH.cells6 HJ.st.blk; obtain ⟨e0, e1, e2, e3, -, -, -, -⟩ := YtodbnnfiadcbaaaH.cells4 HJ.box; have hgb := HJ.ne; have hn1 : ¬ g = gb := Nat.ne_of_lt HJ.ne; have hn2 : ¬ gb = g := Nat.ne_of_gt HJ.ne; have hg1 := HJ.st.lt; have hg2 := blk_lt HJ.box
       dsimp only
       go_wp2
       go_roundg k1
       case measure => exact Nat.lt_succ_self _
       case rel => exact ⟨j + 1, _, (by first | rfl | go_num), hq3, ⟨HJ⟩, Hr'⟩
     ·have j1 := fl_lt hj
      have j2 := fl_dlt hj
      have Hr := Hn.out
      rw [List.drop_eq_nil_of_le (Nat.le_of_not_lt hj)] at Hr
      obtain rfl : st = r := Option.some.inj Hr
      clear Hr
      go_wp2
      first | go_end0 | ((try simp only [Exit.inBlock, Exit.then]); refine bodyPost_ret (results_none rfl _ _ _) rfl ?_)
      exact ⟨rfl, HJ.st, HJ.keep⟩
   | false =>
    rw [if_neg (by decide)] at H0
    have H1 := Aside0.mk H0
    clear H0
    obtain ⟨hd9, hb⟩ := Bool.or_eq_false_iff.mp hb
    subst hd9
    clear hb
    obtain ⟨q0, q1, q2, q3, q4, q5, -, f1, f2, f3, f4, f5⟩ := YtodbnnfiadcbaaaH.cells6 HK.st.blk; obtain ⟨e0, e1, e2, e3, -, -, -, -⟩ := YtodbnnfiadcbaaaH.cells4 HK.box; have hgb := HK.ne; have hn1 : ¬ g = gb := Nat.ne_of_lt HK.ne; have hn2 : ¬ gb = g := Nat.ne_of_gt HK.ne; have hg1 := HK.st.lt; have hg2 := blk_lt HK.box
    go_wp2_with (fail)
    refine (expr_shape.calls 3 e.f0 e.f1 e.f2 A3 c3 e.f3 (shF e) _ (row_at HR.out HK.st.below) hc (shape_shF e)).mono ?_
    rintro _ W2 ⟨rfl, hb2⟩
    have HK2 := HK.next hb2
    clear hb2
    clear q0 q1 q2 q3 q4 q5 f1 f2 f3 f4 f5 e0 e1 e2 e3 hgb hn1 hn2 hg1 hg2
    clear HK
    have HK := HK2
    clear HK2
    obtain ⟨q0, q1, q2, q3, q4, q5, -, f1, f2, f3, f4, f5⟩ := YtodbnnfiadcbaaaH.cells6 HK.st.blk; obtain ⟨e0, e1, e2, e3, -, -, -, -⟩ := YtodbnnfiadcbaaaH.cells4 HK.box; have hgb := HK.ne; have hn1 : ¬ g = gb := Nat.ne_of_lt HK.ne; have hn2 : ¬ gb = g := Nat.ne_of_gt HK.ne; have hg1 := HK.st.lt; have hg2 := blk_lt HK.box
    dsimp only
    go_upto_if 57 with (fail)
    go_cut [] (fun wc => OvJ w0 w wc g gb A0 c0 l ⟨n1, false, s.kind || !shF e, s.name, s.loose⟩ e A3 c3)
    case first =>
     clear H1
     cases hs : shF e with
     | true =>
      go_wp2
      go_meet
      case rel => rw [hs]; simpa using HK
     | false =>
      go_wp2
      go_meet
      case rel => exact HK.put 3 (.bool true) (by rw [hs]; simp)
    case rest =>
     clear HK
     clear q0 q1 q2 q3 q4 q5 f1 f2 f3 f4 f5 e0 e1 e2 e3 hgb hn1 hn2 hg1 hg2
     have HK := hcut
     clear hcut
     generalize (s.kind || !shF e) = kd at HK H1
     obtain ⟨q0, q1, q2, q3, q4, q5, -, f1, f2, f3, f4, f5⟩ := YtodbnnfiadcbaaaH.cells6 HK.st.blk; obtain ⟨e0, e1, e2, e3, -, -, -, -⟩ := YtodbnnfiadcbaaaH.cells4 HK.box; have hgb := HK.ne; have hn1 : ¬ g = gb := Nat.ne_of_lt HK.ne; have hn2 : ¬ gb = g := Nat.ne_of_gt HK.ne; have hg1 := HK.st.lt; have hg2 := blk_lt HK.box
     go_upto_block 2 with (fail)
     go_cut [] (fun wc => OvJ w0 w wc g gb A0 c0 l ⟨n1, false, kd, ovNm l e s.name, ovLs l e nest s.loose⟩ e A3 c3)
     case first =>
      clear H1
      by_cases k3 : e.f0 = 3
      ·have b3 : (e.f0 == 3) = true := beq_iff_eq.mpr k3
       have hnm : ovNm l e s.name = (s.name || ofF l e.f1 == 0) := by unfold ovNm; rw [if_pos k3]
       have hls : ovLs l e nest s.loose = (s.loose || (nest && (ofF l e.f1 == 1 || ofF l e.f1 == 2))) := by unfold ovLs; rw [if_pos k3]
       have hnm' := Aside0.mk hnm
       have hls' := Aside0.mk hls
       clear hnm hls k3
       go_wp2
       go_quiet ((go_at_call 55; exact Calls.quiet_of_same (of_same A0 c0 l e.f1 _ (syms_at HK.st.row (pw_below_drewN HK.st.below _)) HK.st.cap)))
       cases hsm : s.name
       all_goals
        cases hsl : s.loose
        all_goals
         cases nest
         all_goals
          cases h1 : (ofF l e.f1 == 1)
          all_goals
           rw [hsm] at q4
           rw [hsl] at q5
           go_wp2
           go_meet
           case rel => exact ((HK.next (pw_below_drewN (Below.refl _ _) _)).put (s' := ⟨n1, false, kd, s.name || ofF l e.f1 == 0, s.loose⟩) 4 (.bool _) (by simp [hsm])).put 5 (.bool _) (by rw [hnm'.out, hls'.out]; simp [hsl, h1])
      have b3 : (e.f0 == 3) = false := beq_eq_false_iff_ne.mpr k3
      by_cases k4 : e.f0 = 4
      ·have b4 : (e.f0 == 4) = true := beq_iff_eq.mpr k4
       have hnm : ovNm l e s.name = (s.name || (ofF l e.f1 != 1 || ofF l e.f2 != 2)) := by unfold ovNm; rw [if_neg k3, if_pos k4]
       have hls : ovLs l e nest s.loose = s.loose := by unfold ovLs; rw [if_neg k3]
       have hnm' := Aside0.mk hnm
       have hls' := Aside0.mk hls
       clear hnm hls k3 k4
       have hrow := syms_at HK.st.row (below_drew HK.st.below)
       have o1 := Aside0.mk (of_same A0 c0 l e.f1 _ hrow HK.st.cap)
       have o2 := Aside0.mk (of_same A0 c0 l e.f2 _ hrow HK.st.cap)
       clear hrow
       go_wp2
       cases hsm : s.name with
       | true =>
        rw [hsm] at q4
        refine wp_region_still_tail 25 (by kernel_rfl) (by kernel_rfl) ?_
        simp only [List.take_succ_cons, List.take_zero, List.drop_succ_cons, List.drop_zero]
        iterate 25 ((with_reducible refine wpStill_step ?_); intro K hK; have hK9 := Aside0.mk hK; clear hK; go_simp; (with_reducible refine hK9.out _ ?_); clear hK9 K)
        refine wpStill_nil ?_
        change wpList _ _ _ _ _ (World.drew _)
        have HD := HK.next (below_drew (Below.refl _ _))
        generalize World.drew _ = W5 at HD ⊢
        clear q0 q1 q2 q3 q4 q5 f1 f2 f3 f4 f5 e0 e1 e2 e3 hgb hn1 hn2 hg1 hg2
        clear HK o1 o2
        obtain ⟨q0, q1, q2, q3, q4, q5, -, f1, f2, f3, f4, f5⟩ := YtodbnnfiadcbaaaH.cells6 HD.st.blk; obtain ⟨e0, e1, e2, e3, -, -, -, -⟩ := YtodbnnfiadcbaaaH.cells4 HD.box; have hgb := HD.ne; have hn1 : ¬ g = gb := Nat.ne_of_lt HD.ne; have hn2 : ¬ gb = g := Nat.ne_of_gt HD.ne; have hg1 := HD.st.lt; have hg2 := blk_lt HD.box
        rw [hsm] at q4
        go_wp2
        go_meet
        case rel => exact HD.put (s' := ⟨n1, false, kd, ovNm l e s.name, ovLs l e nest s.loose⟩) 4 (.bool true) (by rw [hnm'.out, hls'.out]; simp [hsm])
       | false =>
        rw [hsm] at q4
        cases h1 : (ofF l e.f1 != 1) with
        | true =>
         refine wp_region_still_tail 25 (by kernel_rfl) (by kernel_rfl) ?_
         simp only [List.take_succ_cons, List.take_zero, List.drop_succ_cons, List.drop_zero]
         iterate 12 ((with_reducible refine wpStill_step ?_); intro K hK; have hK9 := Aside0.mk hK; clear hK; go_simp; (with_reducible refine hK9.out _ ?_); clear hK9 K)
         (with_reducible refine wpStill_step ?_); intro K hK; have hK9 := Aside0.mk hK; clear hK; go_simp; refine ⟨_, o1.out, ?_⟩; (with_reducible refine hK9.out _ ?_); clear hK9 K
         iterate 12 ((with_reducible refine wpStill_step ?_); intro K hK; have hK9 := Aside0.mk hK; clear hK; go_simp; (with_reducible refine hK9.out _ ?_); clear hK9 K)
         refine wpStill_nil ?_
         change wpList _ _ _ _ _ (World.drew _)
         have HD := HK.next (below_drew (Below.refl _ _))
         generalize World.drew _ = W5 at HD ⊢
         clear q0 q1 q2 q3 q4 q5 f1 f2 f3 f4 f5 e0 e1 e2 e3 hgb hn1 hn2 hg1 hg2
         clear HK o1 o2
         obtain ⟨q0, q1, q2, q3, q4, q5, -, f1, f2, f3, f4, f5⟩ := YtodbnnfiadcbaaaH.cells6 HD.st.blk; obtain ⟨e0, e1, e2, e3, -, -, -, -⟩ := YtodbnnfiadcbaaaH.cells4 HD.box; have hgb := HD.ne; have hn1 : ¬ g = gb := Nat.ne_of_lt HD.ne; have hn2 : ¬ gb = g := Nat.ne_of_gt HD.ne; have hg1 := HD.st.lt; have hg2 := blk_lt HD.box
         rw [hsm] at q4
         go_wp2
         go_meet
         case rel => exact HD.put (s' := ⟨n1, false, kd, ovNm l e s.name, ovLs l e nest s.loose⟩) 4 (.bool true) (by rw [hnm'.out, hls'.out]; simp [hsm, h1])
        | false =>
         refine wp_region_still_tail 25 (by kernel_rfl) (by kernel_rfl) ?_
         simp only [List.take_succ_cons, List.take_zero, List.drop_succ_cons, List.drop_zero]
         iterate 12 ((with_reducible refine wpStill_step ?_); intro K hK; have hK9 := Aside0.mk hK; clear hK; go_simp; (with_reducible refine hK9.out _ ?_); clear hK9 K)
         (with_reducible refine wpStill_step ?_); intro K hK; have hK9 := Aside0.mk hK; clear hK; go_simp; refine ⟨_, o1.out, ?_⟩; (with_reducible refine hK9.out _ ?_); clear hK9 K
         iterate 9 ((with_reducible refine wpStill_step ?_); intro K hK; have hK9 := Aside0.mk hK; clear hK; go_simp; (with_reducible refine hK9.out _ ?_); clear hK9 K)
         (with_reducible refine wpStill_step ?_); intro K hK; have hK9 := Aside0.mk hK; clear hK; go_simp; refine ⟨_, o2.out, ?_⟩; (with_reducible refine hK9.out _ ?_); clear hK9 K
         iterate 2 ((with_reducible refine wpStill_step ?_); intro K hK; have hK9 := Aside0.mk hK; clear hK; go_simp; (with_reducible refine hK9.out _ ?_); clear hK9 K)
         refine wpStill_nil ?_
         change wpList _ _ _ _ _ (World.drew _)
         have HD := HK.next (below_drew (Below.refl _ _))
         generalize World.drew _ = W5 at HD ⊢
         clear q0 q1 q2 q3 q4 q5 f1 f2 f3 f4 f5 e0 e1 e2 e3 hgb hn1 hn2 hg1 hg2
         clear HK o1 o2
         obtain ⟨q0, q1, q2, q3, q4, q5, -, f1, f2, f3, f4, f5⟩ := YtodbnnfiadcbaaaH.cells6 HD.st.blk; obtain ⟨e0, e1, e2, e3, -, -, -, -⟩ := YtodbnnfiadcbaaaH.cells4 HD.box; have hgb := HD.ne; have hn1 : ¬ g = gb := Nat.ne_of_lt HD.ne; have hn2 : ¬ gb = g := Nat.ne_of_gt HD.ne; have hg1 := HD.st.lt; have hg2 := blk_lt HD.box
         rw [hsm] at q4
         go_wp2
         go_meet
         case rel => exact HD.put (s' := ⟨n1, false, kd, ovNm l e s.name, ovLs l e nest s.loose⟩) 4 (.bool (ofF l e.f2 != 2)) (by rw [hnm'.out, hls'.out]; simp [hsm, h1])
      ·have b4 : (e.f0 == 4) = false := beq_eq_false_iff_ne.mpr k4
       have hnm : ovNm l e s.name = s.name := by unfold ovNm; rw [if_neg k3, if_neg k4]
       have hls : ovLs l e nest s.loose = s.loose := by unfold ovLs; rw [if_neg k3]
       have hnm' := Aside0.mk hnm
       have hls' := Aside0.mk hls
       clear hnm hls
       go_wp2
       go_meet
       case rel => rw [hnm'.out, hls'.out]; exact HK
     case rest =>
      clear HK
      clear q0 q1 q2 q3 q4 q5 f1 f2 f3 f4 f5 e0 e1 e2 e3 hgb hn1 hn2 hg1 hg2
      have HK := hcut
      clear hcut
      generalize ovNm l e s.name = nm at HK H1
      generalize ovLs l e nest s.loose = ls at HK H1
      obtain ⟨q0, q1, q2, q3, q4, q5, -, f1, f2, f3, f4, f5⟩ := YtodbnnfiadcbaaaH.cells6 HK.st.blk; obtain ⟨e0, e1, e2, e3, -, -, -, -⟩ := YtodbnnfiadcbaaaH.cells4 HK.box; have hgb := HK.ne; have hn1 : ¬ g = gb := Nat.ne_of_lt HK.ne; have hn2 : ¬ gb = g := Nat.ne_of_gt HK.ne; have hg1 := HK.st.lt; have hg2 := blk_lt HK.box
      go_wp2
      go_loopg [133] e.f3.length (fun kq s133 wr => ∃ (j : Nat) (st : OvS), s133 = .int .i64 (j : Int) ∧ Aside0 (kq + j = e.f3.length) ∧ Aside0 (OvJ w0 w wr g gb A0 c0 l st e A3 c3) ∧ Aside0 (ovB (fun x s => overF k l s x (wrap64 (deep + 1)) (nest || e.f0 == 4)) (e.f3.drop j) st = some r))
      case atStart => exact ⟨0, _, rfl, ⟨rfl⟩, ⟨HK⟩, H1⟩
      case round =>
       clear HK H1
       clear q0 q1 q2 q3 q4 q5 f1 f2 f3 f4 f5 e0 e1 e2 e3 hgb hn1 hn2 hg1 hg2
       obtain ⟨j, st, rfl, hq, HJ, Hn⟩ := hrel
       replace HJ := HJ.out
       obtain ⟨q0, q1, q2, q3, q4, q5, -, f1, f2, f3, f4, f5⟩ := YtodbnnfiadcbaaaH.cells6 HJ.st.blk; obtain ⟨e0, e1, e2, e3, -, -, -, -⟩ := YtodbnnfiadcbaaaH.cells4 HJ.box; have hgb := HJ.ne; have hn1 : ¬ g = gb := Nat.ne_of_lt HJ.ne; have hn2 : ¬ gb = g := Nat.ne_of_gt HJ.ne; have hg1 := HJ.st.lt; have hg2 := blk_lt HJ.box
       by_cases hj : j < e.f3.length
       ·obtain ⟨k1, rfl, hq3⟩ := pred_ex hq.out hj
        have j0 := tr_ge j
        have j1 := tr_lt hj
        have j2 := tr_dlt hj
        obtain ⟨ad, A', c', eA, x0, x1, x2, x3, hl, hC⟩ := child_at HR.out HJ.st.below hj
        subst eA
        obtain ⟨s', hf, Hr⟩ := ovB_step hj Hn.out
        generalize e.f3.getD j z28 = x at x0 x1 x2 x3 hl hC hf
        have Hr' := Aside0.mk Hr
        have hC' := Aside0.mk hC
        clear Hr Hn hC
        cases nest
        all_goals
         simp only [Bool.false_or, Bool.true_or] at hf
         have hf' := Aside0.mk hf
         clear hf
         go_wp2_with (fail)
         refine (ih g A0 c0 l st s' x A' c' (wrap64 (deep + 1)) _ w0 _ (HJ.st.next (below_alloc (Below.refl _ _) _)) hC'.out hl hf'.out).mono ?_
         rintro _ W9 ⟨rfl, hI9, hk9⟩
         have HJ9 := (HJ.next (below_alloc (Below.refl _ _) _)).call hI9 hk9
         clear hI9 hk9 x0 x1 x2 x3
         clear q0 q1 q2 q3 q4 q5 f1 f2 f3 f4 f5 e0 e1 e2 e3 hgb hn1 hn2 hg1 hg2
         clear HJ
         have HJ := HJ9
         clear HJ9
         obtain ⟨q0, q1, q2, q3, q4, q5, -, f1, f2, f3, f4, f5⟩ := YtodbnnfiadcbaaaH.cells6 HJ.st.blk; obtain ⟨e0, e1, e2, e3, -, -, -, -⟩ := YtodbnnfiadcbaaaH.cells4 HJ.box; have hgb := HJ.ne; have hn1 : ¬ g = gb := Nat.ne_of_lt HJ.ne; have hn2 : ¬ gb = g := Nat.ne_of_gt HJ.ne; have hg1 := HJ.st.lt; have hg2 := blk_lt HJ.box
         dsimp only
         go_wp2
         go_roundg k1
         case measure => exact Nat.lt_succ_self _
         case rel => exact ⟨j + 1, _, (by first | rfl | go_num), hq3, ⟨HJ⟩, Hr'⟩
       ·have j1 := fl_lt hj
        have j2 := fl_dlt hj
        have Hr := Hn.out
        rw [List.drop_eq_nil_of_le (Nat.le_of_not_lt hj)] at Hr
        obtain rfl : st = r := Option.some.inj Hr
        clear Hr
        go_wp2
        first | go_end0 | ((try simp only [Exit.inBlock, Exit.then]); refine bodyPost_ret (results_none rfl _ _ _) rfl ?_)
        exact ⟨rfl, HJ.st, HJ.keep⟩
theorem over_calls : ∀ k, OvC k
 | 0 => fun g A0 c0 l s r e A3 c3 deep nest w0 w hI hr hc h => absurd h (by simp [overF])
 | k + 1 => over_step (over_calls k)
set_option maxHeartbeats 8000000 in
set_option maxRecDepth 100000 in
theorem check_calls (k : Nat) (l : List S56) (e : S28) (A0 : Option Addr) (c0 : Nat) (A3 : Option Addr) (c3 : Nat) (r : Int) (w : World) (hr0 : Kd.C k56 w A0 l.length l) (hc0 : l.length ≤ c0) (hr3 : Kd.C k28 w A3 e.f3.length e.f3) (hc3 : e.f3.length ≤ c3) (h : checkF k l e = some r) :
  Calls Try.prog 17 #[.slice A0 l.length c0, .agg #[.int .i64 e.f0, .int .i64 e.f1, .int .i64 e.f2, .slice A3 e.f3.length c3]] w fun x w' => x = .returned (.int .i64 r) ∧ Below w.heap.size w w' := by
 obtain ⟨s, hs, h⟩ := Option.bind_eq_some_iff.mp h
 obtain rfl := Option.some.inj h
 clear h
 have HS := Aside0.mk hs
 have HR0 := Aside0.mk hr0
 have HR3 := Aside0.mk hr3
 clear hs hr0 hr3
 go_enter Try.func17, Try.ntmps17
 go_upto_region 2 with (fail)
 go_wp2_with (fail)
 have s1 : (w.alloc (.cells #[.int .i64 e.f0, .int .i64 e.f1, .int .i64 e.f2, .slice A3 e.f3.length c3] 28)).heap.size = w.heap.size + 1 := Array.size_push _
 have hI : OvI w ((w.alloc (.cells #[.int .i64 e.f0, .int .i64 e.f1, .int .i64 e.f2, .slice A3 e.f3.length c3] 28)).alloc (.cells #[.slice A0 l.length c0, .int .i64 0, .bool false, .bool false, .bool false, .bool false] 67)) (w.heap.size + 1) A0 c0 l ⟨0, false, false, false, false⟩ := by
  refine ⟨?_, Nat.le_succ _, HR0.out, hc0, below_alloc (below_alloc (Below.refl _ _) _) _⟩
  have := blk_new (w.alloc (.cells #[.int .i64 e.f0, .int .i64 e.f1, .int .i64 e.f2, .slice A3 e.f3.length c3] 28)) (.cells #[.slice A0 l.length c0, .int .i64 0, .bool false, .bool false, .bool false, .bool false] 67)
  rw [s1] at this
  exact this
 clear s1
 refine (over_calls k _ A0 c0 l _ s e A3 c3 1 false w _ hI HR3.out hc3 HS.out).mono ?_
 rintro x W ⟨rfl, hI2, -⟩
 clear hI
 have hB := Aside0.mk hI2.below
 obtain ⟨q0, q1, q2, q3, q4, q5, -, -, -, -, -, -⟩ := YtodbnnfiadcbaaaH.cells6 hI2.blk
 clear hI2
 dsimp only
 cases h2 : s.deep with
 | true =>
  rw [h2] at q2
  go_wp2
  go_ret
  exact ⟨by simp [errF, h2], hB.out⟩
 | false =>
  rw [h2] at q2
  by_cases h1 : 200 < s.n
  ·have b1 : decide (200 < s.n) = true := decide_eq_true h1
   have hA := Aside0.mk h1
   clear h1
   go_wp2
   go_ret
   exact ⟨by simp [errF, h2, hA.out], hB.out⟩
  ·have b1 : decide (200 < s.n) = false := decide_eq_false h1
   have hA := Aside0.mk h1
   clear h1
   cases h3 : s.kind with
   | true =>
    rw [h3] at q3
    go_wp2
    go_ret
    exact ⟨by simp [errF, h2, hA.out, h3], hB.out⟩
   | false =>
    rw [h3] at q3
    cases h4 : s.name with
    | true =>
     rw [h4] at q4
     go_wp2
     go_ret
     exact ⟨by simp [errF, h2, hA.out, h3, h4], hB.out⟩
    | false =>
     rw [h4] at q4
     cases h5 : s.loose with
     | true =>
      rw [h5] at q5
      go_wp2
      go_ret
      exact ⟨by simp [errF, h2, hA.out, h3, h4, h5], hB.out⟩
     | false =>
      rw [h5] at q5
      go_wp2
      go_ret
      exact ⟨by simp [errF, h2, hA.out, h3, h4, h5], hB.out⟩
end Go.Proofs.Ytodbnnfiadcbaaa.P
namespace Go.Proofs.Ytodbnnfiadcbaaa.P
open Go.RowKit Go.Proofs.YtodbnnfiadcbaaaW.PrintWords Go.Proofs.YtodbnnfiadcbaaaW.PrintLast Go.Proofs.YtodbnnfiadcbaaaW.PrintMore
attribute [local go_sem] max2_int min2_int max_two min_two max_three min_three max_four min_four   -- for this text's walks alone
set_option linter.unusedVariables false
set_option linter.unusedSimpArgs false

/-! ### expr_Check: function 17 -/
-- IMPORTS: Derived.Test.YtodbnnfiadcbaaaExprOver3
def expr_Check.f (k : Nat) (l0 : List (S56)) (a1_0 : Int) (a1_1 : Int) (a1_2 : Int) (l1_3 : List (S28)) : Option (Int) := checkF k l0 ⟨a1_0, a1_1, a1_2, l1_3⟩
theorem expr_Check.mono : ∀ a0 a1 a2 a3 a4 k, LeO (expr_Check.f k a0 a1 a2 a3 a4) (expr_Check.f (k + 1) a0 a1 a2 a3 a4) := fun _ _ _ _ _ k => checkF_le k _ _
theorem expr_Check.calls (k : Nat) (A0 : Option Addr) (c0 : Nat) (l0 : List (S56)) (a1_0 : Int) (a1_1 : Int) (a1_2 : Int) (A1_3 : Option Addr) (c1_3 : Nat) (l1_3 : List (S28)) (r : Int) (w : World) (hr0 : Kd.C k56 w A0 l0.length l0) (hc0 : l0.length ≤ c0) (hr1_3 : Kd.C k28 w A1_3 l1_3.length l1_3) (hc1_3 : l1_3.length ≤ c1_3) (h : expr_Check.f k l0 a1_0 a1_1 a1_2 l1_3 = some r) :
  Calls Try.prog 17 #[.slice A0 l0.length c0, .agg #[.int .i64 a1_0, .int .i64 a1_1, .int .i64 a1_2, .slice A1_3 l1_3.length c1_3]] w fun e w' => e = .returned (.int .i64 r) ∧ Below w.heap.size w w' :=
 check_calls k l0 ⟨a1_0, a1_1, a1_2, l1_3⟩ A0 c0 A1_3 c1_3 r w hr0 hc0 hr1_3 hc1_3 h

end Go.Proofs.Ytodbnnfiadcbaaa.P
namespace Go.Proofs.Ytodbnnfiadcbaaa.P
open Go.RowKit Go.Proofs.YtodbnnfiadcbaaaW.PrintWords Go.Proofs.YtodbnnfiadcbaaaW.PrintLast Go.Proofs.YtodbnnfiadcbaaaW.PrintMore Go.Proofs.YtodbnnfiadcbaaaH
attribute [local go_sem] max2_int min2_int max_two min_two max_three min_three max_four min_four   -- for this text's walks alone
set_option linter.unusedVariables false
set_option linter.unusedSimpArgs false

/-! ### expr_text: function 37 -/
def expr_text.j0 : Nat → List (S56) → Int → Bool → Option (ByteArray)
 | 0, _, _, _ => none
 | k + 1, x0, x1, x12 => if x12 = true then (some (⟨#[]⟩ : ByteArray)) else (if 0 ≤ x1 then (if x1 < (x0.length : Int) then (if ((rd_T56 x0 x1).f1) = 1 then (if 1 + ((rd_T56 x0 x1).f0).size ≤ 9223372036854775807 then (if ((⟨#[60]⟩ : ByteArray) ++ ((rd_T56 x0 x1).f0)).size + 1 ≤ 9223372036854775807 then (some (((⟨#[60]⟩ : ByteArray) ++ ((rd_T56 x0 x1).f0)) ++ (⟨#[62]⟩ : ByteArray))) else (none)) else (none)) else (if ((rd_T56 x0 x1).f1) = 2 then (if 2 + ((rd_T56 x0 x1).f0).size ≤ 9223372036854775807 then (if ((⟨#[60, 47]⟩ : ByteArray) ++ ((rd_T56 x0 x1).f0)).size + 1 ≤ 9223372036854775807 then (some (((⟨#[60, 47]⟩ : ByteArray) ++ ((rd_T56 x0 x1).f0)) ++ (⟨#[62]⟩ : ByteArray))) else (none)) else (none)) else (some ((rd_T56 x0 x1).f0)))) else (none)) else (none))
def expr_text.f (k : Nat) (l0 : List (S56)) (a1 : Int) : Option (ByteArray) := if a1 < 0 then (expr_text.j0 k l0 a1 true) else (expr_text.j0 k l0 a1 (decide (a1 ≥ (l0.length : Int))))
theorem expr_text.mono_l : ∀ k, (∀ y0 y1 y2, LeO (expr_text.j0 k y0 y1 y2) (expr_text.j0 (k + 1) y0 y1 y2))
 | 0 => fun _ _ _ r h => by simp [expr_text.j0] at h
 | k + 1 => by
  ·intro y0 y1 y2
   unfold expr_text.j0
   repeat' first
   | (with_reducible exact LeO.refl _)
theorem expr_text.mono : ∀ a0 a1 k, LeO (expr_text.f k a0 a1) (expr_text.f (k + 1) a0 a1) := by
 intro a0 a1 k
 have ih0 := expr_text.mono_l k
 unfold expr_text.f
 repeat' first
   | (with_reducible exact ih0 _ _ _)
   | (with_reducible refine LeO.ite ?_ ?_)
set_option maxHeartbeats 8000000 in
set_option maxRecDepth 100000 in
theorem expr_text.calls (k : Nat) (A0 : Option Addr) (c0 : Nat) (l0 : List (S56)) (a1 : Int) (r : ByteArray) (w : World) (hr0 : Kd.C k56 w A0 l0.length l0) (hc0 : l0.length ≤ c0) (h : expr_text.f k l0 a1 = some r) :
  Calls Try.prog 37 #[.slice A0 l0.length c0, .int .i64 a1] w fun e w' => e = .returned (.string r) ∧ Drawn0 w w' := by
 have HR0 := M0 hr0
 clear hr0 hc0
 have H : (if a1 < 0 then (expr_text.j0 k l0 a1 true) else (expr_text.j0 k l0 a1 (decide (a1 ≥ (l0.length : Int))))) = some r := h
 clear h
 have HC3 := M0 H
 clear H
 go_enter Try.func37, Try.ntmps37
 go_upto_region 1 with (fail)
 go_cut [12] (fun v12 wc => ∃ (kq : Nat) (x12_2 : Bool), v12 = .bool x12_2 ∧ Aside0 (expr_text.j0 kq l0 a1 x12_2 = some r) ∧ Aside0 (kq ≤ k) ∧ Drawn0 w wc)
 case first =>
  have H := HC3.out
  clear HC3
  by_cases c4 : a1 < 0
  ·rw [if_pos c4] at H
   have c4b0 := decide_eq_true c4
   clear c4
   (skip)
   have H' := M0 H
   clear H
   go_wp2
   go_meet
   case rel => exact ⟨_, (true), (by rfl), H', ⟨by omega⟩, by repeat (exact Drawn0.refl _)⟩
  ·rw [if_neg c4] at H
   have c4b0 := decide_eq_false c4
   clear c4
   (skip)
   have H' := M0 H
   clear H
   go_wp2
   go_meet
   case rel => exact ⟨_, (decide (a1 ≥ (l0.length : Int))), (by rfl), H', ⟨by omega⟩, by repeat (exact Drawn0.refl _)⟩
 case rest =>
  clear HC3
  obtain ⟨kq, x12_2, rfl, HA, HJ2, ⟨mc2, rfl⟩⟩ := hcut
  cases kq with
  | zero => exact absurd HA.out (by simp [expr_text.j0])
  | succ kj2 =>
   have H := HA.out
   clear HA
   simp only [expr_text.j0] at H
   by_cases c5 : x12_2 = true
   ·subst c5
    rw [if_pos rfl] at H
    obtain rfl := Option.some.inj H
    go_wp2
    go_ret
    exact ⟨by rfl, by repeat (first | exact Drawn0.refl _ | apply Drawn0.step)⟩
   ·replace c5 := Bool.eq_false_iff.mpr c5
    subst c5
    rw [if_neg (show ¬ (false = true) by decide)] at H
    by_cases c6 : 0 ≤ a1
    ·rw [if_pos c6] at H
     have c6b0 := decide_eq_true c6
     clear c6
     by_cases c7 : a1 < (l0.length : Int)
     ·rw [if_pos c7] at H
      have c7b0 := decide_eq_true c7
      clear c7
      by_cases c8 : ((rd_T56 l0 a1).f1) = 1
      ·rw [if_pos c8] at H
       have c8b0 := bT c8
       have c8b1 := nF c8
       clear c8
       by_cases c9 : 1 + ((rd_T56 l0 a1).f0).size ≤ 9223372036854775807
       ·rw [if_pos c9] at H
        have c9b0 := eq_true c9
        have c9b1 := decide_eq_true c9
        have c9b2 : (9223372036854775807 < 1 + ((rd_T56 l0 a1).f0).size) = False := eq_false (Nat.not_lt.2 c9)
        by_cases c10 : ((⟨#[60]⟩ : ByteArray) ++ ((rd_T56 l0 a1).f0)).size + 1 ≤ 9223372036854775807
        ·rw [if_pos c10] at H
         have c10b3 : (9223372036854775807 < 1 + ((rd_T56 l0 a1).f0).size + 1) = False := eq_false (by have z_ := c10; (simp only [ByteArray.size_append] at z_ ⊢); simp only [Nat.not_lt]; exact z_)
         obtain rfl := Option.some.inj H
         have p127 : 0 ≤ (a1 : Int) := of_decide_eq_true (by (with_reducible assumption))
         have q127 : a1 < (l0.length : Int) := of_decide_eq_true (by (with_reducible assumption))
         obtain ⟨ad127, e127, hx127_0, hx127_1⟩ := at_T56 HR0.out a1 p127 q127
         cases e127
         replace p127 := eq_true p127
         replace q127 := eq_true q127
         have p128 : 0 ≤ (a1 : Int) := of_decide_eq_true (by (with_reducible assumption))
         have q128 : a1 < (l0.length : Int) := of_decide_eq_true (by (with_reducible assumption))
         obtain ⟨ad128, e128, hx128_0, hx128_1⟩ := at_T56 HR0.out a1 p128 q128
         obtain rfl : ad127 = ad128 := (by injection e128)
         clear p128
         clear q128
         go_wp2
         go_ret
         exact ⟨by rfl, by repeat (first | exact Drawn0.refl _ | apply Drawn0.step)⟩
        ·rw [if_neg c10] at H
         exact absurd H (by simp)
       ·rw [if_neg c9] at H
        exact absurd H (by simp)
      ·rw [if_neg c8] at H
       have c8b0 := bF c8
       have c8b1 := nT c8
       by_cases c11 : ((rd_T56 l0 a1).f1) = 2
       ·rw [if_pos c11] at H
        have c11b0 := bT c11
        have c11b1 := nF c11
        clear c11
        by_cases c12 : 2 + ((rd_T56 l0 a1).f0).size ≤ 9223372036854775807
        ·rw [if_pos c12] at H
         have c12b0 := eq_true c12
         have c12b1 := decide_eq_true c12
         have c12b2 : (9223372036854775807 < 2 + ((rd_T56 l0 a1).f0).size) = False := eq_false (Nat.not_lt.2 c12)
         by_cases c13 : ((⟨#[60, 47]⟩ : ByteArray) ++ ((rd_T56 l0 a1).f0)).size + 1 ≤ 9223372036854775807
         ·rw [if_pos c13] at H
          have c13b3 : (9223372036854775807 < 2 + ((rd_T56 l0 a1).f0).size + 1) = False := eq_false (by have z_ := c13; (simp only [ByteArray.size_append] at z_ ⊢); simp only [Nat.not_lt]; exact z_)
          obtain rfl := Option.some.inj H
          have p127 : 0 ≤ (a1 : Int) := of_decide_eq_true (by (with_reducible assumption))
          have q127 : a1 < (l0.length : Int) := of_decide_eq_true (by (with_reducible assumption))
          obtain ⟨ad127, e127, hx127_0, hx127_1⟩ := at_T56 HR0.out a1 p127 q127
          cases e127
          replace p127 := eq_true p127
          replace q127 := eq_true q127
          have p129 : 0 ≤ (a1 : Int) := of_decide_eq_true (by (with_reducible assumption))
          have q129 : a1 < (l0.length : Int) := of_decide_eq_true (by (with_reducible assumption))
          obtain ⟨ad129, e129, hx129_0, hx129_1⟩ := at_T56 HR0.out a1 p129 q129
          obtain rfl : ad127 = ad129 := (by injection e129)
          clear p129
          clear q129
          go_wp2
          go_ret
          exact ⟨by rfl, by repeat (first | exact Drawn0.refl _ | apply Drawn0.step)⟩
         ·rw [if_neg c13] at H
          exact absurd H (by simp)
        ·rw [if_neg c12] at H
         exact absurd H (by simp)
       ·rw [if_neg c11] at H
        have c11b0 := bF c11
        obtain rfl := Option.some.inj H
        have p127 : 0 ≤ (a1 : Int) := of_decide_eq_true (by (with_reducible assumption))
        have q127 : a1 < (l0.length : Int) := of_decide_eq_true (by (with_reducible assumption))
        obtain ⟨ad127, e127, hx127_0, hx127_1⟩ := at_T56 HR0.out a1 p127 q127
        cases e127
        replace p127 := eq_true p127
        replace q127 := eq_true q127
        have p130 : 0 ≤ (a1 : Int) := of_decide_eq_true (by (with_reducible assumption))
        have q130 : a1 < (l0.length : Int) := of_decide_eq_true (by (with_reducible assumption))
        obtain ⟨ad130, e130, hx130_0, hx130_1⟩ := at_T56 HR0.out a1 p130 q130
        obtain rfl : ad127 = ad130 := (by injection e130)
        clear p130
        clear q130
        go_wp2
        go_ret
        exact ⟨by rfl, by repeat (first | exact Drawn0.refl _ | apply Drawn0.step)⟩
     ·rw [if_neg c7] at H
      exact absurd H (by simp)
    ·rw [if_neg c6] at H
     exact absurd H (by simp)

/-! ### expr_name: function 38 -/
def expr_name.f (l0 : List (S56)) (a1 : Int) : Option (ByteArray) := if a1 < 0 then (some (⟨#[]⟩ : ByteArray)) else (if a1 ≥ (l0.length : Int) then (some (⟨#[]⟩ : ByteArray)) else (if 0 ≤ a1 then (if a1 < (l0.length : Int) then (some ((rd_T56 l0 a1).f0)) else (none)) else (none)))
set_option maxHeartbeats 8000000 in
set_option maxRecDepth 100000 in
theorem expr_name.calls (A0 : Option Addr) (c0 : Nat) (l0 : List (S56)) (a1 : Int) (r : ByteArray) (w : World) (hr0 : Kd.C k56 w A0 l0.length l0) (hc0 : l0.length ≤ c0) (h : expr_name.f l0 a1 = some r) :
  Calls Try.prog 38 #[.slice A0 l0.length c0, .int .i64 a1] w fun e w' => e = .returned (.string r) ∧ Drawn0 w w' := by
 have HR0 := M0 hr0
 clear hr0 hc0
 have H : (if a1 < 0 then (some (⟨#[]⟩ : ByteArray)) else (if a1 ≥ (l0.length : Int) then (some (⟨#[]⟩ : ByteArray)) else (if 0 ≤ a1 then (if a1 < (l0.length : Int) then (some ((rd_T56 l0 a1).f0)) else (none)) else (none)))) = some r := h
 clear h
 by_cases c3 : a1 < 0
 ·rw [if_pos c3] at H
  have c3b0 := decide_eq_true c3
  clear c3
  obtain rfl := Option.some.inj H
  go_enter Try.func38, Try.ntmps38
  go_wp2
  go_ret
  exact ⟨by rfl, by repeat (exact Drawn0.refl _)⟩
 ·rw [if_neg c3] at H
  have c3b0 := decide_eq_false c3
  clear c3
  by_cases c4 : a1 ≥ (l0.length : Int)
  ·rw [if_pos c4] at H
   have c4b0 : decide ((l0.length : Int) ≤ a1) = true := decide_eq_true c4
   clear c4
   obtain rfl := Option.some.inj H
   go_enter Try.func38, Try.ntmps38
   go_wp2
   go_ret
   exact ⟨by rfl, by repeat (exact Drawn0.refl _)⟩
  ·rw [if_neg c4] at H
   have c4b0 : decide ((l0.length : Int) ≤ a1) = false := decide_eq_false c4
   clear c4
   by_cases c5 : 0 ≤ a1
   ·rw [if_pos c5] at H
    have c5b0 := decide_eq_true c5
    clear c5
    by_cases c6 : a1 < (l0.length : Int)
    ·rw [if_pos c6] at H
     have c6b0 := decide_eq_true c6
     clear c6
     obtain rfl := Option.some.inj H
     have p131 : 0 ≤ (a1 : Int) := of_decide_eq_true (by (with_reducible assumption))
     have q131 : a1 < (l0.length : Int) := of_decide_eq_true (by (with_reducible assumption))
     obtain ⟨ad131, e131, hx131_0, hx131_1⟩ := at_T56 HR0.out a1 p131 q131
     cases e131
     replace p131 := eq_true p131
     replace q131 := eq_true q131
     go_enter Try.func38, Try.ntmps38
     go_wp2
     go_ret
     exact ⟨by rfl, by repeat (exact Drawn0.refl _)⟩
    ·rw [if_neg c6] at H
     exact absurd H (by simp)
   ·rw [if_neg c5] at H
    exact absurd H (by simp)

-- NOT PRINTED: function 90 (abi_NoEscape)

-- NOT PRINTED: function 83 (strings_Builder_copyCheck)

-- NOT PRINTED: function 91 (bytealg_MakeNoZero)

-- NOT PRINTED: function 84 (strings_Builder_grow)

-- NOT PRINTED: function 74 (strings_Builder_Grow)

-- NOT PRINTED: function 75 (strings_Builder_WriteString)

-- NOT PRINTED: function 76 (strings_Builder_String)

/-! ### strings_Join: function 57 -/
def strings_Join.f (l0 : List ByteArray) (a1 : ByteArray) : Option (ByteArray) := if l0.length ≤ 140737488355328 then (if (Lib.join (l0.map (·.data.toList)) a1.data.toList).length ≤ 140737488355328 then some ⟨(Lib.join (l0.map (·.data.toList)) a1.data.toList).toArray⟩ else none) else none
theorem strings_Join.calls (A0 : Option Addr) (c0 : Nat) (l0 : List ByteArray) (a1 : ByteArray) (r : ByteArray) (w : World) (hr0 : Kd.C Kd.string w A0 l0.length l0) (hc0 : l0.length ≤ c0) (h : strings_Join.f l0 a1 = some r) :
  Calls Try.prog 57 #[.slice A0 l0.length c0, .string a1] w fun e w' => e = .returned (.string r) ∧ Below w.heap.size w w' := by
 unfold strings_Join.f at h
 by_cases h1 : l0.length ≤ 140737488355328
 ·rw [if_pos h1] at h
  by_cases h2 : (Lib.join (l0.map (·.data.toList)) a1.data.toList).length ≤ 140737488355328
  ·rw [if_pos h2] at h
   obtain rfl := Option.some.inj h
   cases l0 with
   | nil => exact (Try.strings_Join_none A0 c0 a1 w).mono fun e w' he => ⟨he.1, he.2 ▸ Below.refl _ _⟩
   | cons x xs =>
    obtain ⟨bk, o, rfl, hc, hlt⟩ := YtodbnnfiadcbaaaH.strs_cells hr0 (by simp)
    exact Try.strings_Join bk o c0 (x :: xs) a1 w hc hlt h1 hc0 h2
  ·rw [if_neg h2] at h
   exact absurd h (by simp)
 ·rw [if_neg h1] at h
  exact absurd h (by simp)

/-! ### expr_Text: functions 56, 39, 18, that call each other -/
mutual
def expr_part.l0 : Nat → ByteArray → List Int → Int → Int → Int → Int → Int → List (S28) → Option (ByteArray)
 | 0, _, _, _, _, _, _, _, _ => none
 | k + 1, x7, x13, x14, x15, x133000, x133001, x133002, x133003 => if x15 < x14 then (if 0 ≤ x15 then (if x15 < (x13.length : Int) then (if x133000 = (rd x13 x15) then (if 2 + x7.size ≤ 9223372036854775807 then (if ((⟨#[40, 32]⟩ : ByteArray) ++ x7).size + 2 ≤ 9223372036854775807 then (some (((⟨#[40, 32]⟩ : ByteArray) ++ x7) ++ (⟨#[32, 41]⟩ : ByteArray))) else (none)) else (none)) else (expr_part.l0 k x7 x13 x14 (wrap64 (x15 + 1)) x133000 x133001 x133002 x133003)) else (none)) else (none)) else (some x7)
def expr_part.f : Nat → List (S56) → Int → Int → Int → List (S28) → List Int → Option (ByteArray)
 | 0, _, _, _, _, _, _ => none
 | k + 1, l0, a1_0, a1_1, a1_2, l1_3, l2 => (expr_Text.f k l0 a1_0 a1_1 a1_2 l1_3).bind fun t133 => (expr_part.l0 k t133 l2 (l2.length : Int) 0 a1_0 a1_1 a1_2 l1_3)
def expr_parts.l0 : Nat → List (S56) → ByteArray → List Int → List ByteArray → List (S28) → Int → Int → Option (ByteArray)
 | 0, _, _, _, _, _, _, _ => none
 | k + 1, x0, x2, x3, x9, x13, x14, x15 => if x15 < x14 then (if 0 ≤ x15 then (if x15 < (x13.length : Int) then ((expr_part.f k x0 ((rd_T28 x13 x15).f0) ((rd_T28 x13 x15).f1) ((rd_T28 x13 x15).f2) ((rd_T28 x13 x15).f3) x3).bind fun t138 => (if x9.length < 8796093022208 then (expr_parts.l0 k x0 x2 x3 (x9 ++ [t138]) x13 x14 (wrap64 (x15 + 1))) else (none))) else (none)) else (none)) else ((strings_Join.f x9 x2).bind fun t142 => (some t142))
def expr_parts.f : Nat → List (S56) → Int → Int → Int → List (S28) → ByteArray → List Int → Option (ByteArray)
 | 0, _, _, _, _, _, _, _ => none
 | k + 1, l0, a1_0, a1_1, a1_2, l1_3, a2, l3 => expr_parts.l0 k l0 a2 l3 ([] : List ByteArray) l1_3 (l1_3.length : Int) 0
def expr_Text.f : Nat → List (S56) → Int → Int → Int → List (S28) → Option (ByteArray)
 | 0, _, _, _, _, _ => none
 | k + 1, l0, a1_0, a1_1, a1_2, l1_3 => if a1_0 = 2 then (some (⟨#[49]⟩ : ByteArray)) else (if a1_0 = 3 then ((expr_text.f k l0 a1_1).bind fun t144 => (some t144)) else (if a1_0 = 4 then ((expr_name.f l0 a1_1).bind fun t145 => (if 1 + t145.size ≤ 9223372036854775807 then (if ((⟨#[60]⟩ : ByteArray) ++ t145).size + 2 ≤ 9223372036854775807 then ((expr_parts.f k l0 a1_0 a1_1 a1_2 l1_3 (⟨#[32]⟩ : ByteArray) ([] : List Int)).bind fun t146 => (if (((⟨#[60]⟩ : ByteArray) ++ t145) ++ (⟨#[91, 32]⟩ : ByteArray)).size + t146.size ≤ 9223372036854775807 then (if ((((⟨#[60]⟩ : ByteArray) ++ t145) ++ (⟨#[91, 32]⟩ : ByteArray)) ++ t146).size + 2 ≤ 9223372036854775807 then ((expr_name.f l0 a1_2).bind fun t147 => (if (((((⟨#[60]⟩ : ByteArray) ++ t145) ++ (⟨#[91, 32]⟩ : ByteArray)) ++ t146) ++ (⟨#[32, 93]⟩ : ByteArray)).size + t147.size ≤ 9223372036854775807 then (if ((((((⟨#[60]⟩ : ByteArray) ++ t145) ++ (⟨#[91, 32]⟩ : ByteArray)) ++ t146) ++ (⟨#[32, 93]⟩ : ByteArray)) ++ t147).size + 1 ≤ 9223372036854775807 then (some (((((((⟨#[60]⟩ : ByteArray) ++ t145) ++ (⟨#[91, 32]⟩ : ByteArray)) ++ t146) ++ (⟨#[32, 93]⟩ : ByteArray)) ++ t147) ++ (⟨#[62]⟩ : ByteArray))) else (none)) else (none))) else (none)) else (none))) else (none)) else (none))) else (if a1_0 = 5 then ((expr_parts.f k l0 a1_0 a1_1 a1_2 l1_3 (⟨#[32]⟩ : ByteArray) (([5, 6] : List Int))).bind fun t151 => (some t151)) else (if a1_0 = 6 then ((expr_parts.f k l0 a1_0 a1_1 a1_2 l1_3 (⟨#[32, 124, 32]⟩ : ByteArray) (([6] : List Int))).bind fun t155 => (some t155)) else (if a1_0 = 7 then ((expr_parts.f k l0 a1_0 a1_1 a1_2 l1_3 (⟨#[32]⟩ : ByteArray) (([5, 6] : List Int))).bind fun t159 => (if t159.size + 1 ≤ 9223372036854775807 then (some (t159 ++ (⟨#[42]⟩ : ByteArray))) else (none))) else (some (⟨#[48]⟩ : ByteArray)))))))
end
set_option maxHeartbeats 4000000 in
theorem expr_Text.mono_g : ∀ k, (∀ y0 y1 y2 y3 y4 y5, LeO (expr_part.f k y0 y1 y2 y3 y4 y5) (expr_part.f (k + 1) y0 y1 y2 y3 y4 y5)) ∧ (∀ y0 y1 y2 y3 y4 y5 y6 y7, LeO (expr_part.l0 k y0 y1 y2 y3 y4 y5 y6 y7) (expr_part.l0 (k + 1) y0 y1 y2 y3 y4 y5 y6 y7)) ∧ (∀ y0 y1 y2 y3 y4 y5 y6, LeO (expr_parts.f k y0 y1 y2 y3 y4 y5 y6) (expr_parts.f (k + 1) y0 y1 y2 y3 y4 y5 y6)) ∧ (∀ y0 y1 y2 y3 y4 y5 y6, LeO (expr_parts.l0 k y0 y1 y2 y3 y4 y5 y6) (expr_parts.l0 (k + 1) y0 y1 y2 y3 y4 y5 y6)) ∧ (∀ y0 y1 y2 y3 y4, LeO (expr_Text.f k y0 y1 y2 y3 y4) (expr_Text.f (k + 1) y0 y1 y2 y3 y4))
 | 0 => ⟨fun _ _ _ _ _ _ r h => by simp [expr_part.f] at h, fun _ _ _ _ _ _ _ _ r h => by simp [expr_part.l0] at h, fun _ _ _ _ _ _ _ r h => by simp [expr_parts.f] at h, fun _ _ _ _ _ _ _ r h => by simp [expr_parts.l0] at h, fun _ _ _ _ _ r h => by simp [expr_Text.f] at h⟩
 | k + 1 => by
  obtain ⟨ih0, ih1, ih2, ih3, ih4⟩ := expr_Text.mono_g k
  refine ⟨?_, ?_, ?_, ?_, ?_⟩
  ·intro y0 y1 y2 y3 y4 y5
   unfold expr_part.f
   repeat' first
   | (with_reducible exact ih1 _ _ _ _ _ _ _ _)
   | (with_reducible exact ih4 _ _ _ _ _)
   | (with_reducible refine LeO.bind ?_ (fun _ => ?_))
  ·intro y0 y1 y2 y3 y4 y5 y6 y7
   unfold expr_part.l0
   repeat' first
   | (with_reducible exact ih1 _ _ _ _ _ _ _ _)
   | (with_reducible exact LeO.refl _)
   | (with_reducible refine LeO.ite ?_ ?_)
  ·intro y0 y1 y2 y3 y4 y5 y6
   unfold expr_parts.f
   repeat' first
   | (with_reducible exact ih3 _ _ _ _ _ _ _)
  ·intro y0 y1 y2 y3 y4 y5 y6
   unfold expr_parts.l0
   repeat' first
   | (with_reducible exact ih0 _ _ _ _ _ _)
   | (with_reducible exact ih3 _ _ _ _ _ _ _)
   | (with_reducible exact LeO.refl _)
   | (with_reducible refine LeO.ite ?_ ?_)
   | (with_reducible refine LeO.bind ?_ (fun _ => ?_))
  ·intro y0 y1 y2 y3 y4
   unfold expr_Text.f
   repeat' first
   | (with_reducible exact ih2 _ _ _ _ _ _ _)
   | (with_reducible exact expr_text.mono _ _ _)
   | (with_reducible exact LeO.refl _)
   | (with_reducible refine LeO.ite ?_ ?_)
   | (with_reducible refine LeO.bind ?_ (fun _ => ?_))
theorem expr_part.mono : ∀ a0 a1 a2 a3 a4 a5 k, LeO (expr_part.f k a0 a1 a2 a3 a4 a5) (expr_part.f (k + 1) a0 a1 a2 a3 a4 a5) := by
 intro a0 a1 a2 a3 a4 a5 k
 obtain ⟨ih0, ih1, ih2, ih3, ih4⟩ := expr_Text.mono_g k
 exact ih0 a0 a1 a2 a3 a4 a5
theorem expr_parts.mono : ∀ a0 a1 a2 a3 a4 a5 a6 k, LeO (expr_parts.f k a0 a1 a2 a3 a4 a5 a6) (expr_parts.f (k + 1) a0 a1 a2 a3 a4 a5 a6) := by
 intro a0 a1 a2 a3 a4 a5 a6 k
 obtain ⟨ih0, ih1, ih2, ih3, ih4⟩ := expr_Text.mono_g k
 exact ih2 a0 a1 a2 a3 a4 a5 a6
theorem expr_Text.mono : ∀ a0 a1 a2 a3 a4 k, LeO (expr_Text.f k a0 a1 a2 a3 a4) (expr_Text.f (k + 1) a0 a1 a2 a3 a4) := by
 intro a0 a1 a2 a3 a4 k
 obtain ⟨ih0, ih1, ih2, ih3, ih4⟩ := expr_Text.mono_g k
 exact ih4 a0 a1 a2 a3 a4

abbrev expr_part.S (k : Nat) : Prop := ∀ (A0 : Option Addr) (c0 : Nat) (l0 : List (S56)) (a1_0 : Int) (a1_1 : Int) (a1_2 : Int) (A1_3 : Option Addr) (c1_3 : Nat) (l1_3 : List (S28)) (A2 : Option Addr) (c2 : Nat) (l2 : List Int) (r : ByteArray) (w : World) (hr0 : Kd.C k56 w A0 l0.length l0) (hc0 : l0.length ≤ c0) (hr1_3 : Kd.C k28 w A1_3 l1_3.length l1_3) (hc1_3 : l1_3.length ≤ c1_3) (hr2 : Kd.C (Kd.int .i64) w A2 l2.length l2) (hc2 : l2.length ≤ c2) (h : expr_part.f k l0 a1_0 a1_1 a1_2 l1_3 l2 = some r),
  Calls Try.prog 56 #[.slice A0 l0.length c0, .agg #[.int .i64 a1_0, .int .i64 a1_1, .int .i64 a1_2, .slice A1_3 l1_3.length c1_3], .slice A2 l2.length c2] w fun e w' => e = .returned (.string r) ∧ Below w.heap.size w w'
abbrev expr_parts.S (k : Nat) : Prop := ∀ (A0 : Option Addr) (c0 : Nat) (l0 : List (S56)) (a1_0 : Int) (a1_1 : Int) (a1_2 : Int) (A1_3 : Option Addr) (c1_3 : Nat) (l1_3 : List (S28)) (a2 : ByteArray) (A3 : Option Addr) (c3 : Nat) (l3 : List Int) (r : ByteArray) (w : World) (hr0 : Kd.C k56 w A0 l0.length l0) (hc0 : l0.length ≤ c0) (hr1_3 : Kd.C k28 w A1_3 l1_3.length l1_3) (hc1_3 : l1_3.length ≤ c1_3) (hr3 : Kd.C (Kd.int .i64) w A3 l3.length l3) (hc3 : l3.length ≤ c3) (h : expr_parts.f k l0 a1_0 a1_1 a1_2 l1_3 a2 l3 = some r),
  Calls Try.prog 39 #[.slice A0 l0.length c0, .agg #[.int .i64 a1_0, .int .i64 a1_1, .int .i64 a1_2, .slice A1_3 l1_3.length c1_3], .string a2, .slice A3 l3.length c3] w fun e w' => e = .returned (.string r) ∧ Below w.heap.size w w'
abbrev expr_Text.S (k : Nat) : Prop := ∀ (A0 : Option Addr) (c0 : Nat) (l0 : List (S56)) (a1_0 : Int) (a1_1 : Int) (a1_2 : Int) (A1_3 : Option Addr) (c1_3 : Nat) (l1_3 : List (S28)) (r : ByteArray) (w : World) (hr0 : Kd.C k56 w A0 l0.length l0) (hc0 : l0.length ≤ c0) (hr1_3 : Kd.C k28 w A1_3 l1_3.length l1_3) (hc1_3 : l1_3.length ≤ c1_3) (h : expr_Text.f k l0 a1_0 a1_1 a1_2 l1_3 = some r),
  Calls Try.prog 18 #[.slice A0 l0.length c0, .agg #[.int .i64 a1_0, .int .i64 a1_1, .int .i64 a1_2, .slice A1_3 l1_3.length c1_3]] w fun e w' => e = .returned (.string r) ∧ Below w.heap.size w w'

/-! ### expr_part: function 56 -/
set_option maxHeartbeats 8000000 in
set_option maxRecDepth 100000 in
theorem expr_part.step (k : Nat) (ih18 : ∀ m, m < k → expr_Text.S m) (ih39 : ∀ m, m < k → expr_parts.S m) (ih56 : ∀ m, m < k → expr_part.S m) : ∀ (A0 : Option Addr) (c0 : Nat) (l0 : List (S56)) (a1_0 : Int) (a1_1 : Int) (a1_2 : Int) (A1_3 : Option Addr) (c1_3 : Nat) (l1_3 : List (S28)) (A2 : Option Addr) (c2 : Nat) (l2 : List Int) (r : ByteArray) (w : World) (hr0 : Kd.C k56 w A0 l0.length l0) (hc0 : l0.length ≤ c0) (hr1_3 : Kd.C k28 w A1_3 l1_3.length l1_3) (hc1_3 : l1_3.length ≤ c1_3) (hr2 : Kd.C (Kd.int .i64) w A2 l2.length l2) (hc2 : l2.length ≤ c2) (h : expr_part.f k l0 a1_0 a1_1 a1_2 l1_3 l2 = some r),
  Calls Try.prog 56 #[.slice A0 l0.length c0, .agg #[.int .i64 a1_0, .int .i64 a1_1, .int .i64 a1_2, .slice A1_3 l1_3.length c1_3], .slice A2 l2.length c2] w fun e w' => e = .returned (.string r) ∧ Below w.heap.size w w' := by
 intro A0 c0 l0 a1_0 a1_1 a1_2 A1_3 c1_3 l1_3 A2 c2 l2 r w hr0 hc0 hr1_3 hc1_3 hr2 hc2 h
 cases k with
 | zero => exact absurd h (by simp [expr_part.f])
 | succ k =>
 simp only [expr_part.f] at h
 have HR0 := M0 hr0
 have HC0 := M0 hc0
 clear hr0 hc0
 have HR1_3 := M0 hr1_3
 have HC1_3 := M0 hc1_3
 clear hr1_3 hc1_3
 have HR2 := M0 hr2
 clear hr2 hc2
 have HB := M0 (Below.refl w.heap.size w)
 have H : ((expr_Text.f k l0 a1_0 a1_1 a1_2 l1_3).bind fun t133 => (expr_part.l0 k t133 l2 (l2.length : Int) 0 a1_0 a1_1 a1_2 l1_3)) = some r := h
 clear h
 replace H := Option.bind_eq_some_iff.mp H
 obtain ⟨t133, A40, H⟩ := H
 try dsimp only at H
 have A4 := M0 A40
 clear A40
 have H' := M0 H
 clear H
 go_enter Try.func56, Try.ntmps56
 go_wp2_with (first | ((with_reducible refine gate_dst (N := 4) rfl ?_); refine box_event ?hg (N := 4) ?hd (cs := #[.int .i64 a1_0, .int .i64 a1_1, .int .i64 a1_2, .slice A1_3 l1_3.length c1_3]) (t := 28) ?hr ?_; (case hd => rfl); (case hg => rfl); (case hr => (go_simp; done)); intro gb132 hg w5 hbox hb; have BK132 := M0 hbox; replace HB := M0 (below_step HB.out hb); clear hb hbox hg; obtain ⟨hcz6_0, hcz6_1, hcz6_2, hcz6_3, hfz6_0, hfz6_1, hfz6_2, hfz6_3⟩ := cells4 BK132.out) | ((with_reducible refine gate_callee (f := 18) rfl ?_); refine goesL_ (some 12) rfl rfl Try.func18 (by kernel_rfl) rfl #[.slice A0 l0.length c0, .agg #[.int .i64 a1_0, .int .i64 a1_1, .int .i64 a1_2, .slice A1_3 l1_3.length c1_3]] rfl (by (simp only [List.map_toArray, List.map_cons, List.map_nil]); rfl) ?_; (with_reducible refine (ih18 k (by omega) _ _ l0 a1_0 a1_1 a1_2 _ _ l1_3 t133 _ ?side1 ?side2 ?side3 ?side4 A4.out).mono ?_); (case side1 => repeat (exact (Kd.C_below HR0.out HB.out))); (case side2 => exact HC0.out); (case side3 => repeat (exact (Kd.C_below HR1_3.out HB.out))); (case side4 => exact HC1_3.out); rintro e w7 ⟨rfl, hb⟩; refine ⟨_, rfl, ?_⟩; replace BK132 := M0 (blk_below BK132.out hb); replace HB := M0 (below_step HB.out hb); clear hb))
 go_loopg [15] k (fun kq v15 w' => ∃ (x15_1 : Int), v15 = .int .i64 x15_1 ∧ Aside0 (expr_part.l0 kq t133 l2 (l2.length : Int) x15_1 a1_0 a1_1 a1_2 l1_3 = some r) ∧ Aside0 (kq ≤ k) ∧ Aside0 (w'.heap[gb132]? = some (.cells #[.int .i64 a1_0, .int .i64 a1_1, .int .i64 a1_2, (.slice A1_3 l1_3.length c1_3)] 28 (0, 0))) ∧ Aside0 (Below w.heap.size w w'))
 case atStart => exact ⟨(0), (by rfl), H', ⟨Nat.le_refl _⟩, ⟨by exact BK132.out⟩, ⟨by with_reducible exact HB.out⟩⟩
 case round =>
  clear H'
  clear hcz6_0 hcz6_1 hcz6_2 hcz6_3 hfz6_0 hfz6_1 hfz6_2 hfz6_3
  obtain ⟨x15_1, rfl, HA, HK1, BK132, HB⟩ := hrel
  cases gk with
  | zero => exact absurd HA.out (by simp [expr_part.l0])
  | succ k1 =>
   have H := HA.out
   clear HA
   simp only [expr_part.l0] at H
   by_cases c8 : x15_1 < (l2.length : Int)
   ·rw [if_pos c8] at H
    have c8b0 := decide_eq_true c8
    clear c8
    by_cases c9 : 0 ≤ x15_1
    ·rw [if_pos c9] at H
     have c9b0 := decide_eq_true c9
     clear c9
     by_cases c10 : x15_1 < (l2.length : Int)
     ·rw [if_pos c10] at H
      have c10b0 := decide_eq_true c10
      clear c10
      by_cases c11 : a1_0 = (rd l2 x15_1)
      ·rw [if_pos c11] at H
       have c11b0 := bT c11
       have c11b1 := nF c11
       clear c11
       by_cases c12 : 2 + t133.size ≤ 9223372036854775807
       ·rw [if_pos c12] at H
        have c12b0 := eq_true c12
        have c12b1 := decide_eq_true c12
        have c12b2 : (9223372036854775807 < 2 + t133.size) = False := eq_false (Nat.not_lt.2 c12)
        by_cases c13 : ((⟨#[40, 32]⟩ : ByteArray) ++ t133).size + 2 ≤ 9223372036854775807
        ·rw [if_pos c13] at H
         have c13b3 : (9223372036854775807 < 2 + t133.size + 2) = False := eq_false (by have z_ := c13; (simp only [ByteArray.size_append] at z_ ⊢); simp only [Nat.not_lt]; exact z_)
         obtain rfl := Option.some.inj H
         have p134 : 0 ≤ (x15_1 : Int) := of_decide_eq_true (by (with_reducible assumption))
         have q134 : x15_1 < (l2.length : Int) := of_decide_eq_true (by (with_reducible assumption))
         obtain ⟨ad134, e134, hx134_0⟩ := Kd.at_int HR2.out x15_1 p134 q134
         cases e134
         replace hx134_0 := (HB.out.cell (World.block_lt_of_cell? w _ hx134_0)).trans hx134_0
         replace p134 := eq_true p134
         replace q134 := eq_true q134
         obtain ⟨_, _, _, _, _, _, _, _⟩ := cells4 BK132.out
         go_wp2
         go_ret
         exact ⟨by rfl, by with_reducible exact HB.out⟩
        ·rw [if_neg c13] at H
         exact absurd H (by simp)
       ·rw [if_neg c12] at H
        exact absurd H (by simp)
      ·rw [if_neg c11] at H
       have c11b0 := bF c11
       have H' := M0 H
       clear H
       have p134 : 0 ≤ (x15_1 : Int) := of_decide_eq_true (by (with_reducible assumption))
       have q134 : x15_1 < (l2.length : Int) := of_decide_eq_true (by (with_reducible assumption))
       obtain ⟨ad134, e134, hx134_0⟩ := Kd.at_int HR2.out x15_1 p134 q134
       cases e134
       replace hx134_0 := (HB.out.cell (World.block_lt_of_cell? w _ hx134_0)).trans hx134_0
       replace p134 := eq_true p134
       replace q134 := eq_true q134
       obtain ⟨_, _, _, _, _, _, _, _⟩ := cells4 BK132.out
       go_wp2
       go_roundg k1
       case measure => have := HK1.out; omega
       case rel => exact ⟨(wrap64 (x15_1 + 1)), (by rfl), H', ⟨by have := HK1.out; omega⟩, ⟨by exact BK132.out⟩, ⟨by with_reducible exact HB.out⟩⟩
     ·rw [if_neg c10] at H
      exact absurd H (by simp)
    ·rw [if_neg c9] at H
     exact absurd H (by simp)
   ·rw [if_neg c8] at H
    have c8b0 := decide_eq_false c8
    clear c8
    obtain rfl := Option.some.inj H
    go_wp2
    go_ret
    exact ⟨by rfl, by with_reducible exact HB.out⟩

/-! ### expr_parts: function 39 -/
set_option maxHeartbeats 8000000 in
set_option maxRecDepth 100000 in
theorem expr_parts.step (k : Nat) (ih18 : ∀ m, m < k → expr_Text.S m) (ih39 : ∀ m, m < k → expr_parts.S m) (ih56 : ∀ m, m < k → expr_part.S m) : ∀ (A0 : Option Addr) (c0 : Nat) (l0 : List (S56)) (a1_0 : Int) (a1_1 : Int) (a1_2 : Int) (A1_3 : Option Addr) (c1_3 : Nat) (l1_3 : List (S28)) (a2 : ByteArray) (A3 : Option Addr) (c3 : Nat) (l3 : List Int) (r : ByteArray) (w : World) (hr0 : Kd.C k56 w A0 l0.length l0) (hc0 : l0.length ≤ c0) (hr1_3 : Kd.C k28 w A1_3 l1_3.length l1_3) (hc1_3 : l1_3.length ≤ c1_3) (hr3 : Kd.C (Kd.int .i64) w A3 l3.length l3) (hc3 : l3.length ≤ c3) (h : expr_parts.f k l0 a1_0 a1_1 a1_2 l1_3 a2 l3 = some r),
  Calls Try.prog 39 #[.slice A0 l0.length c0, .agg #[.int .i64 a1_0, .int .i64 a1_1, .int .i64 a1_2, .slice A1_3 l1_3.length c1_3], .string a2, .slice A3 l3.length c3] w fun e w' => e = .returned (.string r) ∧ Below w.heap.size w w' := by
 intro A0 c0 l0 a1_0 a1_1 a1_2 A1_3 c1_3 l1_3 a2 A3 c3 l3 r w hr0 hc0 hr1_3 hc1_3 hr3 hc3 h
 cases k with
 | zero => exact absurd h (by simp [expr_parts.f])
 | succ k =>
 simp only [expr_parts.f] at h
 have HR0 := M0 hr0
 have HC0 := M0 hc0
 clear hr0 hc0
 have HR1_3 := M0 hr1_3
 clear hr1_3 hc1_3
 have HR3 := M0 hr3
 have HC3 := M0 hc3
 clear hr3 hc3
 have HB := M0 (Below.refl w.heap.size w)
 have H : (expr_parts.l0 k l0 a2 l3 ([] : List ByteArray) l1_3 (l1_3.length : Int) 0) = some r := h
 clear h
 have H' := M0 H
 clear H
 go_enter Try.func39, Try.ntmps39
 go_wp2_with (((with_reducible refine gate_dst (N := 5) rfl ?_); refine box_event ?hg (N := 5) ?hd (cs := #[.int .i64 a1_0, .int .i64 a1_1, .int .i64 a1_2, .slice A1_3 l1_3.length c1_3]) (t := 28) ?hr ?_; (case hd => rfl); (case hg => rfl); (case hr => (go_simp; done)); intro gb135 hg w5 hbox hb; have BK135 := M0 hbox; replace HB := M0 (below_step HB.out hb); clear hb hbox hg; obtain ⟨hcz6_0, hcz6_1, hcz6_2, hcz6_3, hfz6_0, hfz6_1, hfz6_2, hfz6_3⟩ := cells4 BK135.out))
 go_loopg [9, 15] k (fun kq v9 v15 w' => ∃ (x9_1 : List ByteArray) (x15_1 : Int), v15 = .int .i64 x15_1 ∧ Aside0 (expr_parts.l0 kq l0 a2 l3 x9_1 l1_3 (l1_3.length : Int) x15_1 = some r) ∧ Aside0 (kq ≤ k) ∧ Aside0 (Kd.R Kd.string 9 w' w.heap.size (fun _ => True) v9 x9_1) ∧ Aside0 (w'.heap[gb135]? = some (.cells #[.int .i64 a1_0, .int .i64 a1_1, .int .i64 a1_2, (.slice A1_3 l1_3.length c1_3)] 28 (0, 0))) ∧ Aside0 (Below w.heap.size w w'))
 case atStart => exact ⟨(([] : List ByteArray)), (0), (by rfl), H', ⟨Nat.le_refl _⟩, ⟨by exact Kd.R_nil _ _ _ _ _⟩, ⟨by exact BK135.out⟩, ⟨by with_reducible exact HB.out⟩⟩
 case round =>
  clear H'
  clear hcz6_0 hcz6_1 hcz6_2 hcz6_3 hfz6_0 hfz6_1 hfz6_2 hfz6_3
  obtain ⟨x9_1, x15_1, rfl, HA, HK1, HO_9, BK135, HB⟩ := hrel
  cases gk with
  | zero => exact absurd HA.out (by simp [expr_parts.l0])
  | succ k1 =>
   have H := HA.out
   clear HA
   simp only [expr_parts.l0] at H
   by_cases c7 : x15_1 < (l1_3.length : Int)
   ·rw [if_pos c7] at H
    have c7b0 := decide_eq_true c7
    clear c7
    by_cases c8 : 0 ≤ x15_1
    ·rw [if_pos c8] at H
     have c8b0 := decide_eq_true c8
     clear c8
     by_cases c9 : x15_1 < (l1_3.length : Int)
     ·rw [if_pos c9] at H
      have c9b0 := decide_eq_true c9
      clear c9
      replace H := Option.bind_eq_some_iff.mp H
      obtain ⟨t138, A100, H⟩ := H
      try dsimp only at H
      have A10 := M0 A100
      clear A100
      by_cases c11 : x9_1.length < 8796093022208
      ·rw [if_pos c11] at H
       have LMc11 := M0 c11
       clear c11
       obtain ⟨y139, hy139⟩ : ∃ y_ : List ByteArray, y_ = (x9_1 ++ [t138]) := ⟨_, rfl⟩
       replace H : (expr_parts.l0 k1 l0 a2 l3 y139 l1_3 (l1_3.length : Int) (wrap64 (x15_1 + 1))) = some r := by (rw [hy139]; with_reducible exact H)
       have Ny139 := M0 hy139
       clear hy139
       have H' := M0 H
       clear H
       have p136 : 0 ≤ (x15_1 : Int) := of_decide_eq_true (by (with_reducible assumption))
       have q136 : x15_1 < (l1_3.length : Int) := of_decide_eq_true (by (with_reducible assumption))
       obtain ⟨ad136, A136_3, c136_3, e136, hx136_0, hx136_1, hx136_2, hx136_3, hl136_3, hi136_3⟩ := at_T28 HR1_3.out x15_1 p136 q136
       cases e136
       replace hx136_0 := (HB.out.cell (World.block_lt_of_cell? w _ hx136_0)).trans hx136_0
       replace hx136_1 := (HB.out.cell (World.block_lt_of_cell? w _ hx136_1)).trans hx136_1
       replace hx136_2 := (HB.out.cell (World.block_lt_of_cell? w _ hx136_2)).trans hx136_2
       replace hx136_3 := (HB.out.cell (World.block_lt_of_cell? w _ hx136_3)).trans hx136_3
       have HR136_3 := M0 hi136_3
       have HC136_3 := M0 hl136_3
       clear hi136_3 hl136_3
       replace p136 := eq_true p136
       replace q136 := eq_true q136
       go_wp2_with (first | ((with_reducible refine gate_dst (N := 11) rfl ?_); refine box_event ?hg (N := 11) ?hd (cs := #[.int .i64 0, .int .i64 0, .int .i64 0, .slice none 0 0]) (t := 28) ?hr ?_; (case hd => rfl); (case hg => rfl); (case hr => (go_simp; done)); intro gb137 hg w12 hbox hb; replace HO_9 := M0 (Kd.R_below HO_9.out hb); have BK137 := M0 hbox; have GE137 := M0 ((by rw [hg]; exact (below_size HB.out) : w.heap.size ≤ gb137)); replace HB := M0 (below_step HB.out hb); have NB135_137 := M0 ((by rw [hg]; exact Nat.ne_of_lt (blk_lt BK135.out) : gb135 ≠ gb137)); replace BK135 := M0 (blk_below BK135.out hb); clear hb hbox hg; obtain ⟨_, _, _, _, _, _, _, _⟩ := cells4 BK137.out) | ((with_reducible refine gate_callee (f := 56) rfl ?_); refine goesL_ (some 23) rfl rfl Try.func56 (by kernel_rfl) rfl #[.slice A0 l0.length c0, .agg #[.int .i64 ((rd_T28 l1_3 x15_1).f0), .int .i64 ((rd_T28 l1_3 x15_1).f1), .int .i64 ((rd_T28 l1_3 x15_1).f2), .slice A136_3 ((rd_T28 l1_3 x15_1).f3).length c136_3], .slice A3 l3.length c3] rfl (by (simp only [List.map_toArray, List.map_cons, List.map_nil]); rfl) ?_; (with_reducible refine (ih56 k1 (by have := HK1.out; omega) _ _ l0 ((rd_T28 l1_3 x15_1).f0) ((rd_T28 l1_3 x15_1).f1) ((rd_T28 l1_3 x15_1).f2) _ _ ((rd_T28 l1_3 x15_1).f3) _ _ l3 t138 _ ?side1 ?side2 ?side3 ?side4 ?side5 ?side6 A10.out).mono ?_); (case side1 => exact Kd.C_below HR0.out (by repeat ((with_reducible first | exact HB.out | refine below_set ?_ GE137.out)))); (case side2 => exact HC0.out); (case side3 => exact Kd.C_below HR136_3.out (by repeat ((with_reducible first | exact HB.out | refine below_set ?_ GE137.out)))); (case side4 => exact HC136_3.out); (case side5 => exact Kd.C_below HR3.out (by repeat ((with_reducible first | exact HB.out | refine below_set ?_ GE137.out)))); (case side6 => exact HC3.out); rintro e w15 ⟨rfl, hb⟩; refine ⟨_, rfl, ?_⟩; replace HO_9 := M0 (Kd.R_below (by exact (Kd.R_mono (Kd.R_far (p := ⟨gb137, 3, none⟩) (Kd.R_far (p := ⟨gb137, 2, none⟩) (Kd.R_far (p := ⟨gb137, 1, none⟩) (Kd.R_far (p := ⟨gb137, 0, none⟩) (Kd.R_types HO_9.out BK137.out (by decide)) (fun _ hk => hk.2) (.int .i64 ((rd_T28 l1_3 x15_1).f0))) (fun _ hk => hk.2) (.int .i64 ((rd_T28 l1_3 x15_1).f1))) (fun _ hk => hk.2) (.int .i64 ((rd_T28 l1_3 x15_1).f2))) (fun _ hk => hk.2) (.slice A136_3 ((rd_T28 l1_3 x15_1).f3).length c136_3)) (fun _ h_ => h_.1))) hb); replace BK135 := M0 (blk_below (g := gb135) (o := .cells #[.int .i64 a1_0, .int .i64 a1_1, .int .i64 a1_2, .slice (some ad136) l1_3.length c1_3] 28 (0, 0)) (by refine blk_far ?_ NB135_137.out _; refine blk_far ?_ NB135_137.out _; refine blk_far ?_ NB135_137.out _; refine blk_far ?_ NB135_137.out _; exact BK135.out) hb); replace BK137 := M0 (blk_below (g := gb137) (o := .cells #[.int .i64 ((rd_T28 l1_3 x15_1).f0), .int .i64 ((rd_T28 l1_3 x15_1).f1), .int .i64 ((rd_T28 l1_3 x15_1).f2), .slice A136_3 ((rd_T28 l1_3 x15_1).f3).length c136_3] 28 (0, 0)) (by refine blk_put (cs := #[.int .i64 ((rd_T28 l1_3 x15_1).f0), .int .i64 ((rd_T28 l1_3 x15_1).f1), .int .i64 ((rd_T28 l1_3 x15_1).f2), .slice none 0 0]) ?_ 3 _ rfl; refine blk_put (cs := #[.int .i64 ((rd_T28 l1_3 x15_1).f0), .int .i64 ((rd_T28 l1_3 x15_1).f1), .int .i64 0, .slice none 0 0]) ?_ 2 _ rfl; refine blk_put (cs := #[.int .i64 ((rd_T28 l1_3 x15_1).f0), .int .i64 0, .int .i64 0, .slice none 0 0]) ?_ 1 _ rfl; refine blk_put (cs := #[.int .i64 0, .int .i64 0, .int .i64 0, .slice none 0 0]) ?_ 0 _ rfl; exact BK137.out) hb); replace HB := M0 (below_step (by repeat ((with_reducible first | exact HB.out | refine below_set ?_ GE137.out))) hb); clear hb) | ((with_reducible refine gate_builtin (b := .append) (xs := #[.tmp 19, .tmp 24]) rfl ?_); at_builtin; refine Kd.R_append Kd.string (w0 := w) w.heap.size rfl (.tmp 19) (.tmp 24) 39 9 (.string ⟨#[]⟩) 16 rfl Try.underlying39 info9 rfl (by decide) (by omega) u9 x9_1 t138 [.string t138] (fun _ => True) (fun _ => False) rfl rfl ?aP (fun _ hk => hk.elim) ?aF ?aO ?aB ?aS ?aL ?_; (case aP => exact rfl); (case aB => exact HB.out); (case aF => exact (fun _ _ => trivial)); (case aO => exact HO_9.out); (case aS => exact (below_size HB.out)); (case aL => have := LMc11.out; omega); intro v140 w16 ho hb hg hat; rw [← Ny139.out] at ho; replace BK135 := M0 (blk_grown BK135.out hg (Kd.R_ne HO_9.out BK135.out (by decide))); clear BK137; replace HB := M0 hb; have HO141 := M0 ho; clear HO_9 ho hb hg hat))
       go_roundg k1
       case measure => have := HK1.out; omega
       case rel => exact ⟨(y139), (wrap64 (x15_1 + 1)), (by rfl), H', ⟨by have := HK1.out; omega⟩, ⟨by exact HO141.out⟩, ⟨by exact BK135.out⟩, ⟨by with_reducible exact HB.out⟩⟩
      ·rw [if_neg c11] at H
       exact absurd H (by simp)
     ·rw [if_neg c9] at H
      exact absurd H (by simp)
    ·rw [if_neg c8] at H
     exact absurd H (by simp)
   ·rw [if_neg c7] at H
    have c7b0 := decide_eq_false c7
    clear c7
    replace H := Option.bind_eq_some_iff.mp H
    obtain ⟨t142, A170, H⟩ := H
    try dsimp only at H
    have A17 := M0 A170
    clear A170
    obtain rfl := Option.some.inj H
    obtain ⟨Ao18, co18, eo18⟩ := Kd.R_slice HO_9.out
    subst eo18
    go_wp2_with (((with_reducible refine gate_callee (f := 57) rfl ?_); refine goesL_ (some 29) rfl rfl Try.func57 (by kernel_rfl) rfl #[.slice Ao18 x9_1.length co18, .string a2] rfl (by (simp only [List.map_toArray, List.map_cons, List.map_nil]); rfl) ?_; (with_reducible refine (strings_Join.calls _ _ x9_1 a2 t142 _ ?side1 ?side2 A17.out).mono ?_); (case side1 => repeat (exact (Kd.R_reads' HO_9.out).2.2)); (case side2 => exact (Kd.R_reads' HO_9.out).2.1); rintro e w19 ⟨rfl, hb⟩; refine ⟨_, rfl, ?_⟩; clear HO_9; clear BK135; replace HB := M0 (below_step HB.out hb); clear hb))
    go_ret
    exact ⟨by rfl, by with_reducible exact HB.out⟩

/-! ### expr_Text: function 18 -/
def expr_Text.T7 : Bool × List (List Nat × List Nat) := (true, [([], []), ([], []), ([1], [1]), ([0, 2], [0, 2]), ([3], [3]), ([4], [4]), ([], []), ([], []), ([6, 7, 3], [6, 7]), ([5, 8], [5, 8]), ([9], [9]), ([], []), ([], []), ([12], [12]), ([11, 13, 8], [11, 13]), ([10, 14], [10, 14]), ([15], [15]), ([16, 14, 0, 1, 2, 3, 4, 5, 6, 7, 8, 9, 10, 11, 12, 13, 14, 15, 16], [16])])
def expr_Text.B7 : List Nat := [0, 0, 2, 7, 15, 31, 0, 0, 207, 511, 1023, 0, 0, 4096, 14799, 32767, 65535, 131071]
theorem expr_Text.tab7 : rtab .any (opsOf Try.f18 7) = expr_Text.T7 := by kernel_rfl
theorem expr_Text.bits7 : waitsOk expr_Text.T7.2 expr_Text.B7 = true := by kernel_rfl
set_option maxHeartbeats 8000000 in
set_option maxRecDepth 100000 in
theorem expr_Text.step (k : Nat) (ih18 : ∀ m, m < k → expr_Text.S m) (ih39 : ∀ m, m < k → expr_parts.S m) (ih56 : ∀ m, m < k → expr_part.S m) : ∀ (A0 : Option Addr) (c0 : Nat) (l0 : List (S56)) (a1_0 : Int) (a1_1 : Int) (a1_2 : Int) (A1_3 : Option Addr) (c1_3 : Nat) (l1_3 : List (S28)) (r : ByteArray) (w : World) (hr0 : Kd.C k56 w A0 l0.length l0) (hc0 : l0.length ≤ c0) (hr1_3 : Kd.C k28 w A1_3 l1_3.length l1_3) (hc1_3 : l1_3.length ≤ c1_3) (h : expr_Text.f k l0 a1_0 a1_1 a1_2 l1_3 = some r),
  Calls Try.prog 18 #[.slice A0 l0.length c0, .agg #[.int .i64 a1_0, .int .i64 a1_1, .int .i64 a1_2, .slice A1_3 l1_3.length c1_3]] w fun e w' => e = .returned (.string r) ∧ Below w.heap.size w w' := by
 intro A0 c0 l0 a1_0 a1_1 a1_2 A1_3 c1_3 l1_3 r w hr0 hc0 hr1_3 hc1_3 h
 cases k with
 | zero => exact absurd h (by simp [expr_Text.f])
 | succ k =>
 simp only [expr_Text.f] at h
 have HR0 := M0 hr0
 have HC0 := M0 hc0
 clear hr0 hc0
 have HR1_3 := M0 hr1_3
 have HC1_3 := M0 hc1_3
 clear hr1_3 hc1_3
 have HB := M0 (Below.refl w.heap.size w)
 have H : (if a1_0 = 2 then (some (⟨#[49]⟩ : ByteArray)) else (if a1_0 = 3 then ((expr_text.f k l0 a1_1).bind fun t144 => (some t144)) else (if a1_0 = 4 then ((expr_name.f l0 a1_1).bind fun t145 => (if 1 + t145.size ≤ 9223372036854775807 then (if ((⟨#[60]⟩ : ByteArray) ++ t145).size + 2 ≤ 9223372036854775807 then ((expr_parts.f k l0 a1_0 a1_1 a1_2 l1_3 (⟨#[32]⟩ : ByteArray) ([] : List Int)).bind fun t146 => (if (((⟨#[60]⟩ : ByteArray) ++ t145) ++ (⟨#[91, 32]⟩ : ByteArray)).size + t146.size ≤ 9223372036854775807 then (if ((((⟨#[60]⟩ : ByteArray) ++ t145) ++ (⟨#[91, 32]⟩ : ByteArray)) ++ t146).size + 2 ≤ 9223372036854775807 then ((expr_name.f l0 a1_2).bind fun t147 => (if (((((⟨#[60]⟩ : ByteArray) ++ t145) ++ (⟨#[91, 32]⟩ : ByteArray)) ++ t146) ++ (⟨#[32, 93]⟩ : ByteArray)).size + t147.size ≤ 9223372036854775807 then (if ((((((⟨#[60]⟩ : ByteArray) ++ t145) ++ (⟨#[91, 32]⟩ : ByteArray)) ++ t146) ++ (⟨#[32, 93]⟩ : ByteArray)) ++ t147).size + 1 ≤ 9223372036854775807 then (some (((((((⟨#[60]⟩ : ByteArray) ++ t145) ++ (⟨#[91, 32]⟩ : ByteArray)) ++ t146) ++ (⟨#[32, 93]⟩ : ByteArray)) ++ t147) ++ (⟨#[62]⟩ : ByteArray))) else (none)) else (none))) else (none)) else (none))) else (none)) else (none))) else (if a1_0 = 5 then ((expr_parts.f k l0 a1_0 a1_1 a1_2 l1_3 (⟨#[32]⟩ : ByteArray) (([5, 6] : List Int))).bind fun t151 => (some t151)) else (if a1_0 = 6 then ((expr_parts.f k l0 a1_0 a1_1 a1_2 l1_3 (⟨#[32, 124, 32]⟩ : ByteArray) (([6] : List Int))).bind fun t155 => (some t155)) else (if a1_0 = 7 then ((expr_parts.f k l0 a1_0 a1_1 a1_2 l1_3 (⟨#[32]⟩ : ByteArray) (([5, 6] : List Int))).bind fun t159 => (if t159.size + 1 ≤ 9223372036854775807 then (some (t159 ++ (⟨#[42]⟩ : ByteArray))) else (none))) else (some (⟨#[48]⟩ : ByteArray)))))))) = some r := h
 clear h
 by_cases c3 : a1_0 = 2
 ·rw [if_pos c3] at H
  have c3b0 := bT c3
  clear c3
  obtain rfl := Option.some.inj H
  go_enter Try.func18, Try.ntmps18
  go_wp2_with (((with_reducible refine gate_dst (N := 3) rfl ?_); refine box_event ?hg (N := 3) ?hd (cs := #[.int .i64 a1_0, .int .i64 a1_1, .int .i64 a1_2, .slice A1_3 l1_3.length c1_3]) (t := 28) ?hr ?_; (case hd => rfl); (case hg => rfl); (case hr => (go_simp; done)); intro gb143 hg w4 hbox hb; have BK143 := M0 hbox; replace HB := M0 (below_step HB.out hb); clear hb hbox hg; obtain ⟨_, _, _, _, _, _, _, _⟩ := cells4 BK143.out))
  go_ret
  exact ⟨by rfl, by with_reducible exact HB.out⟩
 ·rw [if_neg c3] at H
  have c3b0 := bF c3
  have c3b1 := nT c3
  by_cases c6 : a1_0 = 3
  ·rw [if_pos c6] at H
   have c6b0 := bT c6
   clear c6
   replace H := Option.bind_eq_some_iff.mp H
   obtain ⟨t144, A70, H⟩ := H
   try dsimp only at H
   have A7 := M0 A70
   clear A70
   obtain rfl := Option.some.inj H
   go_enter Try.func18, Try.ntmps18
   go_wp2_with (first | ((with_reducible refine gate_dst (N := 3) rfl ?_); refine box_event ?hg (N := 3) ?hd (cs := #[.int .i64 a1_0, .int .i64 a1_1, .int .i64 a1_2, .slice A1_3 l1_3.length c1_3]) (t := 28) ?hr ?_; (case hd => rfl); (case hg => rfl); (case hr => (go_simp; done)); intro gb143 hg w8 hbox hb; have BK143 := M0 hbox; replace HB := M0 (below_step HB.out hb); clear hb hbox hg; obtain ⟨_, _, _, _, _, _, _, _⟩ := cells4 BK143.out) | ((with_reducible refine gate_callee (f := 37) rfl ?_); refine goesL_ (some 14) rfl rfl Try.func37 (by kernel_rfl) rfl #[.slice A0 l0.length c0, .int .i64 a1_1] rfl (by (simp only [List.map_toArray, List.map_cons, List.map_nil]); rfl) ?_; (with_reducible refine (expr_text.calls k _ _ l0 a1_1 t144 _ ?side1 ?side2 A7.out).mono ?_); (case side1 => repeat (exact (Kd.C_below HR0.out HB.out))); (case side2 => exact HC0.out); rintro e w' ⟨rfl, ⟨nd, rfl⟩⟩; refine ⟨_, rfl, ?_⟩))
   go_ret
   exact ⟨by rfl, by repeat ((with_reducible first | exact HB.out | apply pw_below_drewN))⟩
  ·rw [if_neg c6] at H
   have c6b0 := bF c6
   have c6b1 := nT c6
   by_cases c10 : a1_0 = 4
   ·rw [if_pos c10] at H
    have c10b0 := bT c10
    clear c10
    replace H := Option.bind_eq_some_iff.mp H
    obtain ⟨t145, A110, H⟩ := H
    try dsimp only at H
    have A11 := M0 A110
    clear A110
    by_cases c12 : 1 + t145.size ≤ 9223372036854775807
    ·rw [if_pos c12] at H
     have c12b0 := eq_true c12
     have c12b1 := decide_eq_true c12
     have c12b2 : (9223372036854775807 < 1 + t145.size) = False := eq_false (Nat.not_lt.2 c12)
     by_cases c13 : ((⟨#[60]⟩ : ByteArray) ++ t145).size + 2 ≤ 9223372036854775807
     ·rw [if_pos c13] at H
      have c13b3 : (9223372036854775807 < 1 + t145.size + 2) = False := eq_false (by have z_ := c13; (simp only [ByteArray.size_append] at z_ ⊢); simp only [Nat.not_lt]; exact z_)
      replace H := Option.bind_eq_some_iff.mp H
      obtain ⟨t146, A140, H⟩ := H
      try dsimp only at H
      have A14 := M0 A140
      clear A140
      by_cases c15 : (((⟨#[60]⟩ : ByteArray) ++ t145) ++ (⟨#[91, 32]⟩ : ByteArray)).size + t146.size ≤ 9223372036854775807
      ·rw [if_pos c15] at H
       have c15b0 := eq_true c15
       have c15b1 := decide_eq_true c15
       have c15b2 : (9223372036854775807 < (((⟨#[60]⟩ : ByteArray) ++ t145) ++ (⟨#[91, 32]⟩ : ByteArray)).size + t146.size) = False := eq_false (Nat.not_lt.2 c15)
       have c15b3 : (9223372036854775807 < 1 + t145.size + 2 + t146.size) = False := eq_false (by have z_ := c15; (simp only [ByteArray.size_append] at z_ ⊢); simp only [Nat.not_lt]; exact z_)
       by_cases c16 : ((((⟨#[60]⟩ : ByteArray) ++ t145) ++ (⟨#[91, 32]⟩ : ByteArray)) ++ t146).size + 2 ≤ 9223372036854775807
       ·rw [if_pos c16] at H
        have c16b3 : (9223372036854775807 < 1 + t145.size + 2 + t146.size + 2) = False := eq_false (by have z_ := c16; (simp only [ByteArray.size_append] at z_ ⊢); simp only [Nat.not_lt]; exact z_)
        replace H := Option.bind_eq_some_iff.mp H
        obtain ⟨t147, A170, H⟩ := H
        try dsimp only at H
        have A17 := M0 A170
        clear A170
        by_cases c18 : (((((⟨#[60]⟩ : ByteArray) ++ t145) ++ (⟨#[91, 32]⟩ : ByteArray)) ++ t146) ++ (⟨#[32, 93]⟩ : ByteArray)).size + t147.size ≤ 9223372036854775807
        ·rw [if_pos c18] at H
         have c18b0 := eq_true c18
         have c18b1 := decide_eq_true c18
         have c18b2 : (9223372036854775807 < (((((⟨#[60]⟩ : ByteArray) ++ t145) ++ (⟨#[91, 32]⟩ : ByteArray)) ++ t146) ++ (⟨#[32, 93]⟩ : ByteArray)).size + t147.size) = False := eq_false (Nat.not_lt.2 c18)
         have c18b3 : (9223372036854775807 < 1 + t145.size + 2 + t146.size + 2 + t147.size) = False := eq_false (by have z_ := c18; (simp only [ByteArray.size_append] at z_ ⊢); simp only [Nat.not_lt]; exact z_)
         by_cases c19 : ((((((⟨#[60]⟩ : ByteArray) ++ t145) ++ (⟨#[91, 32]⟩ : ByteArray)) ++ t146) ++ (⟨#[32, 93]⟩ : ByteArray)) ++ t147).size + 1 ≤ 9223372036854775807
         ·rw [if_pos c19] at H
          have c19b3 : (9223372036854775807 < 1 + t145.size + 2 + t146.size + 2 + t147.size + 1) = False := eq_false (by have z_ := c19; (simp only [ByteArray.size_append] at z_ ⊢); simp only [Nat.not_lt]; exact z_)
          obtain rfl := Option.some.inj H
          go_enter Try.func18, Try.ntmps18
          go_wp2_with (((with_reducible refine gate_dst (N := 3) rfl ?_); refine box_event ?hg (N := 3) ?hd (cs := #[.int .i64 a1_0, .int .i64 a1_1, .int .i64 a1_2, .slice A1_3 l1_3.length c1_3]) (t := 28) ?hr ?_; (case hd => rfl); (case hg => rfl); (case hr => (go_simp; done)); intro gb143 hg w20 hbox hb; have BK143 := M0 hbox; replace HB := M0 (below_step HB.out hb); clear hb hbox hg; obtain ⟨_, _, _, _, _, _, _, _⟩ := cells4 BK143.out))
          have n0_ := M0 (blk_drew BK143.out)
          have n1_ := M0 (below_drew1 HB.out)
          clear BK143 HB
          have BK143 := n0_
          have HB := n1_
          clear n0_ n1_
          refine start_ (n := 18) (S := fun w' => w'.cell? ⟨gb143, 0, none⟩ = some (.int .i64 a1_0) ∧ w'.cell? ⟨gb143, 1, none⟩ = some (.int .i64 a1_1) ∧ w'.cell? ⟨gb143, 2, none⟩ = some (.int .i64 a1_2) ∧ w'.cell? ⟨gb143, 3, none⟩ = some (.slice A1_3 l1_3.length c1_3)) (ds := []) #[false, false, false, false, false, false, false, false, false, false, false, false, false, false, false, false, false, false] (by kernel_rfl) rfl rfl ⟨(blk_cell BK143.out 0).trans rfl, (blk_cell BK143.out 1).trans rfl, (blk_cell BK143.out 2).trans rfl, (blk_cell BK143.out 3).trans rfl⟩ (fun hHeld => ?_); refine with_tabW expr_Text.tab7 expr_Text.bits7 (fun HT_ HW_ => ?_)
          generalize w20.drew = w22 at BK143 HB hHeld ⊢
          refine pure_ (i := 0) (N := some 17) (v := ?_) (a' := ?_) #[true, false, false, false, false, false, false, false, false, false, false, false, false, false, false, false, false, false] rfl rfl (any_of HT_.out (by kernel_rfl)) (fun _ _ _ h => h) (Or.inl ⟨by rfl, ?_⟩) ?_ ?_
          rotate_left
          ·intro w'
           go_simp
           with_reducible rfl
          rotate_left
          ·simp only [Act.put, List.setIfInBounds_toArray, List.set_cons_zero, List.set_cons_succ, i64_w, i32_w]
           rfl
          refine pure_ (i := 1) (N := some 18) (v := ?_) (a' := ?_) #[true, true, false, false, false, false, false, false, false, false, false, false, false, false, false, false, false, false] rfl rfl (any_of HT_.out (by kernel_rfl)) (fun _ _ _ h => h) (Or.inl ⟨by rfl, ?_⟩) ?_ ?_
          rotate_left
          ·intro w'
           go_simp
           with_reducible rfl
          rotate_left
          ·simp only [Act.put, List.setIfInBounds_toArray, List.set_cons_zero, List.set_cons_succ, i64_w, i32_w]
           rfl
          refine pure_ (i := 6) (N := some 23) (v := ?_) (a' := ?_) #[true, true, false, false, false, false, true, false, false, false, false, false, false, false, false, false, false, false] rfl rfl (any_of HT_.out (by kernel_rfl)) (fun _ _ _ h => h) (Or.inl ⟨by rfl, ?_⟩) ?_ ?_
          rotate_left
          ·intro w'
           go_simp
           with_reducible rfl
          rotate_left
          ·simp only [Act.put, List.setIfInBounds_toArray, List.set_cons_zero, List.set_cons_succ, i64_w, i32_w]
           rfl
          refine pure_ (i := 11) (N := some 28) (v := ?_) (a' := ?_) #[true, true, false, false, false, false, true, false, false, false, false, true, false, false, false, false, false, false] rfl rfl (any_of HT_.out (by kernel_rfl)) (fun _ _ _ h => h) (Or.inl ⟨by rfl, ?_⟩) ?_ ?_
          rotate_left
          ·intro w'
           go_simp
           with_reducible rfl
          rotate_left
          ·simp only [Act.put, List.setIfInBounds_toArray, List.set_cons_zero, List.set_cons_succ, i64_w, i32_w]
           rfl
          refine pure_ (i := 12) (N := some 29) (v := ?_) (a' := ?_) #[true, true, false, false, false, false, true, false, false, false, false, true, true, false, false, false, false, false] rfl rfl (any_of HT_.out (by kernel_rfl)) (fun _ _ _ h => h) (Or.inl ⟨by rfl, ?_⟩) ?_ ?_
          rotate_left
          ·intro w'
           go_simp
           with_reducible rfl
          rotate_left
          ·simp only [Act.put, List.setIfInBounds_toArray, List.set_cons_zero, List.set_cons_succ, i64_w, i32_w]
           rfl
          refine take_ (i := 2) (N := some 19) (v := ?_) (a' := ?_) #[true, true, true, false, false, false, true, false, false, false, false, true, true, false, false, false, false, false] rfl rfl (take_ofW HT_.out HW_.out (by kernel_rfl)) (fun _ _ _ h => h) (Or.inl ⟨by rfl, ?_⟩) hHeld ?_ ?_
          rotate_left
          ·rintro w' ⟨s0, s1, s2, s3⟩
           go_simp
           with_reducible rfl
          rotate_left
          ·simp only [Act.put, List.setIfInBounds_toArray, List.set_cons_zero, List.set_cons_succ, i64_w, i32_w]
           rfl
          refine take_ (i := 7) (N := some 24) (v := ?_) (a' := ?_) #[true, true, true, false, false, false, true, true, false, false, false, true, true, false, false, false, false, false] rfl rfl (take_ofW HT_.out HW_.out (by kernel_rfl)) (fun _ _ _ h => h) (Or.inl ⟨by rfl, ?_⟩) hHeld ?_ ?_
          rotate_left
          ·rintro w' ⟨s0, s1, s2, s3⟩
           go_simp
           with_reducible rfl
          rotate_left
          ·simp only [Act.put, List.setIfInBounds_toArray, List.set_cons_zero, List.set_cons_succ, i64_w, i32_w]
           rfl
          refine take_ (i := 13) (N := some 30) (v := ?_) (a' := ?_) #[true, true, true, false, false, false, true, true, false, false, false, true, true, true, false, false, false, false] rfl rfl (take_ofW HT_.out HW_.out (by kernel_rfl)) (fun _ _ _ h => h) (Or.inl ⟨by rfl, ?_⟩) hHeld ?_ ?_
          rotate_left
          ·rintro w' ⟨s0, s1, s2, s3⟩
           go_simp
           with_reducible rfl
          rotate_left
          ·simp only [Act.put, List.setIfInBounds_toArray, List.set_cons_zero, List.set_cons_succ, i64_w, i32_w]
           rfl
          refine one_ (i := 3) (N := some 20) #[true, true, true, true, false, false, true, true, false, false, false, true, true, true, false, false, false, false] rfl rfl (one_of HT_.out (by kernel_rfl)) (by decide) (fun K hK => ?_)
          refine goes_ Try.func38 (by kernel_rfl) rfl #[.slice A0 l0.length c0, .int .i64 a1_1] (by rfl) rfl rfl (by (simp only [List.map_toArray, List.map_cons, List.map_nil]); rfl) ?_
          with_reducible refine (expr_name.calls _ _ l0 a1_1 t145 _ ?side1 ?side2 A11.out).mono ?_
          (case side1 => repeat (exact (Kd.C_below HR0.out HB.out)))
          (case side2 => exact HC0.out)
          rintro e w' ⟨rfl, ⟨nd, rfl⟩⟩
          refine ⟨_, rfl, ?_⟩
          refine hK.out _ _ ⟨(blk_cell BK143.out 0).trans rfl, (blk_cell BK143.out 1).trans rfl, (blk_cell BK143.out 2).trans rfl, (blk_cell BK143.out 3).trans rfl⟩ (fun hHeld => ?_)
          clear hK K
          refine norm_ (a' := ?_) ?_ ?_
          rotate_left
          ·show Act.put _ (some 20) _ = _
           simp only [Act.put, List.setIfInBounds_toArray, List.set_cons_zero, List.set_cons_succ, i64_w, i32_w]
           rfl
          refine pure_ (i := 4) (N := some 21) (v := ?_) (a' := ?_) #[true, true, true, true, true, false, true, true, false, false, false, true, true, true, false, false, false, false] rfl rfl (any_of HT_.out (by kernel_rfl)) (fun _ _ _ h => h) (Or.inl ⟨by rfl, ?_⟩) ?_ ?_
          rotate_left
          ·intro w'
           go_simp
           with_reducible rfl
          rotate_left
          ·simp only [Act.put, List.setIfInBounds_toArray, List.set_cons_zero, List.set_cons_succ, i64_w, i32_w]
           rfl
          refine pure_ (i := 5) (N := some 22) (v := ?_) (a' := ?_) #[true, true, true, true, true, true, true, true, false, false, false, true, true, true, false, false, false, false] rfl rfl (any_of HT_.out (by kernel_rfl)) (fun _ _ _ h => h) (Or.inl ⟨by rfl, ?_⟩) ?_ ?_
          rotate_left
          ·intro w'
           go_simp
           with_reducible rfl
          rotate_left
          ·simp only [Act.put, List.setIfInBounds_toArray, List.set_cons_zero, List.set_cons_succ, i64_w, i32_w]
           rfl
          refine one_ (i := 8) (N := some 25) #[true, true, true, true, true, true, true, true, true, false, false, true, true, true, false, false, false, false] rfl rfl (one_of HT_.out (by kernel_rfl)) (by decide) (fun K hK => ?_)
          refine goes_ Try.func39 (by kernel_rfl) rfl #[.slice A0 l0.length c0, .agg #[.int .i64 a1_0, .int .i64 a1_1, .int .i64 a1_2, .slice A1_3 l1_3.length c1_3], .string (⟨#[32]⟩ : ByteArray), .slice none 0 0] (by rfl) rfl rfl (by (simp only [List.map_toArray, List.map_cons, List.map_nil]); rfl) ?_
          refine (ih39 k (by omega) _ _ l0 a1_0 a1_1 a1_2 _ _ l1_3 (⟨#[32]⟩ : ByteArray) _ _ ([] : List Int) t146 _ ?side1 ?side2 ?side3 ?side4 ?side5 ?side6 A14.out).mono ?_
          (case side1 => repeat (exact (Kd.C_below HR0.out (by repeat ((with_reducible first | exact HB.out | apply pw_below_drewN))))))
          (case side2 => exact HC0.out)
          (case side3 => repeat (exact (Kd.C_below HR1_3.out (by repeat ((with_reducible first | exact HB.out | apply pw_below_drewN))))))
          (case side4 => exact HC1_3.out)
          (case side5 => exact Kd.C_nil _ _)
          (case side6 => exact Nat.le_refl _)
          rintro e w23 ⟨rfl, hb⟩
          refine ⟨_, rfl, ?_⟩
          have n0_ := M0 (blk_below (g := gb143) (o := .cells #[.int .i64 a1_0, .int .i64 a1_1, .int .i64 a1_2, .slice A1_3 l1_3.length c1_3] 28 (0, 0)) (by (with_reducible repeat (refine blk_drewN ?_ _)); exact BK143.out) hb)
          have n1_ := M0 (below_step (by repeat ((with_reducible first | exact HB.out | apply pw_below_drewN))) hb)
          clear BK143 HB
          have BK143 := n0_
          have HB := n1_
          clear n0_ n1_
          (clear hb)
          (skip)
          (skip)
          (skip)
          refine hK.out _ _ ⟨(blk_cell BK143.out 0).trans rfl, (blk_cell BK143.out 1).trans rfl, (blk_cell BK143.out 2).trans rfl, (blk_cell BK143.out 3).trans rfl⟩ (fun hHeld => ?_)
          clear hK K
          refine norm_ (a' := ?_) ?_ ?_
          rotate_left
          ·show Act.put _ (some 25) _ = _
           simp only [Act.put, List.setIfInBounds_toArray, List.set_cons_zero, List.set_cons_succ, i64_w, i32_w]
           rfl
          refine pure_ (i := 9) (N := some 26) (v := ?_) (a' := ?_) #[true, true, true, true, true, true, true, true, true, true, false, true, true, true, false, false, false, false] rfl rfl (any_of HT_.out (by kernel_rfl)) (fun _ _ _ h => h) (Or.inl ⟨by rfl, ?_⟩) ?_ ?_
          rotate_left
          ·intro w'
           go_simp
           with_reducible rfl
          rotate_left
          ·simp only [Act.put, List.setIfInBounds_toArray, List.set_cons_zero, List.set_cons_succ, i64_w, i32_w]
           rfl
          refine pure_ (i := 10) (N := some 27) (v := ?_) (a' := ?_) #[true, true, true, true, true, true, true, true, true, true, true, true, true, true, false, false, false, false] rfl rfl (any_of HT_.out (by kernel_rfl)) (fun _ _ _ h => h) (Or.inl ⟨by rfl, ?_⟩) ?_ ?_
          rotate_left
          ·intro w'
           go_simp
           with_reducible rfl
          rotate_left
          ·simp only [Act.put, List.setIfInBounds_toArray, List.set_cons_zero, List.set_cons_succ, i64_w, i32_w]
           rfl
          refine one_ (i := 14) (N := some 31) #[true, true, true, true, true, true, true, true, true, true, true, true, true, true, true, false, false, false] rfl rfl (one_of HT_.out (by kernel_rfl)) (by decide) (fun K hK => ?_)
          refine goes_ Try.func38 (by kernel_rfl) rfl #[.slice A0 l0.length c0, .int .i64 a1_2] (by rfl) rfl rfl (by (simp only [List.map_toArray, List.map_cons, List.map_nil]); rfl) ?_
          with_reducible refine (expr_name.calls _ _ l0 a1_2 t147 _ ?side1 ?side2 A17.out).mono ?_
          (case side1 => repeat (exact (Kd.C_below HR0.out HB.out)))
          (case side2 => exact HC0.out)
          rintro e w' ⟨rfl, ⟨nd, rfl⟩⟩
          refine ⟨_, rfl, ?_⟩
          refine hK.out _ _ ⟨(blk_cell BK143.out 0).trans rfl, (blk_cell BK143.out 1).trans rfl, (blk_cell BK143.out 2).trans rfl, (blk_cell BK143.out 3).trans rfl⟩ (fun hHeld => ?_)
          clear hK K
          refine norm_ (a' := ?_) ?_ ?_
          rotate_left
          ·show Act.put _ (some 31) _ = _
           simp only [Act.put, List.setIfInBounds_toArray, List.set_cons_zero, List.set_cons_succ, i64_w, i32_w]
           rfl
          refine pure_ (i := 15) (N := some 32) (v := ?_) (a' := ?_) #[true, true, true, true, true, true, true, true, true, true, true, true, true, true, true, true, false, false] rfl rfl (any_of HT_.out (by kernel_rfl)) (fun _ _ _ h => h) (Or.inl ⟨by rfl, ?_⟩) ?_ ?_
          rotate_left
          ·intro w'
           go_simp
           with_reducible rfl
          rotate_left
          ·simp only [Act.put, List.setIfInBounds_toArray, List.set_cons_zero, List.set_cons_succ, i64_w, i32_w]
           rfl
          refine pure_ (i := 16) (N := some 33) (v := ?_) (a' := ?_) #[true, true, true, true, true, true, true, true, true, true, true, true, true, true, true, true, true, false] rfl rfl (any_of HT_.out (by kernel_rfl)) (fun _ _ _ h => h) (Or.inl ⟨by rfl, ?_⟩) ?_ ?_
          rotate_left
          ·intro w'
           go_simp
           with_reducible rfl
          rotate_left
          ·simp only [Act.put, List.setIfInBounds_toArray, List.set_cons_zero, List.set_cons_succ, i64_w, i32_w]
           rfl
          refine pure_ (i := 17) (N := some 4) (v := ?_) (a' := ?_) #[true, true, true, true, true, true, true, true, true, true, true, true, true, true, true, true, true, true] rfl rfl (any_of HT_.out (by kernel_rfl)) (fun _ _ _ h => h) (Or.inl ⟨by rfl, ?_⟩) ?_ ?_
          rotate_left
          ·intro w'
           go_simp
           with_reducible rfl
          rotate_left
          ·simp only [Act.put, List.setIfInBounds_toArray, List.set_cons_zero, List.set_cons_succ, i64_w, i32_w]
           rfl
          refine done_ (done_of HT_.out (by kernel_rfl)) ?_
          go_wp2
          go_ret
          exact ⟨by rfl, by repeat ((with_reducible first | exact HB.out | apply pw_below_drewN))⟩
         ·rw [if_neg c19] at H
          exact absurd H (by simp)
        ·rw [if_neg c18] at H
         exact absurd H (by simp)
       ·rw [if_neg c16] at H
        exact absurd H (by simp)
      ·rw [if_neg c15] at H
       exact absurd H (by simp)
     ·rw [if_neg c13] at H
      exact absurd H (by simp)
    ·rw [if_neg c12] at H
     exact absurd H (by simp)
   ·rw [if_neg c10] at H
    have c10b0 := bF c10
    have c10b1 := nT c10
    by_cases c24 : a1_0 = 5
    ·rw [if_pos c24] at H
     have c24b0 := bT c24
     clear c24
     obtain ⟨y148, hy148⟩ : ∃ y_ : List Int, y_ = (([5, 6] : List Int)) := ⟨_, rfl⟩
     replace H : ((expr_parts.f k l0 a1_0 a1_1 a1_2 l1_3 (⟨#[32]⟩ : ByteArray) y148).bind fun t151 => (some t151)) = some r := by (rw [hy148]; with_reducible exact H)
     have Ny148 := M0 hy148
     clear hy148
     replace H := Option.bind_eq_some_iff.mp H
     obtain ⟨t151, A250, H⟩ := H
     try dsimp only at H
     have A25 := M0 A250
     clear A250
     obtain rfl := Option.some.inj H
     go_enter Try.func18, Try.ntmps18
     go_wp2_with (first | ((with_reducible refine gate_dst (N := 3) rfl ?_); refine box_event ?hg (N := 3) ?hd (cs := #[.int .i64 a1_0, .int .i64 a1_1, .int .i64 a1_2, .slice A1_3 l1_3.length c1_3]) (t := 28) ?hr ?_; (case hd => rfl); (case hg => rfl); (case hr => (go_simp; done)); intro gb143 hg w26 hbox hb; have BK143 := M0 hbox; replace HB := M0 (below_step HB.out hb); clear hb hbox hg; obtain ⟨_, _, _, _, _, _, _, _⟩ := cells4 BK143.out) | ((with_reducible refine gate_dst (N := 38) rfl ?_); refine Kd.R_lit (Kd.int .i64) _ 3 ?hg (N := 38) ?hd (xs := ([5, 6] : List Int)) (inner := [.int .i64 5, .int .i64 6]) (ok := fun _ => True) (okp := fun _ => True) ?hr ?hp (fun _ hk => hk) trivial (Below.refl _ _) (Nat.le_refl _) (by simp) ?_; (case hd => rfl); (case hg => rfl); (case hr => (go_simp; done)); (case hp => exact (Reps.one (show Kd.M (Kd.int .i64) _ _ _ 5 [.int .i64 5] from rfl) (Reps.one (show Kd.M (Kd.int .i64) _ _ _ 6 [.int .i64 6] from rfl) (Reps.none _ _)))); intro v149 w28 ho29 hb hg_ hnew_; clear hg_ hnew_; (rw [← Ny148.out] at ho29); have HO150 := M0 (Kd.R_lower ho29 (below_size HB.out)); replace BK143 := M0 (blk_below BK143.out hb); replace HB := M0 (below_step HB.out hb); clear hb ho29; obtain ⟨Ao30, co30, eo30⟩ := Kd.R_slice HO150.out; subst eo30) | ((with_reducible refine gate_callee (f := 39) rfl ?_); refine goesL_ (some 39) rfl rfl Try.func39 (by kernel_rfl) rfl #[.slice A0 l0.length c0, .agg #[.int .i64 a1_0, .int .i64 a1_1, .int .i64 a1_2, .slice A1_3 l1_3.length c1_3], .string (⟨#[32]⟩ : ByteArray), .slice Ao30 y148.length co30] rfl (by (simp only [List.map_toArray, List.map_cons, List.map_nil]); rfl) ?_; (with_reducible refine (ih39 k (by omega) _ _ l0 a1_0 a1_1 a1_2 _ _ l1_3 (⟨#[32]⟩ : ByteArray) _ _ y148 t151 _ ?side1 ?side2 ?side3 ?side4 ?side5 ?side6 A25.out).mono ?_); (case side1 => repeat (exact (Kd.C_below HR0.out HB.out))); (case side2 => exact HC0.out); (case side3 => repeat (exact (Kd.C_below HR1_3.out HB.out))); (case side4 => exact HC1_3.out); (case side5 => repeat (exact (Kd.R_reads' HO150.out).2.2)); (case side6 => exact (Kd.R_reads' HO150.out).2.1); rintro e w31 ⟨rfl, hb⟩; refine ⟨_, rfl, ?_⟩; clear HO150; clear BK143; replace HB := M0 (below_step HB.out hb); clear hb))
     go_ret
     exact ⟨by rfl, by with_reducible exact HB.out⟩
    ·rw [if_neg c24] at H
     have c24b0 := bF c24
     have c24b1 := nT c24
     by_cases c32 : a1_0 = 6
     ·rw [if_pos c32] at H
      have c32b0 := bT c32
      clear c32
      obtain ⟨y152, hy152⟩ : ∃ y_ : List Int, y_ = (([6] : List Int)) := ⟨_, rfl⟩
      replace H : ((expr_parts.f k l0 a1_0 a1_1 a1_2 l1_3 (⟨#[32, 124, 32]⟩ : ByteArray) y152).bind fun t155 => (some t155)) = some r := by (rw [hy152]; with_reducible exact H)
      have Ny152 := M0 hy152
      clear hy152
      replace H := Option.bind_eq_some_iff.mp H
      obtain ⟨t155, A330, H⟩ := H
      try dsimp only at H
      have A33 := M0 A330
      clear A330
      obtain rfl := Option.some.inj H
      go_enter Try.func18, Try.ntmps18
      go_wp2_with (first | ((with_reducible refine gate_dst (N := 3) rfl ?_); refine box_event ?hg (N := 3) ?hd (cs := #[.int .i64 a1_0, .int .i64 a1_1, .int .i64 a1_2, .slice A1_3 l1_3.length c1_3]) (t := 28) ?hr ?_; (case hd => rfl); (case hg => rfl); (case hr => (go_simp; done)); intro gb143 hg w34 hbox hb; have BK143 := M0 hbox; replace HB := M0 (below_step HB.out hb); clear hb hbox hg; obtain ⟨_, _, _, _, _, _, _, _⟩ := cells4 BK143.out) | ((with_reducible refine gate_dst (N := 44) rfl ?_); refine Kd.R_lit (Kd.int .i64) _ 3 ?hg (N := 44) ?hd (xs := ([6] : List Int)) (inner := [.int .i64 6]) (ok := fun _ => True) (okp := fun _ => True) ?hr ?hp (fun _ hk => hk) trivial (Below.refl _ _) (Nat.le_refl _) (by simp) ?_; (case hd => rfl); (case hg => rfl); (case hr => (go_simp; done)); (case hp => exact (Reps.one (show Kd.M (Kd.int .i64) _ _ _ 6 [.int .i64 6] from rfl) (Reps.none _ _))); intro v153 w36 ho37 hb hg_ hnew_; clear hg_ hnew_; (rw [← Ny152.out] at ho37); have HO154 := M0 (Kd.R_lower ho37 (below_size HB.out)); replace BK143 := M0 (blk_below BK143.out hb); replace HB := M0 (below_step HB.out hb); clear hb ho37; obtain ⟨Ao38, co38, eo38⟩ := Kd.R_slice HO154.out; subst eo38) | ((with_reducible refine gate_callee (f := 39) rfl ?_); refine goesL_ (some 45) rfl rfl Try.func39 (by kernel_rfl) rfl #[.slice A0 l0.length c0, .agg #[.int .i64 a1_0, .int .i64 a1_1, .int .i64 a1_2, .slice A1_3 l1_3.length c1_3], .string (⟨#[32, 124, 32]⟩ : ByteArray), .slice Ao38 y152.length co38] rfl (by (simp only [List.map_toArray, List.map_cons, List.map_nil]); rfl) ?_; (with_reducible refine (ih39 k (by omega) _ _ l0 a1_0 a1_1 a1_2 _ _ l1_3 (⟨#[32, 124, 32]⟩ : ByteArray) _ _ y152 t155 _ ?side1 ?side2 ?side3 ?side4 ?side5 ?side6 A33.out).mono ?_); (case side1 => repeat (exact (Kd.C_below HR0.out HB.out))); (case side2 => exact HC0.out); (case side3 => repeat (exact (Kd.C_below HR1_3.out HB.out))); (case side4 => exact HC1_3.out); (case side5 => repeat (exact (Kd.R_reads' HO154.out).2.2)); (case side6 => exact (Kd.R_reads' HO154.out).2.1); rintro e w39 ⟨rfl, hb⟩; refine ⟨_, rfl, ?_⟩; clear HO154; clear BK143; replace HB := M0 (below_step HB.out hb); clear hb))
      go_ret
      exact ⟨by rfl, by with_reducible exact HB.out⟩
     ·rw [if_neg c32] at H
      have c32b0 := bF c32
      have c32b1 := nT c32
      by_cases c40 : a1_0 = 7
      ·rw [if_pos c40] at H
       have c40b0 := bT c40
       clear c40
       obtain ⟨y156, hy156⟩ : ∃ y_ : List Int, y_ = (([5, 6] : List Int)) := ⟨_, rfl⟩
       replace H : ((expr_parts.f k l0 a1_0 a1_1 a1_2 l1_3 (⟨#[32]⟩ : ByteArray) y156).bind fun t159 => (if t159.size + 1 ≤ 9223372036854775807 then (some (t159 ++ (⟨#[42]⟩ : ByteArray))) else (none))) = some r := by (rw [hy156]; with_reducible exact H)
       have Ny156 := M0 hy156
       clear hy156
       replace H := Option.bind_eq_some_iff.mp H
       obtain ⟨t159, A410, H⟩ := H
       try dsimp only at H
       have A41 := M0 A410
       clear A410
       by_cases c42 : t159.size + 1 ≤ 9223372036854775807
       ·rw [if_pos c42] at H
        have c42b2 : (9223372036854775807 < t159.size + 1) = False := eq_false (Nat.not_lt.2 c42)
        obtain rfl := Option.some.inj H
        go_enter Try.func18, Try.ntmps18
        go_wp2_with (first | ((with_reducible refine gate_dst (N := 3) rfl ?_); refine box_event ?hg (N := 3) ?hd (cs := #[.int .i64 a1_0, .int .i64 a1_1, .int .i64 a1_2, .slice A1_3 l1_3.length c1_3]) (t := 28) ?hr ?_; (case hd => rfl); (case hg => rfl); (case hr => (go_simp; done)); intro gb143 hg w43 hbox hb; have BK143 := M0 hbox; replace HB := M0 (below_step HB.out hb); clear hb hbox hg; obtain ⟨_, _, _, _, _, _, _, _⟩ := cells4 BK143.out) | ((with_reducible refine gate_dst (N := 50) rfl ?_); refine Kd.R_lit (Kd.int .i64) _ 3 ?hg (N := 50) ?hd (xs := ([5, 6] : List Int)) (inner := [.int .i64 5, .int .i64 6]) (ok := fun _ => True) (okp := fun _ => True) ?hr ?hp (fun _ hk => hk) trivial (Below.refl _ _) (Nat.le_refl _) (by simp) ?_; (case hd => rfl); (case hg => rfl); (case hr => (go_simp; done)); (case hp => exact (Reps.one (show Kd.M (Kd.int .i64) _ _ _ 5 [.int .i64 5] from rfl) (Reps.one (show Kd.M (Kd.int .i64) _ _ _ 6 [.int .i64 6] from rfl) (Reps.none _ _)))); intro v157 w45 ho46 hb hg_ hnew_; clear hg_ hnew_; (rw [← Ny156.out] at ho46); have HO158 := M0 (Kd.R_lower ho46 (below_size HB.out)); replace BK143 := M0 (blk_below BK143.out hb); replace HB := M0 (below_step HB.out hb); clear hb ho46; obtain ⟨Ao47, co47, eo47⟩ := Kd.R_slice HO158.out; subst eo47) | ((with_reducible refine gate_callee (f := 39) rfl ?_); refine goesL_ (some 51) rfl rfl Try.func39 (by kernel_rfl) rfl #[.slice A0 l0.length c0, .agg #[.int .i64 a1_0, .int .i64 a1_1, .int .i64 a1_2, .slice A1_3 l1_3.length c1_3], .string (⟨#[32]⟩ : ByteArray), .slice Ao47 y156.length co47] rfl (by (simp only [List.map_toArray, List.map_cons, List.map_nil]); rfl) ?_; (with_reducible refine (ih39 k (by omega) _ _ l0 a1_0 a1_1 a1_2 _ _ l1_3 (⟨#[32]⟩ : ByteArray) _ _ y156 t159 _ ?side1 ?side2 ?side3 ?side4 ?side5 ?side6 A41.out).mono ?_); (case side1 => repeat (exact (Kd.C_below HR0.out HB.out))); (case side2 => exact HC0.out); (case side3 => repeat (exact (Kd.C_below HR1_3.out HB.out))); (case side4 => exact HC1_3.out); (case side5 => repeat (exact (Kd.R_reads' HO158.out).2.2)); (case side6 => exact (Kd.R_reads' HO158.out).2.1); rintro e w48 ⟨rfl, hb⟩; refine ⟨_, rfl, ?_⟩; clear HO158; clear BK143; replace HB := M0 (below_step HB.out hb); clear hb))
        go_ret
        exact ⟨by rfl, by with_reducible exact HB.out⟩
       ·rw [if_neg c42] at H
        exact absurd H (by simp)
      ·rw [if_neg c40] at H
       have c40b0 := bF c40
       obtain rfl := Option.some.inj H
       go_enter Try.func18, Try.ntmps18
       go_wp2_with (((with_reducible refine gate_dst (N := 3) rfl ?_); refine box_event ?hg (N := 3) ?hd (cs := #[.int .i64 a1_0, .int .i64 a1_1, .int .i64 a1_2, .slice A1_3 l1_3.length c1_3]) (t := 28) ?hr ?_; (case hd => rfl); (case hg => rfl); (case hr => (go_simp; done)); intro gb143 hg w49 hbox hb; have BK143 := M0 hbox; replace HB := M0 (below_step HB.out hb); clear hb hbox hg; obtain ⟨_, _, _, _, _, _, _, _⟩ := cells4 BK143.out))
       go_ret
       exact ⟨by rfl, by with_reducible exact HB.out⟩

theorem expr_Text.all_g : ∀ k, expr_part.S k ∧ expr_parts.S k ∧ expr_Text.S k := by
 intro k
 induction k using Nat.strongRecOn with
 | _ k ih =>
 exact ⟨expr_part.step k (fun m hm => (ih m hm).2.2) (fun m hm => (ih m hm).2.1) (fun m hm => (ih m hm).1), expr_parts.step k (fun m hm => (ih m hm).2.2) (fun m hm => (ih m hm).2.1) (fun m hm => (ih m hm).1), expr_Text.step k (fun m hm => (ih m hm).2.2) (fun m hm => (ih m hm).2.1) (fun m hm => (ih m hm).1)⟩
theorem expr_part.calls (k : Nat) : ∀ (A0 : Option Addr) (c0 : Nat) (l0 : List (S56)) (a1_0 : Int) (a1_1 : Int) (a1_2 : Int) (A1_3 : Option Addr) (c1_3 : Nat) (l1_3 : List (S28)) (A2 : Option Addr) (c2 : Nat) (l2 : List Int) (r : ByteArray) (w : World) (hr0 : Kd.C k56 w A0 l0.length l0) (hc0 : l0.length ≤ c0) (hr1_3 : Kd.C k28 w A1_3 l1_3.length l1_3) (hc1_3 : l1_3.length ≤ c1_3) (hr2 : Kd.C (Kd.int .i64) w A2 l2.length l2) (hc2 : l2.length ≤ c2) (h : expr_part.f k l0 a1_0 a1_1 a1_2 l1_3 l2 = some r),
  Calls Try.prog 56 #[.slice A0 l0.length c0, .agg #[.int .i64 a1_0, .int .i64 a1_1, .int .i64 a1_2, .slice A1_3 l1_3.length c1_3], .slice A2 l2.length c2] w fun e w' => e = .returned (.string r) ∧ Below w.heap.size w w' := (expr_Text.all_g k).1
theorem expr_parts.calls (k : Nat) : ∀ (A0 : Option Addr) (c0 : Nat) (l0 : List (S56)) (a1_0 : Int) (a1_1 : Int) (a1_2 : Int) (A1_3 : Option Addr) (c1_3 : Nat) (l1_3 : List (S28)) (a2 : ByteArray) (A3 : Option Addr) (c3 : Nat) (l3 : List Int) (r : ByteArray) (w : World) (hr0 : Kd.C k56 w A0 l0.length l0) (hc0 : l0.length ≤ c0) (hr1_3 : Kd.C k28 w A1_3 l1_3.length l1_3) (hc1_3 : l1_3.length ≤ c1_3) (hr3 : Kd.C (Kd.int .i64) w A3 l3.length l3) (hc3 : l3.length ≤ c3) (h : expr_parts.f k l0 a1_0 a1_1 a1_2 l1_3 a2 l3 = some r),
  Calls Try.prog 39 #[.slice A0 l0.length c0, .agg #[.int .i64 a1_0, .int .i64 a1_1, .int .i64 a1_2, .slice A1_3 l1_3.length c1_3], .string a2, .slice A3 l3.length c3] w fun e w' => e = .returned (.string r) ∧ Below w.heap.size w w' := (expr_Text.all_g k).2.1
theorem expr_Text.calls (k : Nat) : ∀ (A0 : Option Addr) (c0 : Nat) (l0 : List (S56)) (a1_0 : Int) (a1_1 : Int) (a1_2 : Int) (A1_3 : Option Addr) (c1_3 : Nat) (l1_3 : List (S28)) (r : ByteArray) (w : World) (hr0 : Kd.C k56 w A0 l0.length l0) (hc0 : l0.length ≤ c0) (hr1_3 : Kd.C k28 w A1_3 l1_3.length l1_3) (hc1_3 : l1_3.length ≤ c1_3) (h : expr_Text.f k l0 a1_0 a1_1 a1_2 l1_3 = some r),
  Calls Try.prog 18 #[.slice A0 l0.length c0, .agg #[.int .i64 a1_0, .int .i64 a1_1, .int .i64 a1_2, .slice A1_3 l1_3.length c1_3]] w fun e w' => e = .returned (.string r) ∧ Below w.heap.size w w' := (expr_Text.all_g k).2.2

-- NOT PRINTED: function 85 (bytealg_IndexByteString)

-- NOT PRINTED: function 77 (stringslite_IndexByte)

/-! ### strings_IndexByte: function 58 -/
def strings_IndexByte.f (a0 : ByteArray) (a1 : Int) : Option (Int) := some (Lib.indexByte a0.data.toList a1.toNat.toUInt8)
theorem strings_IndexByte.calls (a0 : ByteArray) (a1 : Int) (r : Int) (w : World) (h : strings_IndexByte.f a0 a1 = some r) :
  Calls Try.prog 58 #[.string a0, .int .u8 a1] w fun e w' => e = .returned (.int .i64 r) ∧ w = w' := by
 unfold strings_IndexByte.f at h
 obtain rfl := Option.some.inj h
 exact (Try.strings_IndexByte a0 a1 w).mono fun e w' he => ⟨he.1, he.2.symm⟩

/-! ### stringslite_HasPrefix: function 78 -/
def stringslite_HasPrefix.f (a0 : ByteArray) (a1 : ByteArray) : Option (Bool) := if (a0.size : Int) ≥ (a1.size : Int) then (if 0 ≤ (a1.size : Int) then (if (a1.size : Int) ≤ (a0.size : Int) then (some ((a0.extract 0 ((a1.size : Int) : Int).toNat).toList == a1.toList)) else (none)) else (none)) else (some false)
set_option maxHeartbeats 8000000 in
set_option maxRecDepth 100000 in
theorem stringslite_HasPrefix.calls (a0 : ByteArray) (a1 : ByteArray) (r : Bool) (w : World) (h : stringslite_HasPrefix.f a0 a1 = some r) :
  Calls Try.prog 78 #[.string a0, .string a1] w fun e w' => e = .returned (.bool r) ∧ Drawn0 w w' := by
 have H : (if (a0.size : Int) ≥ (a1.size : Int) then (if 0 ≤ (a1.size : Int) then (if (a1.size : Int) ≤ (a0.size : Int) then (some ((a0.extract 0 ((a1.size : Int) : Int).toNat).toList == a1.toList)) else (none)) else (none)) else (some false)) = some r := h
 clear h
 by_cases c3 : (a0.size : Int) ≥ (a1.size : Int)
 ·rw [if_pos c3] at H
  have c3b0 : decide ((a1.size : Int) ≤ (a0.size : Int)) = true := decide_eq_true c3
  have c3b1 : decide (a1.size ≤ a0.size) = true := decide_eq_true (Int.ofNat_le.mp c3)
  clear c3
  by_cases c4 : 0 ≤ (a1.size : Int)
  ·rw [if_pos c4] at H
   have c4b0 := eq_true c4
   have c4b1 := decide_eq_true c4
   clear c4
   by_cases c5 : (a1.size : Int) ≤ (a0.size : Int)
   ·rw [if_pos c5] at H
    have c5b0 := eq_true c5
    clear c5
    obtain rfl := Option.some.inj H
    go_enter Try.func78, Try.ntmps78
    go_wp2
    go_ret
    exact ⟨by rfl, by repeat (exact Drawn0.refl _)⟩
   ·rw [if_neg c5] at H
    exact absurd H (by simp)
  ·rw [if_neg c4] at H
   exact absurd H (by simp)
 ·rw [if_neg c3] at H
  have c3b1 : decide (a1.size ≤ a0.size) = false := decide_eq_false (fun h => c3 (Int.ofNat_le.mpr h))
  clear c3
  obtain rfl := Option.some.inj H
  go_enter Try.func78, Try.ntmps78
  go_wp2
  go_ret
  exact ⟨by rfl, by repeat (exact Drawn0.refl _)⟩

/-! ### strings_HasPrefix: function 59 -/
def strings_HasPrefix.f (a0 : ByteArray) (a1 : ByteArray) : Option (Bool) := (stringslite_HasPrefix.f a0 a1).bind fun t160 => (some t160)
set_option maxHeartbeats 8000000 in
set_option maxRecDepth 100000 in
theorem strings_HasPrefix.calls (a0 : ByteArray) (a1 : ByteArray) (r : Bool) (w : World) (h : strings_HasPrefix.f a0 a1 = some r) :
  Calls Try.prog 59 #[.string a0, .string a1] w fun e w' => e = .returned (.bool r) ∧ Drawn0 w w' := by
 have H : ((stringslite_HasPrefix.f a0 a1).bind fun t160 => (some t160)) = some r := h
 clear h
 replace H := Option.bind_eq_some_iff.mp H
 obtain ⟨t160, A30, H⟩ := H
 try dsimp only at H
 have A3 := M0 A30
 clear A30
 obtain rfl := Option.some.inj H
 go_enter Try.func59, Try.ntmps59
 go_wp2_with (((with_reducible refine gate_callee (f := 78) rfl ?_); refine goesL_ (some 7) rfl rfl Try.func78 (by kernel_rfl) rfl #[.string a0, .string a1] rfl (by (simp only [List.map_toArray, List.map_cons, List.map_nil]); rfl) ?_; (with_reducible refine (stringslite_HasPrefix.calls a0 a1 t160 _ A3.out).mono ?_); rintro e w' ⟨rfl, ⟨nd, rfl⟩⟩; refine ⟨_, rfl, ?_⟩))
 go_ret
 exact ⟨by rfl, by repeat (first | exact Drawn0.refl _ | apply Drawn0.step)⟩

/-! ### expr_letters: function 79 -/
def expr_letters.l0 : Nat → ByteArray → Int → Option (Int)
 | 0, _, _ => none
 | k + 1, x0, x3 => if x3 < (x0.size : Int) then (if 0 ≤ x3 then (if (bt x0 x3) ≥ 97 then (if (bt x0 x3) ≤ 122 then (expr_letters.l0 k x0 (wrap64 (x3 + 1))) else (some x3)) else (some x3)) else (none)) else (some x3)
def expr_letters.f (k : Nat) (a0 : ByteArray) : Option (Int) := expr_letters.l0 k a0 0
theorem expr_letters.mono_l : ∀ k, (∀ y0 y1, LeO (expr_letters.l0 k y0 y1) (expr_letters.l0 (k + 1) y0 y1))
 | 0 => fun _ _ r h => by simp [expr_letters.l0] at h
 | k + 1 => by
  have ih0 := expr_letters.mono_l k
  ·intro y0 y1
   unfold expr_letters.l0
   repeat' first
   | (with_reducible exact ih0 _ _)
   | (with_reducible exact LeO.refl _)
   | (with_reducible refine LeO.ite ?_ ?_)
theorem expr_letters.mono : ∀ a0 k, LeO (expr_letters.f k a0) (expr_letters.f (k + 1) a0) := by
 intro a0 k
 have ih0 := expr_letters.mono_l k
 unfold expr_letters.f
 repeat' first
   | (with_reducible exact ih0 _ _)
set_option maxHeartbeats 8000000 in
set_option maxRecDepth 100000 in
theorem expr_letters.calls (k : Nat) (a0 : ByteArray) (r : Int) (w : World) (h : expr_letters.f k a0 = some r) :
  Calls Try.prog 79 #[.string a0] w fun e w' => e = .returned (.int .i64 r) ∧ Drawn0 w w' := by
 have H : (expr_letters.l0 k a0 0) = some r := h
 clear h
 have H' := M0 H
 clear H
 go_enter Try.func79, Try.ntmps79
 go_wp2
 go_loopg [3] k (fun kq v3 w' => ∃ (x3_1 : Int), v3 = .int .i64 x3_1 ∧ Aside0 (expr_letters.l0 kq a0 x3_1 = some r) ∧ Aside0 (kq ≤ k) ∧ Drawn0 w w')
 case atStart => exact ⟨(0), (by rfl), H', ⟨Nat.le_refl _⟩, by repeat (exact Drawn0.refl _)⟩
 case round =>
  clear H'
  obtain ⟨x3_1, rfl, HA, HK1, ⟨m1, rfl⟩⟩ := hrel
  cases gk with
  | zero => exact absurd HA.out (by simp [expr_letters.l0])
  | succ k1 =>
   have H := HA.out
   clear HA
   simp only [expr_letters.l0] at H
   by_cases c2 : x3_1 < (a0.size : Int)
   ·rw [if_pos c2] at H
    have c2b0 := decide_eq_true c2
    clear c2
    by_cases c3 : 0 ≤ x3_1
    ·rw [if_pos c3] at H
     have c3b0 := decide_eq_true c3
     clear c3
     by_cases c5 : (bt a0 x3_1) ≥ 97
     ·rw [if_pos c5] at H
      have c5b0 : decide (97 ≤ (bt a0 x3_1)) = true := decide_eq_true c5
      clear c5
      by_cases c7 : (bt a0 x3_1) ≤ 122
      ·rw [if_pos c7] at H
       have c7b0 := decide_eq_true c7
       clear c7
       have H' := M0 H
       clear H
       have p4 : 0 ≤ (x3_1 : Int) := of_decide_eq_true (by (with_reducible assumption))
       have q4 : x3_1 < (a0.size : Int) := of_decide_eq_true (by (with_reducible assumption))
       have hx4 := bt_at a0 x3_1
       replace p4 := eq_true p4
       replace q4 := eq_true q4
       have p6 : 0 ≤ (x3_1 : Int) := of_decide_eq_true (by (with_reducible assumption))
       have q6 : x3_1 < (a0.size : Int) := of_decide_eq_true (by (with_reducible assumption))
       clear p6
       clear q6
       go_wp2
       go_roundg k1
       case measure => have := HK1.out; omega
       case rel => exact ⟨(wrap64 (x3_1 + 1)), (by rfl), H', ⟨by have := HK1.out; omega⟩, by repeat (first | exact Drawn0.refl _ | apply Drawn0.step)⟩
      ·rw [if_neg c7] at H
       have c7b0 := decide_eq_false c7
       clear c7
       obtain rfl := Option.some.inj H
       have p4 : 0 ≤ (x3_1 : Int) := of_decide_eq_true (by (with_reducible assumption))
       have q4 : x3_1 < (a0.size : Int) := of_decide_eq_true (by (with_reducible assumption))
       have hx4 := bt_at a0 x3_1
       replace p4 := eq_true p4
       replace q4 := eq_true q4
       have p6 : 0 ≤ (x3_1 : Int) := of_decide_eq_true (by (with_reducible assumption))
       have q6 : x3_1 < (a0.size : Int) := of_decide_eq_true (by (with_reducible assumption))
       clear p6
       clear q6
       go_wp2
       go_ret
       exact ⟨by rfl, by repeat (first | exact Drawn0.refl _ | apply Drawn0.step)⟩
     ·rw [if_neg c5] at H
      have c5b0 : decide (97 ≤ (bt a0 x3_1)) = false := decide_eq_false c5
      clear c5
      obtain rfl := Option.some.inj H
      have p4 : 0 ≤ (x3_1 : Int) := of_decide_eq_true (by (with_reducible assumption))
      have q4 : x3_1 < (a0.size : Int) := of_decide_eq_true (by (with_reducible assumption))
      have hx4 := bt_at a0 x3_1
      replace p4 := eq_true p4
      replace q4 := eq_true q4
      go_wp2
      go_ret
      exact ⟨by rfl, by repeat (first | exact Drawn0.refl _ | apply Drawn0.step)⟩
    ·rw [if_neg c3] at H
     exact absurd H (by simp)
   ·rw [if_neg c2] at H
    have c2b0 := decide_eq_false c2
    clear c2
    obtain rfl := Option.some.inj H
    go_wp2
    go_ret
    exact ⟨by rfl, by repeat (first | exact Drawn0.refl _ | apply Drawn0.step)⟩

/-! ### expr_named: function 60 -/
def expr_named.j0 : Nat → ByteArray → ByteArray → Int → Bool → Option (ByteArray × Int × Int)
 | 0, _, _, _, _ => none
 | k + 1, x0, x1, x7, x15 => if x15 = true then (some ((⟨#[]⟩ : ByteArray), 0, 0)) else (if x1.toList = ([] : List UInt8) then (if 0 ≤ x7 then (if x7 ≤ (x0.size : Int) then (some (x0.extract 0 (x7 : Int).toNat, 32, x7)) else (none)) else (none)) else (if x7 = (x0.size : Int) then (some ((⟨#[]⟩ : ByteArray), 0, 0)) else (if 0 ≤ x7 then (if x7 < (x0.size : Int) then ((strings_IndexByte.f x1 (bt x0 x7)).bind fun t162 => (if t162 < 0 then (some ((⟨#[]⟩ : ByteArray), 0, 0)) else (if x7 ≤ (x0.size : Int) then (some (x0.extract 0 (x7 : Int).toNat, bt x0 x7, wrap64 (x7 + 1))) else (none)))) else (none)) else (none))))
def expr_named.f (k : Nat) (a0 : ByteArray) (a1 : ByteArray) : Option (ByteArray × Int × Int) := (expr_letters.f k a0).bind fun t161 => (if t161 < 1 then (expr_named.j0 k a0 a1 t161 true) else (expr_named.j0 k a0 a1 t161 (decide (t161 > 8))))
theorem expr_named.mono_l : ∀ k, (∀ y0 y1 y2 y3, LeO (expr_named.j0 k y0 y1 y2 y3) (expr_named.j0 (k + 1) y0 y1 y2 y3))
 | 0 => fun _ _ _ _ r h => by simp [expr_named.j0] at h
 | k + 1 => by
  ·intro y0 y1 y2 y3
   unfold expr_named.j0
   repeat' first
   | (with_reducible exact LeO.refl _)
theorem expr_named.mono : ∀ a0 a1 k, LeO (expr_named.f k a0 a1) (expr_named.f (k + 1) a0 a1) := by
 intro a0 a1 k
 have ih0 := expr_named.mono_l k
 unfold expr_named.f
 repeat' first
   | (with_reducible exact ih0 _ _ _ _)
   | (with_reducible exact expr_letters.mono _ _)
   | (with_reducible refine LeO.ite ?_ ?_)
   | (with_reducible refine LeO.bind ?_ (fun _ => ?_))
set_option maxHeartbeats 8000000 in
set_option maxRecDepth 100000 in
theorem expr_named.calls (k : Nat) (a0 : ByteArray) (a1 : ByteArray) (r1 : ByteArray) (r2 : Int) (r3 : Int) (w : World) (h : expr_named.f k a0 a1 = some (r1, r2, r3)) :
  Calls Try.prog 60 #[.string a0, .string a1] w fun e w' => e = .returned (.tuple #[.string r1, .int .u8 r2, .int .i64 r3]) ∧ Drawn0 w w' := by
 have H : ((expr_letters.f k a0).bind fun t161 => (if t161 < 1 then (expr_named.j0 k a0 a1 t161 true) else (expr_named.j0 k a0 a1 t161 (decide (t161 > 8))))) = some (r1, r2, r3) := h
 clear h
 replace H := Option.bind_eq_some_iff.mp H
 obtain ⟨t161, A30, H⟩ := H
 try dsimp only at H
 have A3 := M0 A30
 clear A30
 have HC4 := M0 H
 clear H
 go_enter Try.func60, Try.ntmps60
 go_upto_region 2 with ((go_at_call 79; (with_reducible refine (expr_letters.calls k a0 t161 _ A3.out).mono ?_); rintro e w' ⟨rfl, ⟨nd, rfl⟩⟩))
 repeat (go_quiet (fail); go_upto_region 2 with (fail))
 (skip)
 go_cut [15] (fun v15 wc => ∃ (kq : Nat) (x15_3 : Bool), v15 = .bool x15_3 ∧ Aside0 (expr_named.j0 kq a0 a1 t161 x15_3 = some (r1, r2, r3)) ∧ Aside0 (kq ≤ k) ∧ Drawn0 w wc)
 case first =>
  have H := HC4.out
  clear HC4
  by_cases c5 : t161 < 1
  ·rw [if_pos c5] at H
   have c5b0 := decide_eq_true c5
   clear c5
   (skip)
   have H' := M0 H
   clear H
   go_wp2
   repeat (go_quiet (fail); try go_wp2)
   go_meet
   case rel => exact ⟨_, (true), (by rfl), H', ⟨by omega⟩, by repeat (first | exact Drawn0.refl _ | apply Drawn0.step)⟩
  ·rw [if_neg c5] at H
   have c5b0 := decide_eq_false c5
   clear c5
   (skip)
   have H' := M0 H
   clear H
   go_wp2
   repeat (go_quiet (fail); try go_wp2)
   go_meet
   case rel => exact ⟨_, (decide (t161 > 8)), (by rfl), H', ⟨by omega⟩, by repeat (first | exact Drawn0.refl _ | apply Drawn0.step)⟩
 case rest =>
  clear HC4
  obtain ⟨kq, x15_3, rfl, HA, HJ3, ⟨mc3, rfl⟩⟩ := hcut
  cases kq with
  | zero => exact absurd HA.out (by simp [expr_named.j0])
  | succ kj3 =>
   have H := HA.out
   clear HA
   simp only [expr_named.j0] at H
   by_cases c6 : x15_3 = true
   ·subst c6
    rw [if_pos rfl] at H
    simp only [Option.some.injEq, Prod.mk.injEq] at H
    obtain ⟨rfl, rfl, rfl⟩ := H
    go_wp2
    repeat (go_quiet (fail); try go_wp2)
    go_ret3
    exact ⟨by rfl, by repeat (first | exact Drawn0.refl _ | apply Drawn0.step)⟩
   ·replace c6 := Bool.eq_false_iff.mpr c6
    subst c6
    rw [if_neg (show ¬ (false = true) by decide)] at H
    by_cases c7 : a1.toList = ([] : List UInt8)
    ·rw [if_pos c7] at H
     have c7b0 := bT c7
     have c7b1 := nF c7
     clear c7
     by_cases c8 : 0 ≤ t161
     ·rw [if_pos c8] at H
      have c8b0 := eq_true c8
      have c8b1 := decide_eq_true c8
      clear c8
      by_cases c9 : t161 ≤ (a0.size : Int)
      ·rw [if_pos c9] at H
       have c9b0 := eq_true c9
       clear c9
       simp only [Option.some.injEq, Prod.mk.injEq] at H
       obtain ⟨rfl, rfl, rfl⟩ := H
       go_wp2
       repeat (go_quiet (fail); try go_wp2)
       go_ret3
       exact ⟨by rfl, by repeat (first | exact Drawn0.refl _ | apply Drawn0.step)⟩
      ·rw [if_neg c9] at H
       exact absurd H (by simp)
     ·rw [if_neg c8] at H
      exact absurd H (by simp)
    ·rw [if_neg c7] at H
     have c7b0 := bF c7
     have c7b1 := nT c7
     by_cases c10 : t161 = (a0.size : Int)
     ·rw [if_pos c10] at H
      have c10b0 := bT c10
      clear c10
      simp only [Option.some.injEq, Prod.mk.injEq] at H
      obtain ⟨rfl, rfl, rfl⟩ := H
      go_wp2
      repeat (go_quiet (fail); try go_wp2)
      go_ret3
      exact ⟨by rfl, by repeat (first | exact Drawn0.refl _ | apply Drawn0.step)⟩
     ·rw [if_neg c10] at H
      have c10b0 := bF c10
      have c10b1 := nT c10
      by_cases c11 : 0 ≤ t161
      ·rw [if_pos c11] at H
       have c11b0 := decide_eq_true c11
       clear c11
       by_cases c12 : t161 < (a0.size : Int)
       ·rw [if_pos c12] at H
        have c12b0 := decide_eq_true c12
        clear c12
        replace H := Option.bind_eq_some_iff.mp H
        obtain ⟨t162, A140, H⟩ := H
        try dsimp only at H
        have A14 := M0 A140
        clear A140
        by_cases c15 : t162 < 0
        ·rw [if_pos c15] at H
         have c15b0 := decide_eq_true c15
         clear c15
         simp only [Option.some.injEq, Prod.mk.injEq] at H
         obtain ⟨rfl, rfl, rfl⟩ := H
         have p13 : 0 ≤ (t161 : Int) := of_decide_eq_true (by (with_reducible assumption))
         have q13 : t161 < (a0.size : Int) := of_decide_eq_true (by (with_reducible assumption))
         have hx13 := bt_at a0 t161
         replace p13 := eq_true p13
         replace q13 := eq_true q13
         go_wp2_with ((go_at_call 58; (with_reducible refine (strings_IndexByte.calls a1 (bt a0 t161) t162 _ A14.out).mono ?_); rintro e w' ⟨rfl, rfl⟩))
         repeat (go_quiet (fail); try go_wp2_with (fail))
         go_ret3
         exact ⟨by rfl, by repeat (first | exact Drawn0.refl _ | apply Drawn0.step)⟩
        ·rw [if_neg c15] at H
         have c15b0 := decide_eq_false c15
         clear c15
         have c16b0 := eq_true (of_decide_eq_true (by (with_reducible assumption)) : 0 ≤ t161)
         by_cases c17 : t161 ≤ (a0.size : Int)
         ·rw [if_pos c17] at H
          have c17b0 := eq_true c17
          clear c17
          simp only [Option.some.injEq, Prod.mk.injEq] at H
          obtain ⟨rfl, rfl, rfl⟩ := H
          have p13 : 0 ≤ (t161 : Int) := of_decide_eq_true (by (with_reducible assumption))
          have q13 : t161 < (a0.size : Int) := of_decide_eq_true (by (with_reducible assumption))
          have hx13 := bt_at a0 t161
          clear p13
          replace q13 := eq_true q13
          go_wp2_with ((go_at_call 58; (with_reducible refine (strings_IndexByte.calls a1 (bt a0 t161) t162 _ A14.out).mono ?_); rintro e w' ⟨rfl, rfl⟩; have p18 : 0 ≤ (t161 : Int) := of_decide_eq_true (by (with_reducible assumption)); have q18 : t161 < (a0.size : Int) := of_decide_eq_true (by (with_reducible assumption)); clear p18; clear q18))
          repeat (go_quiet (fail); try go_wp2_with (fail))
          go_ret3
          exact ⟨by rfl, by repeat (first | exact Drawn0.refl _ | apply Drawn0.step)⟩
         ·rw [if_neg c17] at H
          exact absurd H (by simp)
       ·rw [if_neg c12] at H
        exact absurd H (by simp)
      ·rw [if_neg c11] at H
       exact absurd H (by simp)

/-- A state of type 75 at block g of W; what its slices lead to came in by w0. -/
def IsS75 (w0 W : World) (g : Nat) (f0 : List (S56)) (f1 : ByteArray) (f2 : Int) (f3 : Int) (f4 : Int) (f5 : ByteArray) (f6 : Int) (f7 : Int) (f8 : Int) (f9 : Int) (f10 : Int) : Prop := ∃ A0 c0, W.heap[g]? = some (.cells #[.slice A0 f0.length c0, .string f1, .int .i64 f2, .int .i64 f3, .int .i64 f4, .string f5, .int .i64 f6, .int .u8 f7, .int .i64 f8, .int .i64 f9, .int .i64 f10] 75 (0, 0)) ∧ w0.heap.size ≤ g ∧ (Kd.C k56 w0 A0 f0.length f0) ∧ f0.length ≤ c0
theorem IsS75.grown {w0 W : World} {g : Nat} {f0 : List (S56)} {f1 : ByteArray} {f2 : Int} {f3 : Int} {f4 : Int} {f5 : ByteArray} {f6 : Int} {f7 : Int} {f8 : Int} {f9 : Int} {f10 : Int} {W1 : World} {row : Option Nat} (h : IsS75 w0 W g f0 f1 f2 f3 f4 f5 f6 f7 f8 f9 f10) (hw : W.grownBy W1 row) (hne : some g ≠ row) : IsS75 w0 W1 g f0 f1 f2 f3 f4 f5 f6 f7 f8 f9 f10 := by
 obtain ⟨A0, c0, hb, hg, hr0, hd0⟩ := h
 exact ⟨A0, c0, blk_grown hb hw hne, hg, hr0, hd0⟩
theorem IsS75.own_neN {w0 W : World} {g : Nat} {f0 : List (S56)} {f1 : ByteArray} {f2 : Int} {f3 : Int} {f4 : Int} {f5 : ByteArray} {f6 : Int} {f7 : Int} {f8 : Int} {f9 : Int} {f10 : Int} {α : Type} {d : Kd α} {e : Nat} {base : Nat} {ok : Nat → Prop} {v : Value} {xs : List α} (h : IsS75 w0 W g f0 f1 f2 f3 f4 f5 f6 f7 f8 f9 f10) (ho : Kd.N d e W base ok v xs) (ht : e ≠ 75) : some g ≠ v.ownBlock := by
 obtain ⟨A0, c0, hb, hg, hr0, hd0⟩ := h
 exact Kd.N_ne ho hb ht
theorem IsS75.fresh {w0 W : World} {g : Nat} {f0 : List (S56)} {f1 : ByteArray} {f2 : Int} {f3 : Int} {f4 : Int} {f5 : ByteArray} {f6 : Int} {f7 : Int} {f8 : Int} {f9 : Int} {f10 : Int} (h : IsS75 w0 W g f0 f1 f2 f3 f4 f5 f6 f7 f8 f9 f10) : ∀ k, W.heap.size ≤ k → k ≠ g := by
 obtain ⟨A0, c0, hb, hg, hr0, hd0⟩ := h
 exact Kd.freshB hb
theorem IsS75.kept {w0 W : World} {g : Nat} {f0 : List (S56)} {f1 : ByteArray} {f2 : Int} {f3 : Int} {f4 : Int} {f5 : ByteArray} {f6 : Int} {f7 : Int} {f8 : Int} {f9 : Int} {f10 : Int} {W1 : World} {S : Nat → Prop} (h : IsS75 w0 W g f0 f1 f2 f3 f4 f5 f6 f7 f8 f9 f10) (hk : Kept W W1 S) (hne : ¬ S g) : IsS75 w0 W1 g f0 f1 f2 f3 f4 f5 f6 f7 f8 f9 f10 := by
 obtain ⟨A0, c0, hb, hg, hr0, hd0⟩ := h
 exact ⟨A0, c0, blk_kept hb hk hne, hg, hr0, hd0⟩
theorem IsS75.below {w0 W : World} {g : Nat} {f0 : List (S56)} {f1 : ByteArray} {f2 : Int} {f3 : Int} {f4 : Int} {f5 : ByteArray} {f6 : Int} {f7 : Int} {f8 : Int} {f9 : Int} {f10 : Int} {W1 : World} (h : IsS75 w0 W g f0 f1 f2 f3 f4 f5 f6 f7 f8 f9 f10) (hw : Below W.heap.size W W1) : IsS75 w0 W1 g f0 f1 f2 f3 f4 f5 f6 f7 f8 f9 f10 := h.grown (grown_of_below hw none) (by simp)
theorem IsS75.alloc {w0 W : World} {g : Nat} {f0 : List (S56)} {f1 : ByteArray} {f2 : Int} {f3 : Int} {f4 : Int} {f5 : ByteArray} {f6 : Int} {f7 : Int} {f8 : Int} {f9 : Int} {f10 : Int} (h : IsS75 w0 W g f0 f1 f2 f3 f4 f5 f6 f7 f8 f9 f10) (o : Obj) : IsS75 w0 (W.alloc o) g f0 f1 f2 f3 f4 f5 f6 f7 f8 f9 f10 := h.below (below_alloc (Below.refl _ _) o)
theorem IsS75.drewN {w0 W : World} {g : Nat} {f0 : List (S56)} {f1 : ByteArray} {f2 : Int} {f3 : Int} {f4 : Int} {f5 : ByteArray} {f6 : Int} {f7 : Int} {f8 : Int} {f9 : Int} {f10 : Int} (h : IsS75 w0 W g f0 f1 f2 f3 f4 f5 f6 f7 f8 f9 f10) (m : Nat) : IsS75 w0 (W.drewN m) g f0 f1 f2 f3 f4 f5 f6 f7 f8 f9 f10 := h
theorem IsS75.drew {w0 W : World} {g : Nat} {f0 : List (S56)} {f1 : ByteArray} {f2 : Int} {f3 : Int} {f4 : Int} {f5 : ByteArray} {f6 : Int} {f7 : Int} {f8 : Int} {f9 : Int} {f10 : Int} (h : IsS75 w0 W g f0 f1 f2 f3 f4 f5 f6 f7 f8 f9 f10) : IsS75 w0 W.drew g f0 f1 f2 f3 f4 f5 f6 f7 f8 f9 f10 := h
theorem IsS75.at_ {w0 W : World} {g : Nat} {f0 : List (S56)} {f1 : ByteArray} {f2 : Int} {f3 : Int} {f4 : Int} {f5 : ByteArray} {f6 : Int} {f7 : Int} {f8 : Int} {f9 : Int} {f10 : Int} {w' : World} {m : Nat} (hq : W.drewN m = w') (h : IsS75 w0 W g f0 f1 f2 f3 f4 f5 f6 f7 f8 f9 f10) : IsS75 w0 w' g f0 f1 f2 f3 f4 f5 f6 f7 f8 f9 f10 := by subst hq; exact IsS75.drewN h m
theorem IsS75.apart {w0 W : World} {g : Nat} {f0 : List (S56)} {f1 : ByteArray} {f2 : Int} {f3 : Int} {f4 : Int} {f5 : ByteArray} {f6 : Int} {f7 : Int} {f8 : Int} {f9 : Int} {f10 : Int} {α : Type} {d : Kd α} {e : Nat} {base : Nat} {ok : Nat → Prop} {v : Value} {xs : List α} (h : IsS75 w0 W g f0 f1 f2 f3 f4 f5 f6 f7 f8 f9 f10) (ho : d.R e W base ok v xs) (ht : ∀ q, q ∈ e :: d.E → q ≠ 75) : d.R e W base (fun k => ok k ∧ k ≠ g) v xs := by
 obtain ⟨A0, c0, hb, hg, hr0, hd0⟩ := h
 exact Kd.R_types ho hb ht
theorem IsS75.own_ne {w0 W : World} {g : Nat} {f0 : List (S56)} {f1 : ByteArray} {f2 : Int} {f3 : Int} {f4 : Int} {f5 : ByteArray} {f6 : Int} {f7 : Int} {f8 : Int} {f9 : Int} {f10 : Int} {α : Type} {d : Kd α} {e : Nat} {base : Nat} {ok : Nat → Prop} {v : Value} {xs : List α} (h : IsS75 w0 W g f0 f1 f2 f3 f4 f5 f6 f7 f8 f9 f10) (ho : d.R e W base ok v xs) (ht : e ≠ 75) : some g ≠ v.ownBlock := by
 obtain ⟨A0, c0, hb, hg, hr0, hd0⟩ := h
 exact Kd.R_ne ho hb ht
theorem IsS75.apartQ {w0 W : World} {g : Nat} {f0 : List (S56)} {f1 : ByteArray} {f2 : Int} {f3 : Int} {f4 : Int} {f5 : ByteArray} {f6 : Int} {f7 : Int} {f8 : Int} {f9 : Int} {f10 : Int} {α : Type} {d : Kd α} {e : Nat} {base : Nat} {ok : Nat → Prop} {v : Value} {xs : List α} (h : IsS75 w0 W g f0 f1 f2 f3 f4 f5 f6 f7 f8 f9 f10) (ho : d.Q e W base ok v xs) (ht : ∀ q, q ∈ e :: d.E → q ≠ 75) : d.Q e W base (fun k => ok k ∧ k ≠ g) v xs := by
 obtain ⟨A0, c0, hb, hg, hr0, hd0⟩ := h
 exact Kd.Q_types ho hb ht
theorem IsS75.own_neQ {w0 W : World} {g : Nat} {f0 : List (S56)} {f1 : ByteArray} {f2 : Int} {f3 : Int} {f4 : Int} {f5 : ByteArray} {f6 : Int} {f7 : Int} {f8 : Int} {f9 : Int} {f10 : Int} {α : Type} {d : Kd α} {e : Nat} {base : Nat} {ok : Nat → Prop} {v : Value} {xs : List α} (h : IsS75 w0 W g f0 f1 f2 f3 f4 f5 f6 f7 f8 f9 f10) (ho : d.Q e W base ok v xs) (ht : e ≠ 75) : some g ≠ v.ownBlock := by
 obtain ⟨A0, c0, hb, hg, hr0, hd0⟩ := h
 exact Kd.Q_ne ho hb ht
theorem IsS75.apartS {w0 W : World} {g : Nat} {f0 : List (S56)} {f1 : ByteArray} {f2 : Int} {f3 : Int} {f4 : Int} {f5 : ByteArray} {f6 : Int} {f7 : Int} {f8 : Int} {f9 : Int} {f10 : Int} {α : Type} {d : Kd α} {e : Nat} {base : Nat} {ok : Nat → Prop} {v : Value} {xs : List α} (h : IsS75 w0 W g f0 f1 f2 f3 f4 f5 f6 f7 f8 f9 f10) (ho : d.S e W base ok v xs) (ht : ∀ q, q ∈ e :: d.E → q ≠ 75) : d.S e W base (fun k => ok k ∧ k ≠ g) v xs := by
 obtain ⟨A0, c0, hb, hg, hr0, hd0⟩ := h
 exact Kd.S_types ho hb ht
theorem IsS75.own_neS {w0 W : World} {g : Nat} {f0 : List (S56)} {f1 : ByteArray} {f2 : Int} {f3 : Int} {f4 : Int} {f5 : ByteArray} {f6 : Int} {f7 : Int} {f8 : Int} {f9 : Int} {f10 : Int} {α : Type} {d : Kd α} {e : Nat} {base : Nat} {ok : Nat → Prop} {v : Value} {xs : List α} (h : IsS75 w0 W g f0 f1 f2 f3 f4 f5 f6 f7 f8 f9 f10) (ho : d.S e W base ok v xs) (ht : e ≠ 75) : some g ≠ v.ownBlock := by
 obtain ⟨A0, c0, hb, hg, hr0, hd0⟩ := h
 exact Kd.S_ne ho hb ht
theorem IsS75.lt {w0 W : World} {g : Nat} {f0 : List (S56)} {f1 : ByteArray} {f2 : Int} {f3 : Int} {f4 : Int} {f5 : ByteArray} {f6 : Int} {f7 : Int} {f8 : Int} {f9 : Int} {f10 : Int} (h : IsS75 w0 W g f0 f1 f2 f3 f4 f5 f6 f7 f8 f9 f10) : g < W.heap.size := by
 obtain ⟨A0, c0, hb, hg, hr0, hd0⟩ := h
 exact blk_lt hb
theorem IsS75.ge {w0 W : World} {g : Nat} {f0 : List (S56)} {f1 : ByteArray} {f2 : Int} {f3 : Int} {f4 : Int} {f5 : ByteArray} {f6 : Int} {f7 : Int} {f8 : Int} {f9 : Int} {f10 : Int} (h : IsS75 w0 W g f0 f1 f2 f3 f4 f5 f6 f7 f8 f9 f10) : w0.heap.size ≤ g := by
 obtain ⟨A0, c0, hb, hg, hr0, hd0⟩ := h
 exact hg
theorem IsS75.ne_blk {w0 W : World} {g : Nat} {f0 : List (S56)} {f1 : ByteArray} {f2 : Int} {f3 : Int} {f4 : Int} {f5 : ByteArray} {f6 : Int} {f7 : Int} {f8 : Int} {f9 : Int} {f10 : Int} {a : Nat} {cs : Array Value} {t : TypeId} {fr : Nat × Nat} (h : IsS75 w0 W g f0 f1 f2 f3 f4 f5 f6 f7 f8 f9 f10) (hb2 : W.heap[a]? = some (.cells cs t fr)) (ht : t ≠ 75) : g ≠ a := by
 obtain ⟨A0, c0, hb, hg, hr0, hd0⟩ := h
 rintro rfl
 rw [hb] at hb2
 injection hb2 with hb2
 injection hb2 with _ ht2
 exact ht ht2.symm
theorem IsS75.far {w0 W : World} {g : Nat} {f0 : List (S56)} {f1 : ByteArray} {f2 : Int} {f3 : Int} {f4 : Int} {f5 : ByteArray} {f6 : Int} {f7 : Int} {f8 : Int} {f9 : Int} {f10 : Int} {p : Addr} (h : IsS75 w0 W g f0 f1 f2 f3 f4 f5 f6 f7 f8 f9 f10) (hne : g ≠ p.block) (u : Value) : IsS75 w0 (W.setCell p u) g f0 f1 f2 f3 f4 f5 f6 f7 f8 f9 f10 := by
 obtain ⟨A0, c0, hb, hg, hr0, hd0⟩ := h
 exact ⟨A0, c0, blk_far hb hne u, hg, hr0, hd0⟩
theorem IsS75.far_ {w0 W : World} {g : Nat} {f0 : List (S56)} {f1 : ByteArray} {f2 : Int} {f3 : Int} {f4 : Int} {f5 : ByteArray} {f6 : Int} {f7 : Int} {f8 : Int} {f9 : Int} {f10 : Int} {g2 o2 : Nat} {u : Value} (h : IsS75 w0 W g f0 f1 f2 f3 f4 f5 f6 f7 f8 f9 f10) (hne : g ≠ g2) : IsS75 w0 (W.setCell ⟨g2, o2, none⟩ u) g f0 f1 f2 f3 f4 f5 f6 f7 f8 f9 f10 := IsS75.far (p := ⟨g2, o2, none⟩) h hne u
theorem IsS75.set_2 {w0 W : World} {g : Nat} {f0 : List (S56)} {f1 : ByteArray} {f2 : Int} {f3 : Int} {f4 : Int} {f5 : ByteArray} {f6 : Int} {f7 : Int} {f8 : Int} {f9 : Int} {f10 : Int} (h : IsS75 w0 W g f0 f1 f2 f3 f4 f5 f6 f7 f8 f9 f10) (x : Int) : IsS75 w0 (W.setCell ⟨g, 2, none⟩ (.int .i64 x)) g f0 f1 x f3 f4 f5 f6 f7 f8 f9 f10 := by
 obtain ⟨A0, c0, hb, hg, hr0, hd0⟩ := h
 exact ⟨A0, c0, by simpa using blk_set hb 2 (.int .i64 x), hg, hr0, hd0⟩
theorem IsS75.set_3 {w0 W : World} {g : Nat} {f0 : List (S56)} {f1 : ByteArray} {f2 : Int} {f3 : Int} {f4 : Int} {f5 : ByteArray} {f6 : Int} {f7 : Int} {f8 : Int} {f9 : Int} {f10 : Int} (h : IsS75 w0 W g f0 f1 f2 f3 f4 f5 f6 f7 f8 f9 f10) (x : Int) : IsS75 w0 (W.setCell ⟨g, 3, none⟩ (.int .i64 x)) g f0 f1 f2 x f4 f5 f6 f7 f8 f9 f10 := by
 obtain ⟨A0, c0, hb, hg, hr0, hd0⟩ := h
 exact ⟨A0, c0, by simpa using blk_set hb 3 (.int .i64 x), hg, hr0, hd0⟩
theorem IsS75.set_4 {w0 W : World} {g : Nat} {f0 : List (S56)} {f1 : ByteArray} {f2 : Int} {f3 : Int} {f4 : Int} {f5 : ByteArray} {f6 : Int} {f7 : Int} {f8 : Int} {f9 : Int} {f10 : Int} (h : IsS75 w0 W g f0 f1 f2 f3 f4 f5 f6 f7 f8 f9 f10) (x : Int) : IsS75 w0 (W.setCell ⟨g, 4, none⟩ (.int .i64 x)) g f0 f1 f2 f3 x f5 f6 f7 f8 f9 f10 := by
 obtain ⟨A0, c0, hb, hg, hr0, hd0⟩ := h
 exact ⟨A0, c0, by simpa using blk_set hb 4 (.int .i64 x), hg, hr0, hd0⟩
theorem IsS75.set_5 {w0 W : World} {g : Nat} {f0 : List (S56)} {f1 : ByteArray} {f2 : Int} {f3 : Int} {f4 : Int} {f5 : ByteArray} {f6 : Int} {f7 : Int} {f8 : Int} {f9 : Int} {f10 : Int} (h : IsS75 w0 W g f0 f1 f2 f3 f4 f5 f6 f7 f8 f9 f10) (x : ByteArray) : IsS75 w0 (W.setCell ⟨g, 5, none⟩ (.string x)) g f0 f1 f2 f3 f4 x f6 f7 f8 f9 f10 := by
 obtain ⟨A0, c0, hb, hg, hr0, hd0⟩ := h
 exact ⟨A0, c0, by simpa using blk_set hb 5 (.string x), hg, hr0, hd0⟩
theorem IsS75.set_6 {w0 W : World} {g : Nat} {f0 : List (S56)} {f1 : ByteArray} {f2 : Int} {f3 : Int} {f4 : Int} {f5 : ByteArray} {f6 : Int} {f7 : Int} {f8 : Int} {f9 : Int} {f10 : Int} (h : IsS75 w0 W g f0 f1 f2 f3 f4 f5 f6 f7 f8 f9 f10) (x : Int) : IsS75 w0 (W.setCell ⟨g, 6, none⟩ (.int .i64 x)) g f0 f1 f2 f3 f4 f5 x f7 f8 f9 f10 := by
 obtain ⟨A0, c0, hb, hg, hr0, hd0⟩ := h
 exact ⟨A0, c0, by simpa using blk_set hb 6 (.int .i64 x), hg, hr0, hd0⟩
theorem IsS75.set_7 {w0 W : World} {g : Nat} {f0 : List (S56)} {f1 : ByteArray} {f2 : Int} {f3 : Int} {f4 : Int} {f5 : ByteArray} {f6 : Int} {f7 : Int} {f8 : Int} {f9 : Int} {f10 : Int} (h : IsS75 w0 W g f0 f1 f2 f3 f4 f5 f6 f7 f8 f9 f10) (x : Int) : IsS75 w0 (W.setCell ⟨g, 7, none⟩ (.int .u8 x)) g f0 f1 f2 f3 f4 f5 f6 x f8 f9 f10 := by
 obtain ⟨A0, c0, hb, hg, hr0, hd0⟩ := h
 exact ⟨A0, c0, by simpa using blk_set hb 7 (.int .u8 x), hg, hr0, hd0⟩
theorem IsS75.set_8 {w0 W : World} {g : Nat} {f0 : List (S56)} {f1 : ByteArray} {f2 : Int} {f3 : Int} {f4 : Int} {f5 : ByteArray} {f6 : Int} {f7 : Int} {f8 : Int} {f9 : Int} {f10 : Int} (h : IsS75 w0 W g f0 f1 f2 f3 f4 f5 f6 f7 f8 f9 f10) (x : Int) : IsS75 w0 (W.setCell ⟨g, 8, none⟩ (.int .i64 x)) g f0 f1 f2 f3 f4 f5 f6 f7 x f9 f10 := by
 obtain ⟨A0, c0, hb, hg, hr0, hd0⟩ := h
 exact ⟨A0, c0, by simpa using blk_set hb 8 (.int .i64 x), hg, hr0, hd0⟩
theorem IsS75.set_9 {w0 W : World} {g : Nat} {f0 : List (S56)} {f1 : ByteArray} {f2 : Int} {f3 : Int} {f4 : Int} {f5 : ByteArray} {f6 : Int} {f7 : Int} {f8 : Int} {f9 : Int} {f10 : Int} (h : IsS75 w0 W g f0 f1 f2 f3 f4 f5 f6 f7 f8 f9 f10) (x : Int) : IsS75 w0 (W.setCell ⟨g, 9, none⟩ (.int .i64 x)) g f0 f1 f2 f3 f4 f5 f6 f7 f8 x f10 := by
 obtain ⟨A0, c0, hb, hg, hr0, hd0⟩ := h
 exact ⟨A0, c0, by simpa using blk_set hb 9 (.int .i64 x), hg, hr0, hd0⟩
theorem IsS75.set_10 {w0 W : World} {g : Nat} {f0 : List (S56)} {f1 : ByteArray} {f2 : Int} {f3 : Int} {f4 : Int} {f5 : ByteArray} {f6 : Int} {f7 : Int} {f8 : Int} {f9 : Int} {f10 : Int} (h : IsS75 w0 W g f0 f1 f2 f3 f4 f5 f6 f7 f8 f9 f10) (x : Int) : IsS75 w0 (W.setCell ⟨g, 10, none⟩ (.int .i64 x)) g f0 f1 f2 f3 f4 f5 f6 f7 f8 f9 x := by
 obtain ⟨A0, c0, hb, hg, hr0, hd0⟩ := h
 exact ⟨A0, c0, by simpa using blk_set hb 10 (.int .i64 x), hg, hr0, hd0⟩
theorem IsS75.new (w0 W : World) (A0 : Option Addr) (c0 : Nat) (f0 : List (S56)) (f1 : ByteArray) (f2 : Int) (f3 : Int) (f4 : Int) (f5 : ByteArray) (f6 : Int) (f7 : Int) (f8 : Int) (f9 : Int) (f10 : Int) (hB : Below w0.heap.size w0 W) (hr0 : Kd.C k56 w0 A0 f0.length f0) (hd0 : f0.length ≤ c0) : IsS75 w0 (W.alloc (.cells #[.slice A0 f0.length c0, .string f1, .int .i64 f2, .int .i64 f3, .int .i64 f4, .string f5, .int .i64 f6, .int .u8 f7, .int .i64 f8, .int .i64 f9, .int .i64 f10] 75)) W.heap.size f0 f1 f2 f3 f4 f5 f6 f7 f8 f9 f10 := ⟨A0, c0, by simpa using heap_alloc_new W _, hB.size, hr0, hd0⟩

/-! ### expr_parser_next: function 40 -/
mutual
def expr_parser_next.j1 : Nat → List (S56) → ByteArray → Int → Int → Int → ByteArray → Int → Int → Int → Int → Int → Option (ByteArray × Int × Int × Int × ByteArray × Int × Int × Int × Int × Int)
 | 0, _, _, _, _, _, _, _, _, _, _, _ => none
 | k + 1, x1000, x1001, x1002, x1003, x1004, x1005, x1006, x1007, x1008, x1009, x1010 => if 0 ≤ x1002 then (if x1002 ≤ (x1001.size : Int) then ((some (x1001.extract (x1002 : Int).toNat x1001.size : ByteArray)).bind fun y163 => (if y163.toList = ([] : List UInt8) then (some (x1001, x1002, x1002, 1, (⟨#[]⟩ : ByteArray), 0, 0, x1008, x1009, x1010)) else (if 0 < (y163.size : Int) then ((strings_IndexByte.f (⟨#[48, 49, 40, 41, 124, 42]⟩ : ByteArray) (bt y163 0)).bind fun t164 => (if t164 ≥ 0 then (some (x1001, x1002, wrap64 (x1002 + 1), 3, (⟨#[]⟩ : ByteArray), 0, bt y163 0, x1008, x1009, x1010)) else ((strings_HasPrefix.f y163 (⟨#[60, 47]⟩ : ByteArray)).bind fun t165 => (if t165 = true then (if 2 ≤ (y163.size : Int) then ((expr_named.f k (y163.extract 2 y163.size) (⟨#[62]⟩ : ByteArray)).bind fun bt167 => (if bt167.2.2 > 0 then (some (x1001, x1002, wrap64 ((wrap64 (x1002 + 2)) + bt167.2.2), 4, bt167.1, 2, 0, x1008, x1009, x1010)) else (some (x1001, x1002, x1002, 2, (⟨#[]⟩ : ByteArray), 0, 0, x1008, x1009, x1010)))) else (none)) else (if (bt y163 0) = 60 then (if 1 ≤ (y163.size : Int) then ((expr_named.f k (y163.extract 1 y163.size) (⟨#[62, 91]⟩ : ByteArray)).bind fun bt171 => (if bt171.2.2 > 0 then (if bt171.2.1 = 91 then (some (x1001, x1002, wrap64 ((wrap64 (x1002 + 1)) + bt171.2.2), 5, bt171.1, 1, 0, x1008, x1009, x1010)) else (some (x1001, x1002, wrap64 ((wrap64 (x1002 + 1)) + bt171.2.2), 4, bt171.1, 1, 0, x1008, x1009, x1010))) else (some (x1001, x1002, x1002, 2, (⟨#[]⟩ : ByteArray), 0, 0, x1008, x1009, x1010)))) else (none)) else (if (bt y163 0) = 93 then (if 1 ≤ (y163.size : Int) then ((expr_named.f k (y163.extract 1 y163.size) (⟨#[62]⟩ : ByteArray)).bind fun bt175 => (if bt175.2.2 > 0 then (some (x1001, x1002, wrap64 ((wrap64 (x1002 + 1)) + bt175.2.2), 6, bt175.1, 2, 0, x1008, x1009, x1010)) else (some (x1001, x1002, x1002, 2, (⟨#[]⟩ : ByteArray), 0, 0, x1008, x1009, x1010)))) else (none)) else ((expr_named.f k y163 (⟨#[]⟩ : ByteArray)).bind fun bt178 => (if bt178.2.2 > 0 then (some (x1001, x1002, wrap64 (x1002 + bt178.2.2), 4, bt178.1, 3, 0, x1008, x1009, x1010)) else (some (x1001, x1002, x1002, 2, (⟨#[]⟩ : ByteArray), 0, 0, x1008, x1009, x1010)))))))))) else (none)))) else (none)) else (none)
def expr_parser_next.l0 : Nat → List (S56) → ByteArray → Int → Int → Int → ByteArray → Int → Int → Int → Int → Int → Option (ByteArray × Int × Int × Int × ByteArray × Int × Int × Int × Int × Int)
 | 0, _, _, _, _, _, _, _, _, _, _, _ => none
 | k + 1, x1000, x1001, x1002, x1003, x1004, x1005, x1006, x1007, x1008, x1009, x1010 => if x1002 < (x1001.size : Int) then (if 0 ≤ x1002 then (if (bt x1001 x1002) = 32 then (expr_parser_next.l0 k x1000 x1001 (wrap64 (x1002 + 1)) x1003 x1004 x1005 x1006 x1007 x1008 x1009 x1010) else (expr_parser_next.j1 k x1000 x1001 x1002 x1003 x1004 x1005 x1006 x1007 x1008 x1009 x1010)) else (none)) else (expr_parser_next.j1 k x1000 x1001 x1002 x1003 x1004 x1005 x1006 x1007 x1008 x1009 x1010)
end
def expr_parser_next.f (k : Nat) (s0_0 : List (S56)) (s0_1 : ByteArray) (s0_2 : Int) (s0_3 : Int) (s0_4 : Int) (s0_5 : ByteArray) (s0_6 : Int) (s0_7 : Int) (s0_8 : Int) (s0_9 : Int) (s0_10 : Int) : Option (ByteArray × Int × Int × Int × ByteArray × Int × Int × Int × Int × Int) := expr_parser_next.l0 k s0_0 s0_1 s0_3 s0_3 s0_4 s0_5 s0_6 s0_7 s0_8 s0_9 s0_10
theorem expr_parser_next.mono_l : ∀ k, (∀ y0 y1 y2 y3 y4 y5 y6 y7 y8 y9 y10, LeO (expr_parser_next.j1 k y0 y1 y2 y3 y4 y5 y6 y7 y8 y9 y10) (expr_parser_next.j1 (k + 1) y0 y1 y2 y3 y4 y5 y6 y7 y8 y9 y10)) ∧ (∀ y0 y1 y2 y3 y4 y5 y6 y7 y8 y9 y10, LeO (expr_parser_next.l0 k y0 y1 y2 y3 y4 y5 y6 y7 y8 y9 y10) (expr_parser_next.l0 (k + 1) y0 y1 y2 y3 y4 y5 y6 y7 y8 y9 y10))
 | 0 => ⟨fun _ _ _ _ _ _ _ _ _ _ _ r h => by simp [expr_parser_next.j1] at h, fun _ _ _ _ _ _ _ _ _ _ _ r h => by simp [expr_parser_next.l0] at h⟩
 | k + 1 => by
  obtain ⟨ih0, ih1⟩ := expr_parser_next.mono_l k
  refine ⟨?_, ?_⟩
  ·intro y0 y1 y2 y3 y4 y5 y6 y7 y8 y9 y10
   unfold expr_parser_next.j1
   repeat' first
   | (with_reducible exact expr_named.mono _ _ _)
   | (with_reducible exact LeO.refl _)
   | (with_reducible refine LeO.ite ?_ ?_)
   | (with_reducible refine LeO.bind ?_ (fun _ => ?_))
  ·intro y0 y1 y2 y3 y4 y5 y6 y7 y8 y9 y10
   unfold expr_parser_next.l0
   repeat' first
   | (with_reducible exact ih0 _ _ _ _ _ _ _ _ _ _ _)
   | (with_reducible exact ih1 _ _ _ _ _ _ _ _ _ _ _)
   | (with_reducible exact LeO.refl _)
   | (with_reducible refine LeO.ite ?_ ?_)
theorem expr_parser_next.mono : ∀ a0 a1 a2 a3 a4 a5 a6 a7 a8 a9 a10 k, LeO (expr_parser_next.f k a0 a1 a2 a3 a4 a5 a6 a7 a8 a9 a10) (expr_parser_next.f (k + 1) a0 a1 a2 a3 a4 a5 a6 a7 a8 a9 a10) := by
 intro a0 a1 a2 a3 a4 a5 a6 a7 a8 a9 a10 k
 obtain ⟨ih0, ih1⟩ := expr_parser_next.mono_l k
 unfold expr_parser_next.f
 repeat' first
   | (with_reducible exact ih1 _ _ _ _ _ _ _ _ _ _ _)
set_option maxHeartbeats 8000000 in
set_option maxRecDepth 100000 in
theorem expr_parser_next.calls (k : Nat) (g : Nat) (s0_0 : List (S56)) (s0_1 : ByteArray) (s0_2 : Int) (s0_3 : Int) (s0_4 : Int) (s0_5 : ByteArray) (s0_6 : Int) (s0_7 : Int) (s0_8 : Int) (s0_9 : Int) (s0_10 : Int) (r1 : ByteArray) (r2 : Int) (r3 : Int) (r4 : Int) (r5 : ByteArray) (r6 : Int) (r7 : Int) (r8 : Int) (r9 : Int) (r10 : Int) (w0 w : World) (hI : IsS75 w0 w g s0_0 s0_1 s0_2 s0_3 s0_4 s0_5 s0_6 s0_7 s0_8 s0_9 s0_10) (hB : Below w0.heap.size w0 w) (h : expr_parser_next.f k s0_0 s0_1 s0_2 s0_3 s0_4 s0_5 s0_6 s0_7 s0_8 s0_9 s0_10 = some (r1, r2, r3, r4, r5, r6, r7, r8, r9, r10)) :
  Calls Try.prog 40 #[.pointer (some ⟨g, 0, none⟩)] w fun e w' => e = .returned (.tuple #[]) ∧ IsS75 w0 w' g s0_0 r1 r2 r3 r4 r5 r6 r7 r8 r9 r10 ∧ Below w0.heap.size w0 w' ∧ KeepBut w w' g none := by
 have HI0 := M0 hI
 have HK := M0 (KeepBut.refl w g none)
 clear hI
 have HB := M0 hB
 clear hB
 have H : (expr_parser_next.l0 k s0_0 s0_1 s0_3 s0_3 s0_4 s0_5 s0_6 s0_7 s0_8 s0_9 s0_10) = some (r1, r2, r3, r4, r5, r6, r7, r8, r9, r10) := h
 clear h
 have HC2 := M0 H
 clear H
 obtain ⟨ASz3_0, cSz3_0, HGz3, hgz3, HSz3_0, HDz3_0⟩ := HI0.out
 obtain ⟨hcz3_0, hcz3_1, hcz3_2, hcz3_3, hcz3_4, hcz3_5, hcz3_6, hcz3_7, hcz3_8, hcz3_9, hcz3_10, -, hfz3_1, hfz3_2, hfz3_3, hfz3_4, hfz3_5, hfz3_6, hfz3_7, hfz3_8, hfz3_9, hfz3_10⟩ := cells11 HGz3
 clear HGz3 hgz3
 go_enter Try.func40, Try.ntmps40
 go_upto_block 0 with (fail)
 repeat (go_quiet (fail); go_upto_block 0 with (fail))
 go_cut [] (fun wc => ∃ (kq : Nat) (x1002_1 : Int), Aside0 (expr_parser_next.j1 kq s0_0 s0_1 x1002_1 s0_3 s0_4 s0_5 s0_6 s0_7 s0_8 s0_9 s0_10 = some (r1, r2, r3, r4, r5, r6, r7, r8, r9, r10)) ∧ Aside0 (kq ≤ k) ∧ Aside0 (IsS75 w0 wc g s0_0 s0_1 x1002_1 s0_3 s0_4 s0_5 s0_6 s0_7 s0_8 s0_9 s0_10) ∧ Aside0 (KeepBut w wc g none) ∧ Aside0 (Below w0.heap.size w0 wc))
 case first =>
  have H := HC2.out
  clear HC2
  have H' := M0 H
  clear H
  go_wp2_with (fail)
  repeat ((fail); try go_wp2_with (fail))
  go_loopg [] k (fun kq w' => ∃ (x1002_1 : Int), Aside0 (expr_parser_next.l0 kq s0_0 s0_1 x1002_1 s0_3 s0_4 s0_5 s0_6 s0_7 s0_8 s0_9 s0_10 = some (r1, r2, r3, r4, r5, r6, r7, r8, r9, r10)) ∧ Aside0 (kq ≤ k) ∧ Aside0 (IsS75 w0 w' g s0_0 s0_1 x1002_1 s0_3 s0_4 s0_5 s0_6 s0_7 s0_8 s0_9 s0_10) ∧ Aside0 (KeepBut w w' g none) ∧ Aside0 (Below w0.heap.size w0 w'))
  case atStart => exact ⟨(s0_3), H', ⟨Nat.le_refl _⟩, ⟨by repeat ((with_reducible first | exact HI0.out | apply IsS75.set_2))⟩, ⟨by repeat ((with_reducible first | exact HK.out | apply KeepBut.set_))⟩, ⟨by repeat ((with_reducible first | exact HB.out | refine below_set ?_ (IsS75.ge HI0.out)))⟩⟩
  case round =>
   clear H'
   clear hcz3_0 hcz3_1 hcz3_10 hcz3_2 hcz3_3 hcz3_4 hcz3_5 hcz3_6 hcz3_7 hcz3_8 hcz3_9 hfz3_1 hfz3_10 hfz3_2 hfz3_3 hfz3_4 hfz3_5 hfz3_6 hfz3_7 hfz3_8 hfz3_9
   obtain ⟨x1002_1, HA, HK1, HI0, HK, HB⟩ := hrel
   cases gk with
   | zero => exact absurd HA.out (by simp [expr_parser_next.l0])
   | succ k1 =>
    have H := HA.out
    clear HA
    simp only [expr_parser_next.l0] at H
    by_cases c4 : x1002_1 < (s0_1.size : Int)
    ·rw [if_pos c4] at H
     have c4b0 := decide_eq_true c4
     clear c4
     (skip)
     by_cases c5 : 0 ≤ x1002_1
     ·rw [if_pos c5] at H
      have c5b0 := decide_eq_true c5
      clear c5
      by_cases c7 : (bt s0_1 x1002_1) = 32
      ·rw [if_pos c7] at H
       have c7b0 := bT c7
       clear c7
       have H' := M0 H
       clear H
       obtain ⟨ASz8_0, cSz8_0, HGz8, hgz8, HSz8_0, HDz8_0⟩ := HI0.out
       obtain ⟨hcz8_0, hcz8_1, hcz8_2, hcz8_3, hcz8_4, hcz8_5, hcz8_6, hcz8_7, hcz8_8, hcz8_9, hcz8_10, -, hfz8_1, hfz8_2, hfz8_3, hfz8_4, hfz8_5, hfz8_6, hfz8_7, hfz8_8, hfz8_9, hfz8_10⟩ := cells11 HGz8
       clear HGz8 hgz8
       have p6 : 0 ≤ (x1002_1 : Int) := of_decide_eq_true (by (with_reducible assumption))
       have q6 : x1002_1 < (s0_1.size : Int) := of_decide_eq_true (by (with_reducible assumption))
       have hx6 := bt_at s0_1 x1002_1
       replace p6 := eq_true p6
       replace q6 := eq_true q6
       go_wp2_with (fail)
       repeat ((go_region); try go_wp2_with (fail))
       go_roundg k1
       case measure => have := HK1.out; omega
       case rel => exact ⟨(wrap64 (x1002_1 + 1)), H', ⟨by have := HK1.out; omega⟩, ⟨by repeat ((with_reducible first | exact HI0.out | apply IsS75.drew | apply IsS75.set_2))⟩, ⟨by repeat ((with_reducible first | exact HK.out | apply KeepBut.set_ | apply keep_drew))⟩, ⟨by repeat ((with_reducible first | exact HB.out | apply below_drew1 | refine below_set ?_ (IsS75.ge HI0.out)))⟩⟩
      ·rw [if_neg c7] at H
       have c7b0 := bF c7
       have H' := M0 H
       clear H
       obtain ⟨ASz9_0, cSz9_0, HGz9, hgz9, HSz9_0, HDz9_0⟩ := HI0.out
       obtain ⟨hcz9_0, hcz9_1, hcz9_2, hcz9_3, hcz9_4, hcz9_5, hcz9_6, hcz9_7, hcz9_8, hcz9_9, hcz9_10, -, hfz9_1, hfz9_2, hfz9_3, hfz9_4, hfz9_5, hfz9_6, hfz9_7, hfz9_8, hfz9_9, hfz9_10⟩ := cells11 HGz9
       clear HGz9 hgz9
       have p6 : 0 ≤ (x1002_1 : Int) := of_decide_eq_true (by (with_reducible assumption))
       have q6 : x1002_1 < (s0_1.size : Int) := of_decide_eq_true (by (with_reducible assumption))
       have hx6 := bt_at s0_1 x1002_1
       replace p6 := eq_true p6
       replace q6 := eq_true q6
       go_wp2_with (fail)
       repeat ((go_region); try go_wp2_with (fail))
       go_meet
       case rel => exact ⟨_, (x1002_1), H', ⟨by have := HK1.out; omega⟩, ⟨by repeat ((with_reducible first | exact HI0.out | apply IsS75.drew))⟩, ⟨by repeat ((with_reducible first | exact HK.out | apply keep_drew))⟩, ⟨by repeat ((with_reducible first | exact HB.out | apply below_drew1))⟩⟩
     ·rw [if_neg c5] at H
      exact absurd H (by simp)
    ·rw [if_neg c4] at H
     have c4b0 := decide_eq_false c4
     clear c4
     (skip)
     have H' := M0 H
     clear H
     obtain ⟨ASz10_0, cSz10_0, HGz10, hgz10, HSz10_0, HDz10_0⟩ := HI0.out
     obtain ⟨hcz10_0, hcz10_1, hcz10_2, hcz10_3, hcz10_4, hcz10_5, hcz10_6, hcz10_7, hcz10_8, hcz10_9, hcz10_10, -, hfz10_1, hfz10_2, hfz10_3, hfz10_4, hfz10_5, hfz10_6, hfz10_7, hfz10_8, hfz10_9, hfz10_10⟩ := cells11 HGz10
     clear HGz10 hgz10
     go_wp2_with (fail)
     repeat ((go_region); try go_wp2_with (fail))
     go_meet
     case rel => exact ⟨_, (x1002_1), H', ⟨by have := HK1.out; omega⟩, ⟨by repeat ((with_reducible first | exact HI0.out | apply IsS75.drew))⟩, ⟨by repeat ((with_reducible first | exact HK.out | apply keep_drew))⟩, ⟨by repeat ((with_reducible first | exact HB.out | apply below_drew1))⟩⟩
 case rest =>
  clear HC2 hcz3_0 hcz3_1 hcz3_10 hcz3_2 hcz3_3 hcz3_4 hcz3_5 hcz3_6 hcz3_7 hcz3_8 hcz3_9 hfz3_1 hfz3_10 hfz3_2 hfz3_3 hfz3_4 hfz3_5 hfz3_6 hfz3_7 hfz3_8 hfz3_9
  obtain ⟨kq, x1002_1, HA, HJ1, HI0, HK, HB⟩ := hcut
  cases kq with
  | zero => exact absurd HA.out (by simp [expr_parser_next.j1])
  | succ kj1 =>
   have H := HA.out
   clear HA
   simp only [expr_parser_next.j1] at H
   by_cases c11 : 0 ≤ x1002_1
   ·rw [if_pos c11] at H
    have c11b0 := eq_true c11
    have c11b1 := decide_eq_true c11
    clear c11
    by_cases c12 : x1002_1 ≤ (s0_1.size : Int)
    ·rw [if_pos c12] at H
     have c12b0 := eq_true c12
     clear c12
     obtain ⟨y163, hy163⟩ : ∃ y_ : ByteArray, y_ = (s0_1.extract (x1002_1 : Int).toNat s0_1.size) := ⟨_, rfl⟩
     replace H : (if y163.toList = ([] : List UInt8) then (some (s0_1, x1002_1, x1002_1, 1, (⟨#[]⟩ : ByteArray), 0, 0, s0_8, s0_9, s0_10)) else (if 0 < (y163.size : Int) then ((strings_IndexByte.f (⟨#[48, 49, 40, 41, 124, 42]⟩ : ByteArray) (bt y163 0)).bind fun t164 => (if t164 ≥ 0 then (some (s0_1, x1002_1, wrap64 (x1002_1 + 1), 3, (⟨#[]⟩ : ByteArray), 0, bt y163 0, s0_8, s0_9, s0_10)) else ((strings_HasPrefix.f y163 (⟨#[60, 47]⟩ : ByteArray)).bind fun t165 => (if t165 = true then (if 2 ≤ (y163.size : Int) then ((expr_named.f kj1 (y163.extract 2 y163.size) (⟨#[62]⟩ : ByteArray)).bind fun bt167 => (if bt167.2.2 > 0 then (some (s0_1, x1002_1, wrap64 ((wrap64 (x1002_1 + 2)) + bt167.2.2), 4, bt167.1, 2, 0, s0_8, s0_9, s0_10)) else (some (s0_1, x1002_1, x1002_1, 2, (⟨#[]⟩ : ByteArray), 0, 0, s0_8, s0_9, s0_10)))) else (none)) else (if (bt y163 0) = 60 then (if 1 ≤ (y163.size : Int) then ((expr_named.f kj1 (y163.extract 1 y163.size) (⟨#[62, 91]⟩ : ByteArray)).bind fun bt171 => (if bt171.2.2 > 0 then (if bt171.2.1 = 91 then (some (s0_1, x1002_1, wrap64 ((wrap64 (x1002_1 + 1)) + bt171.2.2), 5, bt171.1, 1, 0, s0_8, s0_9, s0_10)) else (some (s0_1, x1002_1, wrap64 ((wrap64 (x1002_1 + 1)) + bt171.2.2), 4, bt171.1, 1, 0, s0_8, s0_9, s0_10))) else (some (s0_1, x1002_1, x1002_1, 2, (⟨#[]⟩ : ByteArray), 0, 0, s0_8, s0_9, s0_10)))) else (none)) else (if (bt y163 0) = 93 then (if 1 ≤ (y163.size : Int) then ((expr_named.f kj1 (y163.extract 1 y163.size) (⟨#[62]⟩ : ByteArray)).bind fun bt175 => (if bt175.2.2 > 0 then (some (s0_1, x1002_1, wrap64 ((wrap64 (x1002_1 + 1)) + bt175.2.2), 6, bt175.1, 2, 0, s0_8, s0_9, s0_10)) else (some (s0_1, x1002_1, x1002_1, 2, (⟨#[]⟩ : ByteArray), 0, 0, s0_8, s0_9, s0_10)))) else (none)) else ((expr_named.f kj1 y163 (⟨#[]⟩ : ByteArray)).bind fun bt178 => (if bt178.2.2 > 0 then (some (s0_1, x1002_1, wrap64 (x1002_1 + bt178.2.2), 4, bt178.1, 3, 0, s0_8, s0_9, s0_10)) else (some (s0_1, x1002_1, x1002_1, 2, (⟨#[]⟩ : ByteArray), 0, 0, s0_8, s0_9, s0_10)))))))))) else (none))) = some (r1, r2, r3, r4, r5, r6, r7, r8, r9, r10) := by (have H2_ := (Option.bind_some _ _).symm.trans H; rw [hy163]; with_reducible exact H2_)
     have Ny163 := M0 hy163
     clear hy163
     have hsy163 : (s0_1.extract (x1002_1 : Int).toNat s0_1.size) = y163 := Ny163.out.symm
     by_cases c13 : y163.toList = ([] : List UInt8)
     ·rw [if_pos c13] at H
      have c13b0 := bT c13
      clear c13
      simp only [Option.some.injEq, Prod.mk.injEq] at H
      obtain ⟨rfl, rfl, rfl, rfl, rfl, rfl, rfl, rfl, rfl, rfl⟩ := H
      obtain ⟨ASz14_0, cSz14_0, HGz14, hgz14, HSz14_0, HDz14_0⟩ := HI0.out
      obtain ⟨hcz14_0, hcz14_1, hcz14_2, hcz14_3, hcz14_4, hcz14_5, hcz14_6, hcz14_7, hcz14_8, hcz14_9, hcz14_10, -, hfz14_1, hfz14_2, hfz14_3, hfz14_4, hfz14_5, hfz14_6, hfz14_7, hfz14_8, hfz14_9, hfz14_10⟩ := cells11 HGz14
      clear HGz14 hgz14
      go_wp2_with (fail)
      repeat ((go_region); try go_wp2_with (fail))
      go_end0
      exact ⟨by rfl, by repeat ((with_reducible first | exact HI0.out | apply IsS75.drew | apply IsS75.set_3 | apply IsS75.set_4 | apply IsS75.set_5 | apply IsS75.set_6 | apply IsS75.set_7)), by repeat ((with_reducible first | exact HB.out | apply below_drew1 | refine below_set ?_ (IsS75.ge HI0.out))), by repeat ((with_reducible first | exact HK.out | apply KeepBut.set_ | apply keep_drew))⟩
     ·rw [if_neg c13] at H
      have c13b0 := bF c13
      have c13b1 := nT c13
      by_cases c15 : 0 < (y163.size : Int)
      ·rw [if_pos c15] at H
       have c15b0 := decide_eq_true c15
       clear c15
       replace H := Option.bind_eq_some_iff.mp H
       obtain ⟨t164, A170, H⟩ := H
       try dsimp only at H
       have A17 := M0 A170
       clear A170
       by_cases c18 : t164 ≥ 0
       ·rw [if_pos c18] at H
        have c18b0 : decide (0 ≤ t164) = true := decide_eq_true c18
        clear c18
        simp only [Option.some.injEq, Prod.mk.injEq] at H
        obtain ⟨rfl, rfl, rfl, rfl, rfl, rfl, rfl, rfl, rfl, rfl⟩ := H
        obtain ⟨ASz20_0, cSz20_0, HGz20, hgz20, HSz20_0, HDz20_0⟩ := HI0.out
        obtain ⟨hcz20_0, hcz20_1, hcz20_2, hcz20_3, hcz20_4, hcz20_5, hcz20_6, hcz20_7, hcz20_8, hcz20_9, hcz20_10, -, hfz20_1, hfz20_2, hfz20_3, hfz20_4, hfz20_5, hfz20_6, hfz20_7, hfz20_8, hfz20_9, hfz20_10⟩ := cells11 HGz20
        clear HGz20 hgz20
        have p16 : 0 ≤ (0 : Int) := (by omega)
        have q16 : 0 < y163.size := (by have : (0 : Int) < (y163.size : Int) := of_decide_eq_true (by (with_reducible assumption)); omega)
        have hx16 : ∀ h : 0 < y163.size, ((y163[0]'h).toNat : Int) = bt y163 0 := bt_at y163 0
        clear p16
        replace q16 := eq_true q16
        go_wp2_with (fail)
        repeat ((go_region); try go_wp2_with ((go_at_call 58; (with_reducible refine (strings_IndexByte.calls (⟨#[48, 49, 40, 41, 124, 42]⟩ : ByteArray) (bt y163 0) t164 _ A17.out).mono ?_); rintro e w' ⟨rfl, rfl⟩; have p19 : 0 ≤ (0 : Int) := (by omega); have q19 : 0 < y163.size := (by have : (0 : Int) < (y163.size : Int) := of_decide_eq_true (by (with_reducible assumption)); omega); clear p19; clear q19)))
        go_end0
        exact ⟨by rfl, by repeat ((with_reducible first | exact HI0.out | apply IsS75.drew | apply IsS75.set_3 | apply IsS75.set_4 | apply IsS75.set_5 | apply IsS75.set_6 | apply IsS75.set_7)), by repeat ((with_reducible first | exact HB.out | apply below_drew1 | refine below_set ?_ (IsS75.ge HI0.out))), by repeat ((with_reducible first | exact HK.out | apply KeepBut.set_ | apply keep_drew))⟩
       ·rw [if_neg c18] at H
        have c18b0 : decide (0 ≤ t164) = false := decide_eq_false c18
        clear c18
        replace H := Option.bind_eq_some_iff.mp H
        obtain ⟨t165, A210, H⟩ := H
        try dsimp only at H
        have A21 := M0 A210
        clear A210
        by_cases c22 : t165 = true
        ·subst c22
         rw [if_pos rfl] at H
         by_cases c23 : 2 ≤ (y163.size : Int)
         ·rw [if_pos c23] at H
          have c23b0 := eq_true c23
          clear c23
          obtain ⟨y166, hy166⟩ : ∃ y_ : ByteArray, y_ = (y163.extract 2 y163.size) := ⟨_, rfl⟩
          replace H : ((expr_named.f kj1 y166 (⟨#[62]⟩ : ByteArray)).bind fun bt167 => (if bt167.2.2 > 0 then (some (s0_1, x1002_1, wrap64 ((wrap64 (x1002_1 + 2)) + bt167.2.2), 4, bt167.1, 2, 0, s0_8, s0_9, s0_10)) else (some (s0_1, x1002_1, x1002_1, 2, (⟨#[]⟩ : ByteArray), 0, 0, s0_8, s0_9, s0_10)))) = some (r1, r2, r3, r4, r5, r6, r7, r8, r9, r10) := by (rw [hy166]; with_reducible exact H)
          have Ny166 := M0 hy166
          clear hy166
          have hsy166 : (y163.extract 2 y163.size) = y166 := Ny166.out.symm
          replace H := Option.bind_eq_some_iff.mp H
          obtain ⟨⟨t167, t168, t169⟩, A240, H⟩ := H
          try dsimp only at H
          have A24 := M0 A240
          clear A240
          by_cases c25 : t169 > 0
          ·rw [if_pos c25] at H
           have c25b0 : decide (0 < t169) = true := decide_eq_true c25
           clear c25
           simp only [Option.some.injEq, Prod.mk.injEq] at H
           obtain ⟨rfl, rfl, rfl, rfl, rfl, rfl, rfl, rfl, rfl, rfl⟩ := H
           obtain ⟨ASz26_0, cSz26_0, HGz26, hgz26, HSz26_0, HDz26_0⟩ := HI0.out
           obtain ⟨hcz26_0, hcz26_1, hcz26_2, hcz26_3, hcz26_4, hcz26_5, hcz26_6, hcz26_7, hcz26_8, hcz26_9, hcz26_10, -, hfz26_1, hfz26_2, hfz26_3, hfz26_4, hfz26_5, hfz26_6, hfz26_7, hfz26_8, hfz26_9, hfz26_10⟩ := cells11 HGz26
           clear HGz26 hgz26
           have p16 : 0 ≤ (0 : Int) := (by omega)
           have q16 : 0 < y163.size := (by have : (0 : Int) < (y163.size : Int) := of_decide_eq_true (by (with_reducible assumption)); omega)
           have hx16 : ∀ h : 0 < y163.size, ((y163[0]'h).toNat : Int) = bt y163 0 := bt_at y163 0
           clear p16
           replace q16 := eq_true q16
           go_wp2_with (fail)
           repeat ((go_region); try go_wp2_with (first | (go_at_call 58; (with_reducible refine (strings_IndexByte.calls (⟨#[48, 49, 40, 41, 124, 42]⟩ : ByteArray) (bt y163 0) t164 _ A17.out).mono ?_); rintro e w' ⟨rfl, rfl⟩) | (go_at_call 59; (with_reducible refine (strings_HasPrefix.calls y163 (⟨#[60, 47]⟩ : ByteArray) true _ A21.out).mono ?_); rintro e w' ⟨rfl, ⟨nd, rfl⟩⟩) | (go_at_call 60; (with_reducible refine (expr_named.calls kj1 y166 (⟨#[62]⟩ : ByteArray) t167 t168 t169 _ A24.out).mono ?_); rintro e w' ⟨rfl, ⟨nd, rfl⟩⟩)))
           go_end0
           exact ⟨by rfl, by repeat ((with_reducible first | exact HI0.out | apply IsS75.drewN | apply IsS75.set_3 | apply IsS75.set_4 | apply IsS75.set_5 | apply IsS75.set_6 | apply IsS75.set_7)), by repeat ((with_reducible first | exact HB.out | apply pw_below_drewN | refine below_set ?_ (IsS75.ge HI0.out))), by repeat ((with_reducible first | exact HK.out | apply KeepBut.set_ | apply keep_drewN))⟩
          ·rw [if_neg c25] at H
           have c25b0 : decide (0 < t169) = false := decide_eq_false c25
           clear c25
           simp only [Option.some.injEq, Prod.mk.injEq] at H
           obtain ⟨rfl, rfl, rfl, rfl, rfl, rfl, rfl, rfl, rfl, rfl⟩ := H
           obtain ⟨ASz27_0, cSz27_0, HGz27, hgz27, HSz27_0, HDz27_0⟩ := HI0.out
           obtain ⟨hcz27_0, hcz27_1, hcz27_2, hcz27_3, hcz27_4, hcz27_5, hcz27_6, hcz27_7, hcz27_8, hcz27_9, hcz27_10, -, hfz27_1, hfz27_2, hfz27_3, hfz27_4, hfz27_5, hfz27_6, hfz27_7, hfz27_8, hfz27_9, hfz27_10⟩ := cells11 HGz27
           clear HGz27 hgz27
           have p16 : 0 ≤ (0 : Int) := (by omega)
           have q16 : 0 < y163.size := (by have : (0 : Int) < (y163.size : Int) := of_decide_eq_true (by (with_reducible assumption)); omega)
           have hx16 : ∀ h : 0 < y163.size, ((y163[0]'h).toNat : Int) = bt y163 0 := bt_at y163 0
           clear p16
           replace q16 := eq_true q16
           go_wp2_with (fail)
           repeat ((go_region); try go_wp2_with (first | (go_at_call 58; (with_reducible refine (strings_IndexByte.calls (⟨#[48, 49, 40, 41, 124, 42]⟩ : ByteArray) (bt y163 0) t164 _ A17.out).mono ?_); rintro e w' ⟨rfl, rfl⟩) | (go_at_call 59; (with_reducible refine (strings_HasPrefix.calls y163 (⟨#[60, 47]⟩ : ByteArray) true _ A21.out).mono ?_); rintro e w' ⟨rfl, ⟨nd, rfl⟩⟩) | (go_at_call 60; (with_reducible refine (expr_named.calls kj1 y166 (⟨#[62]⟩ : ByteArray) t167 t168 t169 _ A24.out).mono ?_); rintro e w' ⟨rfl, ⟨nd, rfl⟩⟩)))
           go_end0
           exact ⟨by rfl, by repeat ((with_reducible first | exact HI0.out | apply IsS75.drewN | apply IsS75.set_3 | apply IsS75.set_4 | apply IsS75.set_5 | apply IsS75.set_6 | apply IsS75.set_7)), by repeat ((with_reducible first | exact HB.out | apply pw_below_drewN | refine below_set ?_ (IsS75.ge HI0.out))), by repeat ((with_reducible first | exact HK.out | apply KeepBut.set_ | apply keep_drewN))⟩
         ·rw [if_neg c23] at H
          exact absurd H (by simp)
        ·replace c22 := Bool.eq_false_iff.mpr c22
         subst c22
         rw [if_neg (show ¬ (false = true) by decide)] at H
         by_cases c29 : (bt y163 0) = 60
         ·rw [if_pos c29] at H
          have c29b0 := bT c29
          have c29b1 := nF c29
          clear c29
          by_cases c30 : 1 ≤ (y163.size : Int)
          ·rw [if_pos c30] at H
           have c30b0 := eq_true c30
           clear c30
           obtain ⟨y170, hy170⟩ : ∃ y_ : ByteArray, y_ = (y163.extract 1 y163.size) := ⟨_, rfl⟩
           replace H : ((expr_named.f kj1 y170 (⟨#[62, 91]⟩ : ByteArray)).bind fun bt171 => (if bt171.2.2 > 0 then (if bt171.2.1 = 91 then (some (s0_1, x1002_1, wrap64 ((wrap64 (x1002_1 + 1)) + bt171.2.2), 5, bt171.1, 1, 0, s0_8, s0_9, s0_10)) else (some (s0_1, x1002_1, wrap64 ((wrap64 (x1002_1 + 1)) + bt171.2.2), 4, bt171.1, 1, 0, s0_8, s0_9, s0_10))) else (some (s0_1, x1002_1, x1002_1, 2, (⟨#[]⟩ : ByteArray), 0, 0, s0_8, s0_9, s0_10)))) = some (r1, r2, r3, r4, r5, r6, r7, r8, r9, r10) := by (rw [hy170]; with_reducible exact H)
           have Ny170 := M0 hy170
           clear hy170
           have hsy170 : (y163.extract 1 y163.size) = y170 := Ny170.out.symm
           replace H := Option.bind_eq_some_iff.mp H
           obtain ⟨⟨t171, t172, t173⟩, A310, H⟩ := H
           try dsimp only at H
           have A31 := M0 A310
           clear A310
           by_cases c32 : t173 > 0
           ·rw [if_pos c32] at H
            have c32b0 : decide (0 < t173) = true := decide_eq_true c32
            clear c32
            by_cases c33 : t172 = 91
            ·rw [if_pos c33] at H
             have c33b0 := bT c33
             clear c33
             simp only [Option.some.injEq, Prod.mk.injEq] at H
             obtain ⟨rfl, rfl, rfl, rfl, rfl, rfl, rfl, rfl, rfl, rfl⟩ := H
             obtain ⟨ASz34_0, cSz34_0, HGz34, hgz34, HSz34_0, HDz34_0⟩ := HI0.out
             obtain ⟨hcz34_0, hcz34_1, hcz34_2, hcz34_3, hcz34_4, hcz34_5, hcz34_6, hcz34_7, hcz34_8, hcz34_9, hcz34_10, -, hfz34_1, hfz34_2, hfz34_3, hfz34_4, hfz34_5, hfz34_6, hfz34_7, hfz34_8, hfz34_9, hfz34_10⟩ := cells11 HGz34
             clear HGz34 hgz34
             have p16 : 0 ≤ (0 : Int) := (by omega)
             have q16 : 0 < y163.size := (by have : (0 : Int) < (y163.size : Int) := of_decide_eq_true (by (with_reducible assumption)); omega)
             have hx16 : ∀ h : 0 < y163.size, ((y163[0]'h).toNat : Int) = bt y163 0 := bt_at y163 0
             clear p16
             replace q16 := eq_true q16
             go_wp2_with (fail)
             repeat ((go_region); try go_wp2_with (first | (go_at_call 58; (with_reducible refine (strings_IndexByte.calls (⟨#[48, 49, 40, 41, 124, 42]⟩ : ByteArray) (bt y163 0) t164 _ A17.out).mono ?_); rintro e w' ⟨rfl, rfl⟩) | (go_at_call 59; (with_reducible refine (strings_HasPrefix.calls y163 (⟨#[60, 47]⟩ : ByteArray) false _ A21.out).mono ?_); rintro e w' ⟨rfl, ⟨nd, rfl⟩⟩; have p28 : 0 ≤ (0 : Int) := (by omega); have q28 : 0 < y163.size := (by have : (0 : Int) < (y163.size : Int) := of_decide_eq_true (by (with_reducible assumption)); omega); clear p28; clear q28) | (go_at_call 60; (with_reducible refine (expr_named.calls kj1 y170 (⟨#[62, 91]⟩ : ByteArray) t171 t172 t173 _ A31.out).mono ?_); rintro e w' ⟨rfl, ⟨nd, rfl⟩⟩)))
             go_end0
             exact ⟨by rfl, by repeat ((with_reducible first | exact HI0.out | apply IsS75.drewN | apply IsS75.set_3 | apply IsS75.set_4 | apply IsS75.set_5 | apply IsS75.set_6 | apply IsS75.set_7)), by repeat ((with_reducible first | exact HB.out | apply pw_below_drewN | refine below_set ?_ (IsS75.ge HI0.out))), by repeat ((with_reducible first | exact HK.out | apply KeepBut.set_ | apply keep_drewN))⟩
            ·rw [if_neg c33] at H
             have c33b0 := bF c33
             simp only [Option.some.injEq, Prod.mk.injEq] at H
             obtain ⟨rfl, rfl, rfl, rfl, rfl, rfl, rfl, rfl, rfl, rfl⟩ := H
             obtain ⟨ASz35_0, cSz35_0, HGz35, hgz35, HSz35_0, HDz35_0⟩ := HI0.out
             obtain ⟨hcz35_0, hcz35_1, hcz35_2, hcz35_3, hcz35_4, hcz35_5, hcz35_6, hcz35_7, hcz35_8, hcz35_9, hcz35_10, -, hfz35_1, hfz35_2, hfz35_3, hfz35_4, hfz35_5, hfz35_6, hfz35_7, hfz35_8, hfz35_9, hfz35_10⟩ := cells11 HGz35
             clear HGz35 hgz35
             have p16 : 0 ≤ (0 : Int) := (by omega)
             have q16 : 0 < y163.size := (by have : (0 : Int) < (y163.size : Int) := of_decide_eq_true (by (with_reducible assumption)); omega)
             have hx16 : ∀ h : 0 < y163.size, ((y163[0]'h).toNat : Int) = bt y163 0 := bt_at y163 0
             clear p16
             replace q16 := eq_true q16
             go_wp2_with (fail)
             repeat ((go_region); try go_wp2_with (first | (go_at_call 58; (with_reducible refine (strings_IndexByte.calls (⟨#[48, 49, 40, 41, 124, 42]⟩ : ByteArray) (bt y163 0) t164 _ A17.out).mono ?_); rintro e w' ⟨rfl, rfl⟩) | (go_at_call 59; (with_reducible refine (strings_HasPrefix.calls y163 (⟨#[60, 47]⟩ : ByteArray) false _ A21.out).mono ?_); rintro e w' ⟨rfl, ⟨nd, rfl⟩⟩; have p28 : 0 ≤ (0 : Int) := (by omega); have q28 : 0 < y163.size := (by have : (0 : Int) < (y163.size : Int) := of_decide_eq_true (by (with_reducible assumption)); omega); clear p28; clear q28) | (go_at_call 60; (with_reducible refine (expr_named.calls kj1 y170 (⟨#[62, 91]⟩ : ByteArray) t171 t172 t173 _ A31.out).mono ?_); rintro e w' ⟨rfl, ⟨nd, rfl⟩⟩)))
             go_end0
             exact ⟨by rfl, by repeat ((with_reducible first | exact HI0.out | apply IsS75.drewN | apply IsS75.set_3 | apply IsS75.set_4 | apply IsS75.set_5 | apply IsS75.set_6 | apply IsS75.set_7)), by repeat ((with_reducible first | exact HB.out | apply pw_below_drewN | refine below_set ?_ (IsS75.ge HI0.out))), by repeat ((with_reducible first | exact HK.out | apply KeepBut.set_ | apply keep_drewN))⟩
           ·rw [if_neg c32] at H
            have c32b0 : decide (0 < t173) = false := decide_eq_false c32
            clear c32
            simp only [Option.some.injEq, Prod.mk.injEq] at H
            obtain ⟨rfl, rfl, rfl, rfl, rfl, rfl, rfl, rfl, rfl, rfl⟩ := H
            obtain ⟨ASz36_0, cSz36_0, HGz36, hgz36, HSz36_0, HDz36_0⟩ := HI0.out
            obtain ⟨hcz36_0, hcz36_1, hcz36_2, hcz36_3, hcz36_4, hcz36_5, hcz36_6, hcz36_7, hcz36_8, hcz36_9, hcz36_10, -, hfz36_1, hfz36_2, hfz36_3, hfz36_4, hfz36_5, hfz36_6, hfz36_7, hfz36_8, hfz36_9, hfz36_10⟩ := cells11 HGz36
            clear HGz36 hgz36
            have p16 : 0 ≤ (0 : Int) := (by omega)
            have q16 : 0 < y163.size := (by have : (0 : Int) < (y163.size : Int) := of_decide_eq_true (by (with_reducible assumption)); omega)
            have hx16 : ∀ h : 0 < y163.size, ((y163[0]'h).toNat : Int) = bt y163 0 := bt_at y163 0
            clear p16
            replace q16 := eq_true q16
            go_wp2_with (fail)
            repeat ((go_region); try go_wp2_with (first | (go_at_call 58; (with_reducible refine (strings_IndexByte.calls (⟨#[48, 49, 40, 41, 124, 42]⟩ : ByteArray) (bt y163 0) t164 _ A17.out).mono ?_); rintro e w' ⟨rfl, rfl⟩) | (go_at_call 59; (with_reducible refine (strings_HasPrefix.calls y163 (⟨#[60, 47]⟩ : ByteArray) false _ A21.out).mono ?_); rintro e w' ⟨rfl, ⟨nd, rfl⟩⟩; have p28 : 0 ≤ (0 : Int) := (by omega); have q28 : 0 < y163.size := (by have : (0 : Int) < (y163.size : Int) := of_decide_eq_true (by (with_reducible assumption)); omega); clear p28; clear q28) | (go_at_call 60; (with_reducible refine (expr_named.calls kj1 y170 (⟨#[62, 91]⟩ : ByteArray) t171 t172 t173 _ A31.out).mono ?_); rintro e w' ⟨rfl, ⟨nd, rfl⟩⟩)))
            go_end0
            exact ⟨by rfl, by repeat ((with_reducible first | exact HI0.out | apply IsS75.drewN | apply IsS75.set_3 | apply IsS75.set_4 | apply IsS75.set_5 | apply IsS75.set_6 | apply IsS75.set_7)), by repeat ((with_reducible first | exact HB.out | apply pw_below_drewN | refine below_set ?_ (IsS75.ge HI0.out))), by repeat ((with_reducible first | exact HK.out | apply KeepBut.set_ | apply keep_drewN))⟩
          ·rw [if_neg c30] at H
           exact absurd H (by simp)
         ·rw [if_neg c29] at H
          have c29b0 := bF c29
          have c29b1 := nT c29
          by_cases c38 : (bt y163 0) = 93
          ·rw [if_pos c38] at H
           have c38b0 := bT c38
           have c38b1 := nF c38
           clear c38
           by_cases c39 : 1 ≤ (y163.size : Int)
           ·rw [if_pos c39] at H
            have c39b0 := eq_true c39
            clear c39
            obtain ⟨y174, hy174⟩ : ∃ y_ : ByteArray, y_ = (y163.extract 1 y163.size) := ⟨_, rfl⟩
            replace H : ((expr_named.f kj1 y174 (⟨#[62]⟩ : ByteArray)).bind fun bt175 => (if bt175.2.2 > 0 then (some (s0_1, x1002_1, wrap64 ((wrap64 (x1002_1 + 1)) + bt175.2.2), 6, bt175.1, 2, 0, s0_8, s0_9, s0_10)) else (some (s0_1, x1002_1, x1002_1, 2, (⟨#[]⟩ : ByteArray), 0, 0, s0_8, s0_9, s0_10)))) = some (r1, r2, r3, r4, r5, r6, r7, r8, r9, r10) := by (rw [hy174]; with_reducible exact H)
            have Ny174 := M0 hy174
            clear hy174
            have hsy174 : (y163.extract 1 y163.size) = y174 := Ny174.out.symm
            replace H := Option.bind_eq_some_iff.mp H
            obtain ⟨⟨t175, t176, t177⟩, A400, H⟩ := H
            try dsimp only at H
            have A40 := M0 A400
            clear A400
            by_cases c41 : t177 > 0
            ·rw [if_pos c41] at H
             have c41b0 : decide (0 < t177) = true := decide_eq_true c41
             clear c41
             simp only [Option.some.injEq, Prod.mk.injEq] at H
             obtain ⟨rfl, rfl, rfl, rfl, rfl, rfl, rfl, rfl, rfl, rfl⟩ := H
             obtain ⟨ASz42_0, cSz42_0, HGz42, hgz42, HSz42_0, HDz42_0⟩ := HI0.out
             obtain ⟨hcz42_0, hcz42_1, hcz42_2, hcz42_3, hcz42_4, hcz42_5, hcz42_6, hcz42_7, hcz42_8, hcz42_9, hcz42_10, -, hfz42_1, hfz42_2, hfz42_3, hfz42_4, hfz42_5, hfz42_6, hfz42_7, hfz42_8, hfz42_9, hfz42_10⟩ := cells11 HGz42
             clear HGz42 hgz42
             have p16 : 0 ≤ (0 : Int) := (by omega)
             have q16 : 0 < y163.size := (by have : (0 : Int) < (y163.size : Int) := of_decide_eq_true (by (with_reducible assumption)); omega)
             have hx16 : ∀ h : 0 < y163.size, ((y163[0]'h).toNat : Int) = bt y163 0 := bt_at y163 0
             clear p16
             replace q16 := eq_true q16
             go_wp2_with (fail)
             repeat ((go_region); try go_wp2_with (first | (go_at_call 58; (with_reducible refine (strings_IndexByte.calls (⟨#[48, 49, 40, 41, 124, 42]⟩ : ByteArray) (bt y163 0) t164 _ A17.out).mono ?_); rintro e w' ⟨rfl, rfl⟩) | (go_at_call 59; (with_reducible refine (strings_HasPrefix.calls y163 (⟨#[60, 47]⟩ : ByteArray) false _ A21.out).mono ?_); rintro e w' ⟨rfl, ⟨nd, rfl⟩⟩; have p28 : 0 ≤ (0 : Int) := (by omega); have q28 : 0 < y163.size := (by have : (0 : Int) < (y163.size : Int) := of_decide_eq_true (by (with_reducible assumption)); omega); clear p28; clear q28; have p37 : 0 ≤ (0 : Int) := (by omega); have q37 : 0 < y163.size := (by have : (0 : Int) < (y163.size : Int) := of_decide_eq_true (by (with_reducible assumption)); omega); clear p37; clear q37) | (go_at_call 60; (with_reducible refine (expr_named.calls kj1 y174 (⟨#[62]⟩ : ByteArray) t175 t176 t177 _ A40.out).mono ?_); rintro e w' ⟨rfl, ⟨nd, rfl⟩⟩)))
             go_end0
             exact ⟨by rfl, by repeat ((with_reducible first | exact HI0.out | apply IsS75.drewN | apply IsS75.set_3 | apply IsS75.set_4 | apply IsS75.set_5 | apply IsS75.set_6 | apply IsS75.set_7)), by repeat ((with_reducible first | exact HB.out | apply pw_below_drewN | refine below_set ?_ (IsS75.ge HI0.out))), by repeat ((with_reducible first | exact HK.out | apply KeepBut.set_ | apply keep_drewN))⟩
            ·rw [if_neg c41] at H
             have c41b0 : decide (0 < t177) = false := decide_eq_false c41
             clear c41
             simp only [Option.some.injEq, Prod.mk.injEq] at H
             obtain ⟨rfl, rfl, rfl, rfl, rfl, rfl, rfl, rfl, rfl, rfl⟩ := H
             obtain ⟨ASz43_0, cSz43_0, HGz43, hgz43, HSz43_0, HDz43_0⟩ := HI0.out
             obtain ⟨hcz43_0, hcz43_1, hcz43_2, hcz43_3, hcz43_4, hcz43_5, hcz43_6, hcz43_7, hcz43_8, hcz43_9, hcz43_10, -, hfz43_1, hfz43_2, hfz43_3, hfz43_4, hfz43_5, hfz43_6, hfz43_7, hfz43_8, hfz43_9, hfz43_10⟩ := cells11 HGz43
             clear HGz43 hgz43
             have p16 : 0 ≤ (0 : Int) := (by omega)
             have q16 : 0 < y163.size := (by have : (0 : Int) < (y163.size : Int) := of_decide_eq_true (by (with_reducible assumption)); omega)
             have hx16 : ∀ h : 0 < y163.size, ((y163[0]'h).toNat : Int) = bt y163 0 := bt_at y163 0
             clear p16
             replace q16 := eq_true q16
             go_wp2_with (fail)
             repeat ((go_region); try go_wp2_with (first | (go_at_call 58; (with_reducible refine (strings_IndexByte.calls (⟨#[48, 49, 40, 41, 124, 42]⟩ : ByteArray) (bt y163 0) t164 _ A17.out).mono ?_); rintro e w' ⟨rfl, rfl⟩) | (go_at_call 59; (with_reducible refine (strings_HasPrefix.calls y163 (⟨#[60, 47]⟩ : ByteArray) false _ A21.out).mono ?_); rintro e w' ⟨rfl, ⟨nd, rfl⟩⟩; have p28 : 0 ≤ (0 : Int) := (by omega); have q28 : 0 < y163.size := (by have : (0 : Int) < (y163.size : Int) := of_decide_eq_true (by (with_reducible assumption)); omega); clear p28; clear q28; have p37 : 0 ≤ (0 : Int) := (by omega); have q37 : 0 < y163.size := (by have : (0 : Int) < (y163.size : Int) := of_decide_eq_true (by (with_reducible assumption)); omega); clear p37; clear q37) | (go_at_call 60; (with_reducible refine (expr_named.calls kj1 y174 (⟨#[62]⟩ : ByteArray) t175 t176 t177 _ A40.out).mono ?_); rintro e w' ⟨rfl, ⟨nd, rfl⟩⟩)))
             go_end0
             exact ⟨by rfl, by repeat ((with_reducible first | exact HI0.out | apply IsS75.drewN | apply IsS75.set_3 | apply IsS75.set_4 | apply IsS75.set_5 | apply IsS75.set_6 | apply IsS75.set_7)), by repeat ((with_reducible first | exact HB.out | apply pw_below_drewN | refine below_set ?_ (IsS75.ge HI0.out))), by repeat ((with_reducible first | exact HK.out | apply KeepBut.set_ | apply keep_drewN))⟩
           ·rw [if_neg c39] at H
            exact absurd H (by simp)
          ·rw [if_neg c38] at H
           have c38b0 := bF c38
           replace H := Option.bind_eq_some_iff.mp H
           obtain ⟨⟨t178, t179, t180⟩, A440, H⟩ := H
           try dsimp only at H
           have A44 := M0 A440
           clear A440
           by_cases c45 : t180 > 0
           ·rw [if_pos c45] at H
            have c45b0 : decide (0 < t180) = true := decide_eq_true c45
            clear c45
            simp only [Option.some.injEq, Prod.mk.injEq] at H
            obtain ⟨rfl, rfl, rfl, rfl, rfl, rfl, rfl, rfl, rfl, rfl⟩ := H
            obtain ⟨ASz46_0, cSz46_0, HGz46, hgz46, HSz46_0, HDz46_0⟩ := HI0.out
            obtain ⟨hcz46_0, hcz46_1, hcz46_2, hcz46_3, hcz46_4, hcz46_5, hcz46_6, hcz46_7, hcz46_8, hcz46_9, hcz46_10, -, hfz46_1, hfz46_2, hfz46_3, hfz46_4, hfz46_5, hfz46_6, hfz46_7, hfz46_8, hfz46_9, hfz46_10⟩ := cells11 HGz46
            clear HGz46 hgz46
            have p16 : 0 ≤ (0 : Int) := (by omega)
            have q16 : 0 < y163.size := (by have : (0 : Int) < (y163.size : Int) := of_decide_eq_true (by (with_reducible assumption)); omega)
            have hx16 : ∀ h : 0 < y163.size, ((y163[0]'h).toNat : Int) = bt y163 0 := bt_at y163 0
            clear p16
            replace q16 := eq_true q16
            go_wp2_with (fail)
            repeat ((go_region); try go_wp2_with (first | (go_at_call 58; (with_reducible refine (strings_IndexByte.calls (⟨#[48, 49, 40, 41, 124, 42]⟩ : ByteArray) (bt y163 0) t164 _ A17.out).mono ?_); rintro e w' ⟨rfl, rfl⟩) | (go_at_call 59; (with_reducible refine (strings_HasPrefix.calls y163 (⟨#[60, 47]⟩ : ByteArray) false _ A21.out).mono ?_); rintro e w' ⟨rfl, ⟨nd, rfl⟩⟩; have p28 : 0 ≤ (0 : Int) := (by omega); have q28 : 0 < y163.size := (by have : (0 : Int) < (y163.size : Int) := of_decide_eq_true (by (with_reducible assumption)); omega); clear p28; clear q28; have p37 : 0 ≤ (0 : Int) := (by omega); have q37 : 0 < y163.size := (by have : (0 : Int) < (y163.size : Int) := of_decide_eq_true (by (with_reducible assumption)); omega); clear p37; clear q37) | (go_at_call 60; (with_reducible refine (expr_named.calls kj1 y163 (⟨#[]⟩ : ByteArray) t178 t179 t180 _ A44.out).mono ?_); rintro e w' ⟨rfl, ⟨nd, rfl⟩⟩)))
            go_end0
            exact ⟨by rfl, by repeat ((with_reducible first | exact HI0.out | apply IsS75.drewN | apply IsS75.set_3 | apply IsS75.set_4 | apply IsS75.set_5 | apply IsS75.set_6 | apply IsS75.set_7)), by repeat ((with_reducible first | exact HB.out | apply pw_below_drewN | refine below_set ?_ (IsS75.ge HI0.out))), by repeat ((with_reducible first | exact HK.out | apply KeepBut.set_ | apply keep_drewN))⟩
           ·rw [if_neg c45] at H
            have c45b0 : decide (0 < t180) = false := decide_eq_false c45
            clear c45
            simp only [Option.some.injEq, Prod.mk.injEq] at H
            obtain ⟨rfl, rfl, rfl, rfl, rfl, rfl, rfl, rfl, rfl, rfl⟩ := H
            obtain ⟨ASz47_0, cSz47_0, HGz47, hgz47, HSz47_0, HDz47_0⟩ := HI0.out
            obtain ⟨hcz47_0, hcz47_1, hcz47_2, hcz47_3, hcz47_4, hcz47_5, hcz47_6, hcz47_7, hcz47_8, hcz47_9, hcz47_10, -, hfz47_1, hfz47_2, hfz47_3, hfz47_4, hfz47_5, hfz47_6, hfz47_7, hfz47_8, hfz47_9, hfz47_10⟩ := cells11 HGz47
            clear HGz47 hgz47
            have p16 : 0 ≤ (0 : Int) := (by omega)
            have q16 : 0 < y163.size := (by have : (0 : Int) < (y163.size : Int) := of_decide_eq_true (by (with_reducible assumption)); omega)
            have hx16 : ∀ h : 0 < y163.size, ((y163[0]'h).toNat : Int) = bt y163 0 := bt_at y163 0
            clear p16
            replace q16 := eq_true q16
            go_wp2_with (fail)
            repeat ((go_region); try go_wp2_with (first | (go_at_call 58; (with_reducible refine (strings_IndexByte.calls (⟨#[48, 49, 40, 41, 124, 42]⟩ : ByteArray) (bt y163 0) t164 _ A17.out).mono ?_); rintro e w' ⟨rfl, rfl⟩) | (go_at_call 59; (with_reducible refine (strings_HasPrefix.calls y163 (⟨#[60, 47]⟩ : ByteArray) false _ A21.out).mono ?_); rintro e w' ⟨rfl, ⟨nd, rfl⟩⟩; have p28 : 0 ≤ (0 : Int) := (by omega); have q28 : 0 < y163.size := (by have : (0 : Int) < (y163.size : Int) := of_decide_eq_true (by (with_reducible assumption)); omega); clear p28; clear q28; have p37 : 0 ≤ (0 : Int) := (by omega); have q37 : 0 < y163.size := (by have : (0 : Int) < (y163.size : Int) := of_decide_eq_true (by (with_reducible assumption)); omega); clear p37; clear q37) | (go_at_call 60; (with_reducible refine (expr_named.calls kj1 y163 (⟨#[]⟩ : ByteArray) t178 t179 t180 _ A44.out).mono ?_); rintro e w' ⟨rfl, ⟨nd, rfl⟩⟩)))
            go_end0
            exact ⟨by rfl, by repeat ((with_reducible first | exact HI0.out | apply IsS75.drewN | apply IsS75.set_3 | apply IsS75.set_4 | apply IsS75.set_5 | apply IsS75.set_6 | apply IsS75.set_7)), by repeat ((with_reducible first | exact HB.out | apply pw_below_drewN | refine below_set ?_ (IsS75.ge HI0.out))), by repeat ((with_reducible first | exact HK.out | apply KeepBut.set_ | apply keep_drewN))⟩
      ·rw [if_neg c15] at H
       exact absurd H (by simp)
    ·rw [if_neg c12] at H
     exact absurd H (by simp)
   ·rw [if_neg c11] at H
    exact absurd H (by simp)

end Go.Proofs.Ytodbnnfiadcbaaa.P

import Derived.Test.YtodbnnfiadcbaaaVcT
import Derived.Test.YtodbnnfiadcbaaaVcDf
/- The seat's values as the machine sees them. -/
set_option linter.unusedVariables false
set_option linter.unusedSimpArgs false
set_option linter.unusedSectionVars false
namespace Go.V.S
open Go.Proofs Go.RowKit Go.Proofs.Ytodbnnfiadcbaaa.P

def symE (s : S56) : List T := [.v (.string s.f0), .v (.int .i64 s.f1)]
def symsE (l : List S56) : T := .sl (l.map symE)
mutual
def nodeE : S28 → List T
 | ⟨a, b, c, l⟩ => [.v (.int .i64 a), .v (.int .i64 b), .v (.int .i64 c), .sl (rowE l)]
def rowE : List S28 → List (List T)
 | [] => []
 | x :: r => nodeE x :: rowE r
end
def kidsE (l : List S28) : T := .sl (rowE l)
def treeA (a b c : Int) (l : List S28) : AV := .agg [.i a, .i b, .i c, .t (kidsE l)]
def intsE (l : List Int) : T := .sl (l.map fun n => [.v (.int .i64 n)])

theorem nodeE_eq (x : S28) : nodeE x = [.v (.int .i64 x.f0), .v (.int .i64 x.f1), .v (.int .i64 x.f2), .sl (rowE x.f3)] := by cases x; rw [nodeE]
theorem rowE_eq : ∀ l : List S28, rowE l = l.map nodeE
 | [] => by rw [rowE]; rfl
 | x :: r => by rw [rowE, rowE_eq r]; rfl
theorem rowE_len (l : List S28) : (rowE l).length = l.length := by rw [rowE_eq, List.length_map]
theorem rowE_wd (l : List S28) : Wd 4 (rowE l) := by rw [rowE_eq]; exact Wd.map fun x => by rw [nodeE_eq]; rfl
theorem rowE_take (l : List S28) (n : Nat) : rowE (l.take n) = (rowE l).take n := by rw [rowE_eq, rowE_eq, List.map_take]
theorem vix28 {n : Int} {l : List S28} {z : Nat} {K : List T → Prop} (h0 : 0 ≤ n) (h1 : n < (l.length : Int)) (hz : z = 4)
 (hK : K [.v (.int .i64 (rd_T28 l n).f0), .v (.int .i64 (rd_T28 l n).f1), .v (.int .i64 (rd_T28 l n).f2), .sl (rowE (rd_T28 l n).f3)]) :
 ∃ el, (rowE l)[n.toNat]? = some el ∧ el.length = z ∧ K el := by
 have hn : n.toNat < l.length := by omega
 refine ⟨_, ?_, hz.symm ▸ rfl, hK⟩
 rw [rowE_eq, List.getElem?_map, List.getElem?_eq_getElem hn]
 simp only [Option.map_some, nodeE_eq, rd_T28, List.getD_eq_getElem?_getD, List.getElem?_eq_getElem hn, Option.getD_some]
theorem vix56 {n : Int} {l : List S56} {z : Nat} {K : List T → Prop} (h0 : 0 ≤ n) (h1 : n < (l.length : Int)) (hz : z = 2)
 (hK : K [.v (.string (rd_T56 l n).f0), .v (.int .i64 (rd_T56 l n).f1)]) :
 ∃ el, (l.map symE)[n.toNat]? = some el ∧ el.length = z ∧ K el := by
 have hn : n.toNat < l.length := by omega
 refine ⟨_, ?_, hz.symm ▸ rfl, hK⟩
 rw [List.getElem?_map, List.getElem?_eq_getElem hn]
 simp only [Option.map_some, symE, rd_T56, List.getD_eq_getElem?_getD, List.getElem?_eq_getElem hn, Option.getD_some]
theorem vixI {n : Int} {l : List Int} {z : Nat} {K : List T → Prop} (h0 : 0 ≤ n) (h1 : n < (l.length : Int)) (hz : z = 1)
 (hK : K [.v (.int .i64 (rd l n))]) :
 ∃ el, (l.map fun n => [T.v (.int .i64 n)])[n.toNat]? = some el ∧ el.length = z ∧ K el := by
 have hn : n.toNat < l.length := by omega
 refine ⟨_, ?_, hz.symm ▸ rfl, hK⟩
 rw [List.getElem?_map, List.getElem?_eq_getElem hn]
 simp only [Option.map_some, rd, List.getD_eq_getElem?_getD, List.getElem?_eq_getElem hn, Option.getD_some]

theorem ite_some {α : Type} {c : Prop} [Decidable c] {x : Option α} {r : α} (h : (if c then x else none) = some r) : c ∧ x = some r := by
 split at h
 ·exact ⟨by assumption, h⟩
 ·cases h
theorem ite_none {α : Type} {c : Prop} [Decidable c] {x : Option α} {r : α} (h : (if c then none else x) = some r) : ¬ c ∧ x = some r := by
 split at h
 ·cases h
 ·exact ⟨by assumption, h⟩
theorem LeO.go {α : Type} {a b : Option α} {r : α} (h : LeO a b) (e : a = some r) : b = some r := h r e
theorem bsz (a : Array UInt8) : (ByteArray.mk a).size = a.size := rfl
theorem wrap64_eq (n : Int) : IntKind.i64.wrap n = wrap64 n := by unfold wrap64; exact IntKind.wrap_i64 n
end Go.V.S

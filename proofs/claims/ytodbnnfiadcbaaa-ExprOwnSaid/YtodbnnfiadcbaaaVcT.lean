import Derived.Test.YtodbnnfiadcbaaaVcK
import Derived.Test.YtodbnnfiadcbaaaChecked
import Derived.KernelRfl
import Derived.NoCompiler
import Derived.TacticsIn
/- The seat's types, as a table. -/
set_option linter.unusedVariables false
set_option linter.unusedSimpArgs false
set_option linter.unusedSectionVars false
namespace Go.V.S
open Go.Proofs Go.RowKit
def tabL : List TI := [⟨.bad, 0, 0, [], []⟩,
 ⟨.sc, 1, 8, [.nilFunc], []⟩,
 ⟨.int .i64, 1, 8, [.int .i64 0], []⟩,
 ⟨.int .i64, 1, 8, [.int .i64 0], []⟩,
 ⟨.bl, 1, 1, [.bool false], []⟩,
 ⟨.int .u8, 1, 1, [.int .u8 0], []⟩,
 ⟨.int .u8, 1, 1, [.int .u8 0], []⟩,
 ⟨.st [(0, 2), (1, 3), (2, 4), (3, 6)], 4, 24, [.int .i64 0, .int .i64 0, .bool false, .int .u8 0], []⟩,
 ⟨.st [(0, 2), (1, 3), (2, 4), (3, 6)], 4, 24, [.int .i64 0, .int .i64 0, .bool false, .int .u8 0], []⟩,
 ⟨.str, 1, 16, [.string ⟨#[]⟩], []⟩,
 ⟨.str, 1, 16, [.string ⟨#[]⟩], []⟩,
 ⟨.str, 1, 16, [.string ⟨#[]⟩], []⟩,
 ⟨.int .u64, 1, 8, [.int .u64 0], []⟩,
 ⟨.st [(0, 9), (1, 12)], 2, 24, [.string ⟨#[]⟩, .int .u64 0], []⟩,
 ⟨.st [(0, 9), (1, 12)], 2, 24, [.string ⟨#[]⟩, .int .u64 0], []⟩,
 ⟨.sc, 1, 8, [.pointer none], []⟩,
 ⟨.sc, 1, 8, [.pointer none], []⟩,
 ⟨.sc, 1, 8, [.pointer none], []⟩,
 ⟨.st [(0, 17)], 1, 8, [.pointer none], []⟩,
 ⟨.st [(0, 17)], 1, 8, [.pointer none], []⟩,
 ⟨.sc, 1, 16, [.nilIface], []⟩,
 ⟨.int .i32, 1, 4, [.int .i32 0], []⟩,
 ⟨.sl 3, 1, 24, [.slice none 0 0], []⟩,
 ⟨.sc, 1, 8, [.nilFunc], []⟩,
 ⟨.sl 56, 1, 24, [.slice none 0 0], []⟩,
 ⟨.sc, 1, 8, [.nilFunc], []⟩,
 ⟨.sl 28, 1, 24, [.slice none 0 0], []⟩,
 ⟨.st [(0, 3), (1, 3), (2, 3), (3, 26)], 4, 48, [.int .i64 0, .int .i64 0, .int .i64 0, .slice none 0 0], []⟩,
 ⟨.st [(0, 3), (1, 3), (2, 3), (3, 26)], 4, 48, [.int .i64 0, .int .i64 0, .int .i64 0, .slice none 0 0], []⟩,
 ⟨.sc, 1, 8, [.nilFunc], []⟩,
 ⟨.sc, 1, 8, [.nilFunc], []⟩,
 ⟨.int .i64, 1, 8, [.int .i64 0], []⟩,
 ⟨.sc, 1, 8, [.nilFunc], []⟩,
 ⟨.sc, 1, 8, [.nilFunc], []⟩,
 ⟨.bad, 0, 0, [], []⟩,
 ⟨.sc, 1, 8, [.nilFunc], []⟩,
 ⟨.sc, 1, 8, [.nilFunc], []⟩,
 ⟨.sc, 1, 8, [.nilFunc], []⟩,
 ⟨.sc, 1, 8, [.nilFunc], []⟩,
 ⟨.sl 9, 1, 24, [.slice none 0 0], []⟩,
 ⟨.sc, 1, 8, [.nilFunc], []⟩,
 ⟨.bad, 0, 0, [], []⟩,
 ⟨.sc, 1, 8, [.nilFunc], []⟩,
 ⟨.sc, 1, 8, [.nilFunc], []⟩,
 ⟨.sc, 1, 8, [.nilFunc], []⟩,
 ⟨.bad, 0, 0, [], []⟩,
 ⟨.sc, 1, 8, [.nilFunc], []⟩,
 ⟨.sc, 1, 8, [.nilFunc], []⟩,
 ⟨.sc, 1, 8, [.nilFunc], []⟩,
 ⟨.sc, 1, 8, [.nilFunc], []⟩,
 ⟨.sc, 1, 8, [.nilFunc], []⟩,
 ⟨.sl 31, 1, 24, [.slice none 0 0], []⟩,
 ⟨.sc, 1, 8, [.nilFunc], []⟩,
 ⟨.sc, 1, 8, [.nilFunc], []⟩,
 ⟨.sc, 1, 8, [.nilFunc], []⟩,
 ⟨.st [(0, 9), (1, 3)], 2, 24, [.string ⟨#[]⟩, .int .i64 0], []⟩,
 ⟨.st [(0, 9), (1, 3)], 2, 24, [.string ⟨#[]⟩, .int .i64 0], [.s, .i]⟩,
 ⟨.sc, 1, 8, [.pointer none], []⟩,
 ⟨.st [(0, 24), (1, 22), (2, 3)], 3, 56, [.slice none 0 0, .slice none 0 0, .int .i64 0], []⟩,
 ⟨.st [(0, 24), (1, 22), (2, 3)], 3, 56, [.slice none 0 0, .slice none 0 0, .int .i64 0], []⟩,
 ⟨.sc, 1, 8, [.nilFunc], []⟩,
 ⟨.sc, 1, 8, [.nilFunc], []⟩,
 ⟨.sc, 1, 8, [.nilFunc], []⟩,
 ⟨.sc, 1, 8, [.nilFunc], []⟩,
 ⟨.sc, 1, 8, [.nilFunc], []⟩,
 ⟨.sc, 1, 8, [.pointer none], []⟩,
 ⟨.st [(0, 24), (1, 3), (2, 4), (3, 4), (4, 4), (5, 4)], 6, 40, [.slice none 0 0, .int .i64 0, .bool false, .bool false, .bool false, .bool false], []⟩,
 ⟨.st [(0, 24), (1, 3), (2, 4), (3, 4), (4, 4), (5, 4)], 6, 40, [.slice none 0 0, .int .i64 0, .bool false, .bool false, .bool false, .bool false], []⟩,
 ⟨.sc, 1, 8, [.nilFunc], []⟩,
 ⟨.sc, 1, 8, [.nilFunc], []⟩,
 ⟨.sc, 1, 8, [.nilFunc], []⟩,
 ⟨.sc, 1, 8, [.pointer none], []⟩,
 ⟨.st [(0, 3), (1, 56), (3, 5)], 4, 40, [.int .i64 0, .string ⟨#[]⟩, .int .i64 0, .int .u8 0], []⟩,
 ⟨.st [(0, 3), (1, 56), (3, 5)], 4, 40, [.int .i64 0, .string ⟨#[]⟩, .int .i64 0, .int .u8 0], [.i, .s, .i, .i]⟩,
 ⟨.st [(0, 24), (1, 9), (2, 3), (3, 3), (4, 73), (8, 3), (9, 31), (10, 3)], 11, 120, [.slice none 0 0, .string ⟨#[]⟩, .int .i64 0, .int .i64 0, .int .i64 0, .string ⟨#[]⟩, .int .i64 0, .int .u8 0, .int .i64 0, .int .i64 0, .int .i64 0], []⟩,
 ⟨.st [(0, 24), (1, 9), (2, 3), (3, 3), (4, 73), (8, 3), (9, 31), (10, 3)], 11, 120, [.slice none 0 0, .string ⟨#[]⟩, .int .i64 0, .int .i64 0, .int .i64 0, .string ⟨#[]⟩, .int .i64 0, .int .u8 0, .int .i64 0, .int .i64 0, .int .i64 0], []⟩,
 ⟨.sc, 1, 8, [.nilFunc], []⟩,
 ⟨.sc, 1, 8, [.nilFunc], []⟩,
 ⟨.sc, 1, 8, [.nilFunc], []⟩,
 ⟨.sc, 1, 8, [.nilFunc], []⟩,
 ⟨.sl 5, 1, 24, [.slice none 0 0], []⟩,
 ⟨.sc, 1, 8, [.pointer none], []⟩,
 ⟨.st [(0, 24), (1, 9), (2, 3), (3, 3), (4, 3), (5, 3)], 6, 72, [.slice none 0 0, .string ⟨#[]⟩, .int .i64 0, .int .i64 0, .int .i64 0, .int .i64 0], []⟩,
 ⟨.st [(0, 24), (1, 9), (2, 3), (3, 3), (4, 3), (5, 3)], 6, 72, [.slice none 0 0, .string ⟨#[]⟩, .int .i64 0, .int .i64 0, .int .i64 0, .int .i64 0], []⟩,
 ⟨.bad, 0, 0, [], []⟩,
 ⟨.sc, 1, 8, [.nilFunc], []⟩,
 ⟨.sc, 1, 8, [.nilFunc], []⟩,
 ⟨.sc, 1, 8, [.nilFunc], []⟩,
 ⟨.sc, 1, 8, [.pointer none], []⟩,
 ⟨.st [(0, 22), (1, 3)], 2, 32, [.slice none 0 0, .int .i64 0], []⟩,
 ⟨.st [(0, 22), (1, 3)], 2, 32, [.slice none 0 0, .int .i64 0], []⟩,
 ⟨.sc, 1, 8, [.pointer none], []⟩,
 ⟨.mp 115 95, 1, 8, [.map none], []⟩,
 ⟨.st [(0, 22), (1, 92)], 2, 32, [.slice none 0 0, .map none], []⟩,
 ⟨.st [(0, 22), (1, 92)], 2, 32, [.slice none 0 0, .map none], []⟩,
 ⟨.sl 4, 1, 24, [.slice none 0 0], []⟩,
 ⟨.sc, 1, 8, [.nilFunc], []⟩,
 ⟨.sc, 1, 8, [.pointer none], []⟩,
 ⟨.sl 95, 1, 24, [.slice none 0 0], []⟩,
 ⟨.sc, 1, 8, [.nilFunc], []⟩,
 ⟨.sc, 1, 8, [.nilFunc], []⟩,
 ⟨.sc, 1, 8, [.nilFunc], []⟩,
 ⟨.sc, 1, 8, [.nilFunc], []⟩,
 ⟨.sc, 1, 8, [.nilFunc], []⟩,
 ⟨.sc, 1, 8, [.nilFunc], []⟩,
 ⟨.sc, 1, 8, [.nilFunc], []⟩,
 ⟨.sc, 1, 8, [.nilFunc], []⟩,
 ⟨.bad, 0, 0, [], []⟩,
 ⟨.sc, 1, 8, [.nilFunc], []⟩,
 ⟨.sc, 1, 8, [.nilFunc], []⟩,
 ⟨.sc, 1, 8, [.nilFunc], []⟩,
 ⟨.sc, 1, 8, [.nilFunc], []⟩,
 ⟨.sc, 1, 8, [.nilFunc], []⟩,
 ⟨.bad, 0, 0, [], []⟩,
 ⟨.st [(0, 97), (1, 3)], 2, 16, [.pointer none, .int .i64 0], []⟩,
 ⟨.st [(0, 97), (1, 3)], 2, 16, [.pointer none, .int .i64 0], []⟩,
 ⟨.sc, 1, 8, [.nilFunc], []⟩,
 ⟨.sc, 1, 8, [.nilFunc], []⟩,
 ⟨.sc, 1, 8, [.nilFunc], []⟩,
 ⟨.sc, 1, 8, [.pointer none], []⟩,
 ⟨.st [(0, 119), (1, 80)], 2, 32, [.pointer none, .slice none 0 0], []⟩,
 ⟨.st [(0, 119), (1, 80)], 2, 32, [.pointer none, .slice none 0 0], []⟩,
 ⟨.sc, 1, 8, [.nilFunc], []⟩,
 ⟨.sc, 1, 16, [.nilIface], []⟩,
 ⟨.sc, 1, 16, [.nilIface], []⟩,
 ⟨.bad, 0, 0, [], []⟩,
 ⟨.sc, 1, 8, [.nilFunc], []⟩,
 ⟨.sc, 1, 8, [.nilFunc], []⟩,
 ⟨.sc, 1, 8, [.nilFunc], []⟩,
 ⟨.sc, 1, 8, [.pointer none], []⟩,
 ⟨.sc, 1, 8, [.nilFunc], []⟩,
 ⟨.sc, 1, 8, [.nilFunc], []⟩,
 ⟨.sc, 1, 8, [.pointer none], []⟩,
 ⟨.sc, 1, 8, [.nilFunc], []⟩,
 ⟨.sc, 1, 8, [.nilFunc], []⟩,
 ⟨.sc, 1, 8, [.nilFunc], []⟩,
 ⟨.sc, 1, 8, [.nilFunc], []⟩,
 ⟨.st [(0, 17), (1, 17), (2, 17), (3, 9)], 4, 40, [.pointer none, .pointer none, .pointer none, .string ⟨#[]⟩], []⟩,
 ⟨.st [(0, 17), (1, 17), (2, 17), (3, 9)], 4, 40, [.pointer none, .pointer none, .pointer none, .string ⟨#[]⟩], []⟩,
 ⟨.ar 0 16, 0, 0, [], []⟩,
 ⟨.st [(0, 139)], 0, 0, [], []⟩,
 ⟨.st [(0, 139)], 0, 0, [], []⟩,
 ⟨.int .u32, 1, 4, [.int .u32 0], []⟩,
 ⟨.int .u8, 1, 1, [.int .u8 0], []⟩,
 ⟨.int .u8, 1, 1, [.int .u8 0], []⟩,
 ⟨.sc, 1, 8, [.nilFunc], []⟩,
 ⟨.int .i32, 1, 4, [.int .i32 0], []⟩,
 ⟨.int .i32, 1, 4, [.int .i32 0], []⟩,
 ⟨.st [(0, 12), (1, 12), (2, 142), (3, 143), (4, 5), (5, 5), (6, 144), (7, 145), (8, 129), (9, 146), (10, 147)], 11, 48, [.int .u64 0, .int .u64 0, .int .u32 0, .int .u8 0, .int .u8 0, .int .u8 0, .int .u8 0, .nilFunc, .pointer none, .int .i32 0, .int .i32 0], []⟩,
 ⟨.st [(0, 12), (1, 12), (2, 142), (3, 143), (4, 5), (5, 5), (6, 144), (7, 145), (8, 129), (9, 146), (10, 147)], 11, 48, [.int .u64 0, .int .u64 0, .int .u32 0, .int .u8 0, .int .u8 0, .int .u8 0, .int .u8 0, .nilFunc, .pointer none, .int .i32 0, .int .i32 0], []⟩]

def bad : TI := ⟨.bad, 0, 0, [], []⟩
def tab : Tys := fun t => tabL.getD t bad
instance : Wid := ⟨fun t => (tab t).n⟩
noncomputable def tiP (t : TypeId) : TI := (tiOf Try.prog t).getD bad
def idx : List Nat := (List.range 150).filter fun t => (tab t).k.ok?
theorem tabL_eq : idx.map tiP = idx.map fun t => { tab t with q := [] } := by kernel_rfl

def EKm (k : EK) (x y : Value) (b : Bool) : Prop :=
 match k with
 | .i => ∃ kk m n, x = .int kk m ∧ y = .int kk n ∧ b = (m == n)
 | .s => ∃ m n, x = .string m ∧ y = .string n ∧ b = (m == n)
 | .b => ∃ m n, x = .bool m ∧ y = .bool n ∧ b = (m == n)
theorem eqV_cons {k : EK} {ks : List EK} {xs ys : List Value} {r : Bool} (h : eqV (k :: ks) xs ys = some r) :
 ∃ x y xs' ys' r' b, xs = x :: xs' ∧ ys = y :: ys' ∧ eqV ks xs' ys' = some r' ∧ r = (b && r') ∧ EKm k x y b := by
 cases xs with
 | nil => cases k <;> simp [eqV] at h
 | cons x xs =>
  cases ys with
  | nil => cases k <;> cases x <;> simp [eqV] at h
  | cons y ys =>
   cases k with
   | i =>
    cases x <;> cases y <;> try (simp [eqV] at h; done)
    rename_i k1 m k2 n
    simp only [eqV] at h
    split at h
    ·rename_i e; subst e
     obtain ⟨r', h1, h2⟩ := Option.map_eq_some_iff.1 h
     exact ⟨_, _, _, _, r', _, rfl, rfl, h1, h2.symm, _, _, _, rfl, rfl, rfl⟩
    ·cases h
   | s =>
    cases x <;> cases y <;> try (simp [eqV] at h; done)
    rename_i m n
    obtain ⟨r', h1, h2⟩ := Option.map_eq_some_iff.1 (show (eqV ks xs ys).map (fun r => (m == n) && r) = some r from h)
    exact ⟨_, _, _, _, r', _, rfl, rfl, h1, h2.symm, _, _, rfl, rfl, rfl⟩
   | b =>
    cases x <;> cases y <;> try (simp [eqV] at h; done)
    rename_i m n
    obtain ⟨r', h1, h2⟩ := Option.map_eq_some_iff.1 (show (eqV ks xs ys).map (fun r => (m == n) && r) = some r from h)
    exact ⟨_, _, _, _, r', _, rfl, rfl, h1, h2.symm, _, _, rfl, rfl, rfl⟩
theorem eqV_nil {xs ys : List Value} {r : Bool} (h : eqV [] xs ys = some r) : xs = [] ∧ ys = [] ∧ r = true := by
 cases xs <;> cases ys <;> simp [eqV] at h
 simp [h]

section
variable {P : Program} {d : Nat} {xs ys : Array Value} {f : Field} {fs : List Field} {a b : Value} {r s : Bool} {w : World}
theorem eqf_cons (hn : (f.name == "_") = false) (ha : (part f.type xs f.offset).run P w = .ok a w) (hb : (part f.type ys f.offset).run P w = .ok b w) (he : (Op.equalIn d f.type a b).run P w = .ok r w)
 (hr : (Op.eqFields d xs ys fs).run P w = .ok s w) : (Op.eqFields d xs ys (f :: fs)).run P w = .ok (r && s) w := by
 have hn' : f.name ≠ "_" := by simpa using hn
 rw [Op.eqFields]
 simp only [if_pos hn', Sem.run_bind, ha, hb, he, Result.andThen_ok]
 cases r
 ·simp
 ·simpa using hr
theorem eqf_nil : (Op.eqFields d xs ys []).run P w = .ok true w := rfl
theorem eqA_of {t : TypeId} {fs : Array Field} (hu : P.underlying t = some (.struct fs)) (hp : P.stoodInHeld t = false) (h : (Op.eqFields d xs ys fs.toList).run P w = .ok r w) :
 (Op.equalIn (d + 1) t (.agg xs) (.agg ys)).run P w = .ok r w := by
 have hf : P.fieldsOf t = fs := by simp [Program.fieldsOf, hu]
 rw [run_equalIn_struct (P := P) w d t xs ys (by rw [hf]; exact hu) hp, hf]
 exact h
end

theorem eqA56 (d : Nat) (w : World) (x0 y0 : ByteArray) (k : IntKind) (x1 y1 : Int) :
 (Op.equalIn (d + 2) 56 (.agg #[.string x0, .int k x1]) (.agg #[.string y0, .int k y1])).run Try.prog w = .ok ((x0 == y0) && ((x1 == y1) && true)) w := by
 refine eqA_of Try.underlying56 (by kernel_rfl) ?_
 refine eqf_cons (by rfl) (by go_simp <;> rfl) (by go_simp <;> rfl) (by rw [run_equalIn_string _ _ _ _ _ Try.underlying9, bytes_beq]) ?_
 exact eqf_cons (by rfl) (by go_simp <;> rfl) (by go_simp <;> rfl) (run_equalIn_int _ _ _ _ _ _ _ Try.underlying3) eqf_nil

theorem eq56 : EqOk Try.prog 56 [.s, .i] := by
 intro w xs ys r h
 obtain ⟨_, _, xs1, ys1, r1, b1, rfl, rfl, h1, rfl, m, n, rfl, rfl, rfl⟩ := eqV_cons h
 obtain ⟨_, _, xs2, ys2, r2, b2, rfl, rfl, h2, rfl, k, p, q, rfl, rfl, rfl⟩ := eqV_cons h1
 obtain ⟨rfl, rfl, rfl⟩ := eqV_nil h2
 exact ⟨fun op x y => run_eqGuard_agg w op 56 x y _ _ (by kernel_rfl), eqA56 _ w m n k p q⟩

theorem eq73 : EqOk Try.prog 73 [.i, .s, .i, .i] := by
 intro w xs ys r h
 obtain ⟨_, _, xs1, ys1, r1, b1, rfl, rfl, h1, rfl, k1, p1, q1, rfl, rfl, rfl⟩ := eqV_cons h
 obtain ⟨_, _, xs2, ys2, r2, b2, rfl, rfl, h2, rfl, m, n, rfl, rfl, rfl⟩ := eqV_cons h1
 obtain ⟨_, _, xs3, ys3, r3, b3, rfl, rfl, h3, rfl, k2, p2, q2, rfl, rfl, rfl⟩ := eqV_cons h2
 obtain ⟨_, _, xs4, ys4, r4, b4, rfl, rfl, h4, rfl, k3, p3, q3, rfl, rfl, rfl⟩ := eqV_cons h3
 obtain ⟨rfl, rfl, rfl⟩ := eqV_nil h4
 refine ⟨fun op x y => run_eqGuard_agg w op 73 x y _ _ (by kernel_rfl), ?_⟩
 have : ∀ a b c d : Bool, (a && (b && (c && (d && true)))) = (a && ((b && (c && true)) && (d && true))) := by decide
 rw [this]
 refine eqA_of Try.underlying73 (by kernel_rfl) ?_
 refine eqf_cons (by rfl) (by go_simp <;> rfl) (by go_simp <;> rfl) (run_equalIn_int _ _ _ _ _ _ _ Try.underlying3) ?_
 refine eqf_cons (by rfl) (by go_simp <;> rfl) (by go_simp <;> rfl) (eqA56 _ w m n k2 p2 q2) ?_
 exact eqf_cons (by rfl) (by go_simp <;> rfl) (by go_simp <;> rfl) (run_equalIn_int _ _ _ _ _ _ _ Try.underlying5) eqf_nil

theorem tab_ok : Tab Try.prog tab := by
 refine ⟨fun t ht => ?_, fun t ht => ?_, by kernel_rfl, fun _ _ => rfl⟩
 ·have hlt : t < 150 := by
   rcases Nat.lt_or_ge t 150 with h | h
   ·exact h
   ·exact absurd (by unfold tab; rw [List.getD_eq_getElem?_getD, List.getElem?_eq_none (Nat.le_trans (show tabL.length ≤ 150 from Nat.le_of_ble_eq_true (by kernel_rfl)) h)]; rfl) ht
  have hm : t ∈ idx := List.mem_filter.2 ⟨List.mem_range.2 hlt, by cases h : (tab t).k <;> first | rfl | exact absurd h ht⟩
  have he := List.map_inj_left.1 tabL_eq t hm
  unfold tiP at he
  cases hq : tiOf Try.prog t with
  | some x => rw [hq] at he; exact congrArg some he
  | none =>
   rw [hq] at he
   have hk : TK.bad = (tab t).k := congrArg TI.k he
   exact absurd hk.symm ht
 ·have : ∀ t, (tab t).q ≠ [] → t = 56 ∨ t = 73 := by
   intro t h
   have hlt : t < 150 := by
    rcases Nat.lt_or_ge t 150 with h' | h'
    ·exact h'
    ·exact absurd (by unfold tab; rw [List.getD_eq_getElem?_getD, List.getElem?_eq_none (Nat.le_trans (show tabL.length ≤ 150 from Nat.le_of_ble_eq_true (by kernel_rfl)) h')]; rfl) h
   have key : ((List.range 150).all fun t => (tab t).q.isEmpty || t == 56 || t == 73) = true := by kernel_rfl
   have := List.all_eq_true.1 key t (List.mem_range.2 hlt)
   simp only [Bool.or_eq_true, beq_iff_eq, List.isEmpty_iff] at this
   rcases this with (h1 | h1) | h1
   ·exact absurd h1 h
   ·exact .inl h1
   ·exact .inr h1
  rcases this t ht with rfl | rfl
  ·exact eq56
  ·exact eq73
end Go.V.S

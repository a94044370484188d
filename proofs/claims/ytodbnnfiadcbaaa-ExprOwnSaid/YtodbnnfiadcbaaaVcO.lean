import Derived.Test.YtodbnnfiadcbaaaVcU
/- A nil slice in a variable's field is a row of its own, with nothing in it. -/
set_option linter.unusedVariables false
set_option linter.unusedSimpArgs false
set_option linter.unusedSectionVars false
namespace Go.V
open Go.RowKit
variable [Wid]
section
variable {P : Program} {τ : Tys} {σ : AS}
def MR (P : Program) (f : FuncId) (cs xs : List AV) (Q : List AV → AV → Prop) : Prop := M P f [.st cs] xs [] fun h r => ∃ cs' ext, h = .st cs' :: ext ∧ cs'.all Go.V.imm0 = true ∧ imm r = true ∧ Q cs' r
def MQ (P : Program) (f : FuncId) (xs : List AV) (Q : AV → Prop) : Prop := M P f [] xs [] fun _ r => imm r = true ∧ Q r
theorem CallV.of_MQ {f : FuncId} {xs : List AV} {K : AV → AS → Prop} {xc : List AV} {Q : AV → Prop} (hM : MQ P f xc Q) (hxc : xs.map (cv σ.h [] []) = xc) (hp : cvP σ.h [] xs)
 (hK : ∀ x, Q x → K x σ) : CallV P f xs σ K :=
 .of_Ms [] hM hxc hp fun _ r hq => ⟨hq.1, hK r hq.2⟩
theorem MQ.shut {f : FuncId} {xs : List AV} {Q : AV → Prop} (hM : M P f [] xs [] fun h0 r0 => ∃ bor x, cvP h0 [] [r0] ∧ cv h0 [] bor r0 = x ∧ imm x = true ∧ Q x) : MQ P f xs Q :=
 M.shut hM fun h0 _ ⟨bor, x, hp, hc, hi, hq⟩ => ⟨[], h0, bor, rfl, rfl, rfl, hp, (show imm (cv h0 [] bor _) = true from hc.symm ▸ hi), hc.symm ▸ hi, hc.symm ▸ hq⟩
theorem MR.shut {f : FuncId} {cs xs : List AV} {Q : List AV → AV → Prop} (hM : M P f [.st cs] xs [] fun h0 r0 => ∃ cs' ext bor x, h0 = .st cs' :: ext ∧ cs'.all Go.V.imm0 = true ∧ cvP h0 [0] [r0] ∧ cv h0 [0] bor r0 = x ∧ imm x = true ∧ Q cs' x)
 : MR P f cs xs Q :=
 M.shut hM fun h0 _ ⟨cs', ext, bor, x, e, ha, hp, hc, hi, hq⟩ => ⟨[.st cs'], ext, bor, e, rfl, by
  have hb : AO.inb 1 (.st cs') = true := List.all_eq_true.2 fun x hx => by
   have := List.all_eq_true.1 ha x hx
   cases x <;> first | rfl | cases this
  exact Bool.and_eq_true_iff.2 ⟨hb, rfl⟩, hp, (show imm (cv h0 [0] bor _) = true from hc.symm ▸ hi), cs', [], rfl, ha, (show imm (cv h0 [0] bor _) = true from hc.symm ▸ hi), (show Q cs' (cv h0 [0] bor _) from hc.symm ▸ hq)⟩
end
end Go.V

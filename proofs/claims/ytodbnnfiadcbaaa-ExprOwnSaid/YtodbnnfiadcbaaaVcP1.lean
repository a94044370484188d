/- Plain laws: no program in sight. -/
import Derived.Test.YtodbnnfiadcbaaaVcOld
import Derived.KernelRfl
import Derived.KernelRfl
set_option linter.unusedVariables false
set_option linter.unusedSimpArgs false
set_option linter.unusedSectionVars false
namespace Go.Proofs.YtodbnnfiadcbaaaL
open Go.RowKit Go.Proofs.Ytodbnnfiadcbaaa.P Go.Proofs.YtodbnnfiadcbaaaW.PrintWords Go.Proofs.YtodbnnfiadcbaaaW.PrintLast Go.Proofs.YtodbnnfiadcbaaaW.PrintMore
set_option linter.unusedSimpArgs false
set_option linter.unusedVariables false
mutual
def tdeep : S28 → Nat
 | ⟨_, _, _, l⟩ => tdeepL l + 1
def tdeepL : List S28 → Nat
 | [] => 0
 | x :: xs => max (tdeep x) (tdeepL xs)
end
mutual
def tsize : S28 → Nat
 | ⟨_, _, _, l⟩ => tsizeL l + 1
def tsizeL : List S28 → Nat
 | [] => 0
 | x :: xs => tsize x + tsizeL xs
end
theorem tdeep_eq (e : S28) : tdeep e = tdeepL e.f3 + 1 := by cases e; rw [tdeep]
theorem tsize_eq (e : S28) : tsize e = tsizeL e.f3 + 1 := by cases e; rw [tsize]
theorem tsize_mem : ∀ {l : List S28} {x : S28}, x ∈ l → tsize x ≤ tsizeL l
 | y :: ys, x, h => by
  rw [tsizeL]
  rcases List.mem_cons.mp h with rfl | h
  ·omega
  ·have := tsize_mem h; omega
theorem len_tsizeL : ∀ l : List S28, l.length ≤ tsizeL l
 | [] => by simp
 | x :: xs => by
  have := len_tsizeL xs
  rw [tsizeL, tsize_eq, List.length_cons]
  omega
mutual
theorem tdeep_le : ∀ e : S28, tdeep e ≤ tsize e
 | ⟨_, _, _, l⟩ => by
  rw [tdeep, tsize]
  have := tdeepL_le l
  omega
theorem tdeepL_le : ∀ l : List S28, tdeepL l ≤ tsizeL l
 | [] => by simp [tdeepL]
 | x :: xs => by
  rw [tdeepL, tsizeL]
  have h1 := tdeep_le x
  have h2 := tdeepL_le xs
  omega
end
theorem rd_drop (l : List S28) (i : Nat) (h : i < l.length) : l.drop i = rd_T28 l (i : Int) :: l.drop (i + 1) := by
 rw [List.drop_eq_getElem_cons h]
 congr 1
 unfold rd_T28
 rw [Int.toNat_natCast, List.getD_eq_getElem?_getD, List.getElem?_eq_getElem h]
 rfl
theorem rd_in (l : List S28) (i : Nat) (h : i < l.length) : rd_T28 l (i : Int) ∈ l := by
 unfold rd_T28
 rw [Int.toNat_natCast, List.getD_eq_getElem?_getD, List.getElem?_eq_getElem h]
 exact List.getElem_mem h
theorem wrap_suc (i n : Nat) (h : i < n) (hn : n ≤ 1000000000) : wrap64 ((i : Int) + 1) = ((i + 1 : Nat) : Int) := by unfold wrap64; omega
theorem deep_ev : ∀ (n : Nat) (e : S28), tsize e ≤ n → n ≤ 1000000000 → Ev (fun k => canopyref5_deep.f k e.f0 e.f1 e.f2 e.f3) (tdeep e : Int)
 | 0, e, h, _ => by rw [tsize_eq] at h; omega
 | n + 1, e, h, hn => by
  have hs := tsize_eq e
  have hl := len_tsizeL e.f3
  have loop : ∀ (d i m : Nat), i + d = e.f3.length → m ≤ 1000000000 → Ev (fun k => canopyref5_deep.l0 k (m : Int) (i : Int) e.f0 e.f1 e.f2 e.f3) ((max m (tdeepL (e.f3.drop i)) + 1 : Nat) : Int) := by
   intro d
   induction d with
   | zero =>
    intro i m hi hm
    refine Ev.step (fun k => rfl) ?_
    refine Ev.congr (f := fun _ => some ((max m (tdeepL (e.f3.drop i)) + 1 : Nat) : Int)) (fun k => ?_) (Ev.now _)
    rw [canopyref5_deep.l0, if_neg (by omega), List.drop_eq_nil_of_le (by omega), tdeepL, Nat.max_zero]
    congr 1
    unfold wrap64
    omega
   | succ d ih =>
    intro i m hi hm
    have hlt : i < e.f3.length := by omega
    have hx := tsize_mem (rd_in e.f3 i hlt)
    have hd := tdeep_le (rd_T28 e.f3 (i : Int))
    refine Ev.step (fun k => rfl) ?_
    refine Ev.congr (f := fun k => (canopyref5_deep.f k (rd_T28 e.f3 (i : Int)).f0 (rd_T28 e.f3 (i : Int)).f1 (rd_T28 e.f3 (i : Int)).f2 (rd_T28 e.f3 (i : Int)).f3).bind fun t => canopyref5_deep.l0 k (mx (m : Int) t) (wrap64 ((i : Int) + 1)) e.f0 e.f1 e.f2 e.f3) (fun k => by rw [canopyref5_deep.l0, if_pos (by omega), if_pos (by omega)]) ?_
    refine Ev.bind (deep_ev n _ (by omega) (by omega)) ?_
    rw [wrap_suc i e.f3.length hlt (by omega)]
    have hm2 : mx (m : Int) (tdeep (rd_T28 e.f3 (i : Int)) : Int) = ((max m (tdeep (rd_T28 e.f3 (i : Int))) : Nat) : Int) := by unfold mx; split <;> omega
    rw [hm2, rd_drop _ _ hlt, tdeepL]
    have := ih (i + 1) (max m (tdeep (rd_T28 e.f3 (i : Int)))) (by omega) (by omega)
    rwa [Nat.max_assoc] at this
  refine Ev.step (fun k => rfl) ?_
  have := loop e.f3.length 0 0 (by omega) (by omega)
  rw [Nat.zero_max, List.drop_zero, ← tdeep_eq] at this
  exact this
theorem size_ev : ∀ (n : Nat) (e : S28), tsize e ≤ n → n ≤ 1000000000 → Ev (fun k => canopyref5_size.f k e.f0 e.f1 e.f2 e.f3) (tsize e : Int)
 | 0, e, h, _ => by rw [tsize_eq] at h; omega
 | n + 1, e, h, hn => by
  have hs := tsize_eq e
  have hl := len_tsizeL e.f3
  have loop : ∀ (d i m : Nat), i + d = e.f3.length → m + tsizeL (e.f3.drop i) ≤ 1000000000 → Ev (fun k => canopyref5_size.l0 k (m : Int) (i : Int) e.f0 e.f1 e.f2 e.f3) ((m + tsizeL (e.f3.drop i) : Nat) : Int) := by
   intro d
   induction d with
   | zero =>
    intro i m hi hm
    refine Ev.step (fun k => rfl) ?_
    refine Ev.congr (f := fun _ => some ((m + tsizeL (e.f3.drop i) : Nat) : Int)) (fun k => ?_) (Ev.now _)
    rw [canopyref5_size.l0, if_neg (by omega), List.drop_eq_nil_of_le (by omega), tsizeL, Nat.add_zero]
   | succ d ih =>
    intro i m hi hm
    have hlt : i < e.f3.length := by omega
    have hx := tsize_mem (rd_in e.f3 i hlt)
    rw [rd_drop _ _ hlt, tsizeL] at hm ⊢
    refine Ev.step (fun k => rfl) ?_
    refine Ev.congr (f := fun k => (canopyref5_size.f k (rd_T28 e.f3 (i : Int)).f0 (rd_T28 e.f3 (i : Int)).f1 (rd_T28 e.f3 (i : Int)).f2 (rd_T28 e.f3 (i : Int)).f3).bind fun t => canopyref5_size.l0 k (wrap64 ((m : Int) + t)) (wrap64 ((i : Int) + 1)) e.f0 e.f1 e.f2 e.f3) (fun k => by rw [canopyref5_size.l0, if_pos (by omega), if_pos (by omega)]) ?_
    refine Ev.bind (size_ev n _ (by omega) (by omega)) ?_
    rw [wrap_suc i e.f3.length hlt (by omega)]
    have hm2 : wrap64 ((m : Int) + (tsize (rd_T28 e.f3 (i : Int)) : Int)) = ((m + tsize (rd_T28 e.f3 (i : Int)) : Nat) : Int) := by unfold wrap64; omega
    rw [hm2]
    have := ih (i + 1) (m + tsize (rd_T28 e.f3 (i : Int))) (by omega) (by omega)
    rwa [Nat.add_assoc] at this
  refine Ev.step (fun k => rfl) ?_
  have := loop e.f3.length 0 1 (by omega) (by rw [List.drop_zero]; omega)
  rw [List.drop_zero, Nat.add_comm 1, ← tsize_eq] at this
  exact this
mutual
def tformed : S28 → Bool
 | ⟨a, b, c, l⟩ => shF ⟨a, b, c, l⟩ && tformedL l
def tformedL : List S28 → Bool
 | [] => true
 | x :: xs => tformed x && tformedL xs
end
theorem tformed_eq (e : S28) : tformed e = (shF e && tformedL e.f3) := by cases e; rw [tformed]
theorem formed_start (k : Nat) (e : S28) : canopyref5_formed.f (k + 3) e.f0 e.f1 e.f2 e.f3 = canopyref5_formed.l0 k (shF e) 0 e.f0 e.f1 e.f2 e.f3 := by
 rw [canopyref5_formed.f]
 unfold shF
 have B : ∀ a b : Int, (a == b) = decide (a = b) := fun a b => by rw [Bool.eq_iff_iff]; simp
 have C : ∀ a b : Nat, (a == b) = decide (a = b) := fun a b => by rw [Bool.eq_iff_iff]; simp
 by_cases h1 : e.f0 = 1
 ·simp only [h1, canopyref5_formed.j0, canopyref5_formed.j1, if_true]
  by_cases a0 : e.f3.length = 0 <;> by_cases a1 : e.f1 = 0 <;> simp [a0, a1, B, C]
 by_cases h2 : e.f0 = 2
 ·simp only [h2, canopyref5_formed.j0, canopyref5_formed.j1, if_true]
  by_cases a0 : e.f3.length = 0 <;> by_cases a1 : e.f1 = 0 <;> simp [a0, a1, B, C]
 by_cases h3 : e.f0 = 3
 ·simp only [h3, canopyref5_formed.j0, canopyref5_formed.j1]
  by_cases a0 : e.f3.length = 0 <;> simp [a0, B, C]
 by_cases h4 : e.f0 = 4
 ·simp only [h4, canopyref5_formed.j0, canopyref5_formed.j1]
  have : ((e.f3.length : Int) == 1) = (e.f3.length == 1) := by rw [Bool.eq_iff_iff]; simp; omega
  simp [this]
 by_cases h5 : e.f0 = 5
 ·simp only [h5, canopyref5_formed.j0, canopyref5_formed.j1]
  by_cases a0 : 2 ≤ e.f3.length
  ·have a2 : (e.f3.length : Int) > 1 := by omega
   by_cases a1 : e.f1 = 0 <;> simp [a0, a1, a2, B, C]
  ·have a2 : ¬ (e.f3.length : Int) > 1 := by omega
   simp [a0, a2, B, C]
 by_cases h6 : e.f0 = 6
 ·simp only [h6, canopyref5_formed.j0, canopyref5_formed.j1]
  by_cases a0 : 2 ≤ e.f3.length
  ·have a2 : (e.f3.length : Int) > 1 := by omega
   by_cases a1 : e.f1 = 0 <;> simp [a0, a1, a2, B, C]
  ·have a2 : ¬ (e.f3.length : Int) > 1 := by omega
   simp [a0, a2, B, C]
 by_cases h7 : e.f0 = 7
 ·simp only [h7, canopyref5_formed.j0, canopyref5_formed.j1]
  by_cases a0 : e.f3.length = 1
  ·by_cases a1 : e.f1 = 0 <;> simp [a0, a1, B, C]
  ·have a2 : ¬ (e.f3.length : Int) = 1 := by omega
   simp [a0, a2, B, C]
 ·have b1 : (e.f0 == 1) = false := beq_eq_false_iff_ne.mpr h1
  have b2 : (e.f0 == 2) = false := beq_eq_false_iff_ne.mpr h2
  simp [canopyref5_formed.j0, canopyref5_formed.j1, h1, h2, h3, h4, h5, h6, h7]
theorem formed_ev : ∀ (n : Nat) (e : S28), tsize e ≤ n → n ≤ 1000000000 → Ev (fun k => canopyref5_formed.f k e.f0 e.f1 e.f2 e.f3) (tformed e)
 | 0, e, h, _ => by rw [tsize_eq] at h; omega
 | n + 1, e, h, hn => by
  have hs := tsize_eq e
  have hl := len_tsizeL e.f3
  have loop : ∀ (d i : Nat) (b : Bool), i + d = e.f3.length → Ev (fun k => canopyref5_formed.l0 k b (i : Int) e.f0 e.f1 e.f2 e.f3) (b && tformedL (e.f3.drop i)) := by
   intro d
   induction d with
   | zero =>
    intro i b hi
    refine Ev.step (fun k => rfl) ?_
    refine Ev.congr (f := fun _ => some (b && tformedL (e.f3.drop i))) (fun k => ?_) (Ev.now _)
    rw [canopyref5_formed.l0, if_neg (by omega), List.drop_eq_nil_of_le (by omega), tformedL, Bool.and_true]
   | succ d ih =>
    intro i b hi
    have hlt : i < e.f3.length := by omega
    have hx := tsize_mem (rd_in e.f3 i hlt)
    refine Ev.step (fun k => rfl) ?_
    cases b with
    | false => exact Ev.congr (f := fun _ => some false) (fun k => by rw [canopyref5_formed.l0, if_pos (by omega), if_neg (by decide)]) (Ev.now _)
    | true =>
     refine Ev.congr (f := fun k => (canopyref5_formed.f k (rd_T28 e.f3 (i : Int)).f0 (rd_T28 e.f3 (i : Int)).f1 (rd_T28 e.f3 (i : Int)).f2 (rd_T28 e.f3 (i : Int)).f3).bind fun t => canopyref5_formed.l0 k t (wrap64 ((i : Int) + 1)) e.f0 e.f1 e.f2 e.f3) (fun k => by rw [canopyref5_formed.l0, if_pos (by omega), if_pos rfl, if_pos (by omega)]) ?_
     refine Ev.bind (formed_ev n _ (by omega) (by omega)) ?_
     rw [wrap_suc i e.f3.length hlt (by omega), rd_drop _ _ hlt, tformedL, Bool.true_and]
     exact ih (i + 1) _ (by omega)
  have := loop e.f3.length 0 (shF e) (by omega)
  rw [List.drop_zero, ← tformed_eq] at this
  obtain ⟨K, hK⟩ := this
  refine ⟨K + 3, fun k hk => ?_⟩
  obtain ⟨m, rfl⟩ : ∃ m, k = m + 3 := ⟨k - 3, by omega⟩
  exact (formed_start m e).trans (hK m (by omega))
/-! #### names -/
def kindsB (l : List S56) : Bool := l.all fun x => x.f1 == 1 || x.f1 == 2 || x.f1 == 3
mutual
def tbad (l : List S56) : S28 → Bool
 | ⟨a, b, c, xs⟩ => ovNm l ⟨a, b, c, xs⟩ false || tbadL l xs
def tbadL (l : List S56) : List S28 → Bool
 | [] => false
 | x :: xs => tbad l x || tbadL l xs
end
theorem tbad_eq (l : List S56) (e : S28) : tbad l e = (ovNm l e false || tbadL l e.f3) := by cases e; rw [tbad]
theorem kind_of {l : List S56} (h : kindsB l = true) {i : Int} (h0 : 0 ≤ i) (h1 : i < l.length) : (rd_T56 l i).f1 = 1 ∨ (rd_T56 l i).f1 = 2 ∨ (rd_T56 l i).f1 = 3 := by
 have hm : rd_T56 l i ∈ l := by
  unfold rd_T56
  rw [List.getD_eq_getElem?_getD, List.getElem?_eq_getElem (show i.toNat < l.length by omega)]
  exact List.getElem_mem _
 have := List.all_eq_true.mp h _ hm
 simpa [or_assoc] using this
theorem is_any (l : List S56) (h : kindsB l = true) (i : Int) : canopyref5_is.f l i 0 = some (!(ofF l i == 0)) := by
 unfold canopyref5_is.f ofF
 by_cases h0 : i < 0
 ·rw [if_neg (by omega), if_pos h0]; rfl
 ·rw [if_pos (by omega), if_neg h0]
  by_cases h1 : i < (l.length : Int)
  ·rw [if_pos h1, if_pos rfl, if_neg (by omega)]
   rcases kind_of h (by omega) h1 with e | e | e <;> rw [e] <;> rfl
  ·rw [if_neg h1, if_pos (by omega)]; rfl
theorem is_kind (l : List S56) (i k : Int) (hk : k ≠ 0) : canopyref5_is.f l i k = some (ofF l i == k) := by
 have h9 : ((0 : Int) == k) = false := beq_eq_false_iff_ne.mpr (Ne.symm hk)
 unfold canopyref5_is.f ofF
 by_cases h0 : i < 0
 ·rw [if_neg (by omega), if_pos h0, h9]
 ·rw [if_pos (by omega), if_neg h0]
  by_cases h1 : i < (l.length : Int)
  ·rw [if_pos h1, if_neg hk, if_pos (by omega), if_neg (by omega)]
  ·rw [if_neg h1, if_pos (by omega), h9]
theorem named_start (l : List S56) (hl : kindsB l = true) (k : Nat) (e : S28) : canopyref5_named.f (k + 1) l e.f0 e.f1 e.f2 e.f3 = canopyref5_named.j0 k l (ovNm l e false) e.f0 e.f1 e.f2 e.f3 := by
 rw [canopyref5_named.f]
 unfold ovNm
 by_cases h3 : e.f0 = 3
 ·rw [if_pos h3, if_pos h3, is_any l hl, Option.bind_some, Bool.false_or]
  have h4 : ¬ e.f0 = 4 := by omega
  cases ofF l e.f1 == 0 with
  | true => rw [if_neg (by decide)]
  | false => rw [if_pos (by decide), if_neg h4]
 ·rw [if_neg h3, if_neg h3]
  by_cases h4 : e.f0 = 4
  ·rw [if_pos h4, if_pos h4, is_kind l _ 1 (by decide), Option.bind_some, Bool.false_or]
   have n1 : (ofF l e.f1 != 1) = !(ofF l e.f1 == 1) := rfl
   have n2 : (ofF l e.f2 != 2) = !(ofF l e.f2 == 2) := rfl
   rw [n1, n2]
   cases ofF l e.f1 == 1 with
   | true => rw [if_pos rfl, is_kind l _ 2 (by decide), Option.bind_some]; rfl
   | false => rw [if_neg (by decide)]; rfl
  ·rw [if_neg h4, if_neg h4]
theorem named_ev (l : List S56) (hl9 : kindsB l = true) : ∀ (n : Nat) (e : S28), tsize e ≤ n → n ≤ 1000000000 → Ev (fun k => canopyref5_named.f k l e.f0 e.f1 e.f2 e.f3) (!tbad l e)
 | 0, e, h, _ => by rw [tsize_eq] at h; omega
 | n + 1, e, h, hn => by
  have hs := tsize_eq e
  have hl := len_tsizeL e.f3
  have loop : ∀ (d i : Nat), i + d = e.f3.length → Ev (fun k => canopyref5_named.l0 k l (i : Int) e.f0 e.f1 e.f2 e.f3) (!tbadL l (e.f3.drop i)) := by
   intro d
   induction d with
   | zero =>
    intro i hi
    refine Ev.step (fun k => rfl) ?_
    refine Ev.congr (f := fun _ => some (!tbadL l (e.f3.drop i))) (fun k => ?_) (Ev.now _)
    rw [canopyref5_named.l0, if_neg (by omega), List.drop_eq_nil_of_le (by omega), tbadL]
    rfl
   | succ d ih =>
    intro i hi
    have hlt : i < e.f3.length := by omega
    have hx := tsize_mem (rd_in e.f3 i hlt)
    refine Ev.step (fun k => rfl) ?_
    refine Ev.congr (f := fun k => (canopyref5_named.f k l (rd_T28 e.f3 (i : Int)).f0 (rd_T28 e.f3 (i : Int)).f1 (rd_T28 e.f3 (i : Int)).f2 (rd_T28 e.f3 (i : Int)).f3).bind fun t => if t = true then canopyref5_named.l0 k l (wrap64 ((i : Int) + 1)) e.f0 e.f1 e.f2 e.f3 else some false) (fun k => by rw [canopyref5_named.l0, if_pos (by omega), if_pos (by omega)]) ?_
    refine Ev.bind (named_ev l hl9 n _ (by omega) (by omega)) ?_
    rw [wrap_suc i e.f3.length hlt (by omega), rd_drop _ _ hlt, tbadL]
    cases tbad l (rd_T28 e.f3 (i : Int)) with
    | true => exact Ev.now _
    | false => exact ih (i + 1) (by omega)
  have := loop e.f3.length 0 (by omega)
  rw [List.drop_zero] at this
  refine Ev.step (fun k => named_start l hl9 k e) ?_
  refine Ev.step (fun k => rfl) ?_
  rw [tbad_eq]
  cases ovNm l e false with
  | true => exact Ev.congr (f := fun _ => some false) (fun k => by rw [canopyref5_named.j0, if_pos rfl]) (Ev.now _)
  | false => exact Ev.congr (fun k => by rw [canopyref5_named.j0, if_neg (by decide)]; rfl) this
/-! #### loose symbols -/
mutual
def tloose (l : List S56) (nest : Bool) : S28 → Bool
 | ⟨a, b, c, xs⟩ => ovLs l ⟨a, b, c, xs⟩ nest false || tlooseL l (nest || a == 4) xs
def tlooseL (l : List S56) (nest : Bool) : List S28 → Bool
 | [] => false
 | x :: xs => tloose l nest x || tlooseL l nest xs
end
theorem tloose_eq (l : List S56) (nest : Bool) (e : S28) : tloose l nest e = (ovLs l e nest false || tlooseL l (nest || e.f0 == 4) e.f3) := by cases e; rw [tloose]
theorem tbadL_mem {l : List S56} : ∀ {xs : List S28} {x : S28}, tbadL l xs = false → x ∈ xs → tbad l x = false
 | y :: ys, x, h, hm => by
  rw [tbadL, Bool.or_eq_false_iff] at h
  rcases List.mem_cons.mp hm with rfl | hm
  ·exact h.1
  ·exact tbadL_mem h.2 hm
theorem loose_start (l : List S56) (hl : kindsB l = true) (k : Nat) (e : S28) (nest : Bool) (hb : ovNm l e false = false) : canopyref5_loose.f (k + 1) l e.f0 e.f1 e.f2 e.f3 nest = canopyref5_loose.j0 k l nest (ovLs l e nest false) e.f0 e.f1 e.f2 e.f3 := by
 rw [canopyref5_loose.f]
 unfold ovLs
 by_cases h3 : e.f0 = 3
 ·rw [if_pos h3, if_pos h3, Bool.false_or]
  cases nest with
  | false => rw [if_neg (by decide)]; rfl
  | true =>
   rw [if_pos rfl, Bool.true_and]
   unfold ovNm at hb
   rw [if_pos h3, Bool.false_or] at hb
   unfold ofF at hb ⊢
   by_cases h0 : e.f1 < 0
   ·rw [if_pos h0] at hb; cases hb
   ·rw [if_neg h0] at hb
    simp only [if_neg h0]
    by_cases h1 : e.f1 < (l.length : Int)
    ·rw [if_neg (show ¬ e.f1 ≥ (l.length : Int) by omega)] at hb
     simp only [if_neg (show ¬ e.f1 ≥ (l.length : Int) by omega)]
     rw [if_pos (by omega), if_pos h1]
     rcases kind_of hl (by omega) h1 with q | q | q <;> rw [q] <;> rfl
    ·rw [if_pos (by omega)] at hb; cases hb
 ·rw [if_neg h3, if_neg h3]
theorem loose_ev (l : List S56) (hl9 : kindsB l = true) : ∀ (n : Nat) (e : S28) (nest : Bool), tbad l e = false → tsize e ≤ n → n ≤ 1000000000 → Ev (fun k => canopyref5_loose.f k l e.f0 e.f1 e.f2 e.f3 nest) (tloose l nest e)
 | 0, e, nest, _, h, _ => by rw [tsize_eq] at h; omega
 | n + 1, e, nest, hb, h, hn => by
  have hs := tsize_eq e
  have hl := len_tsizeL e.f3
  rw [tbad_eq, Bool.or_eq_false_iff] at hb
  have loop : ∀ (d i : Nat), i + d = e.f3.length → Ev (fun k => canopyref5_loose.l0 k l nest (i : Int) e.f0 e.f1 e.f2 e.f3) (tlooseL l (nest || e.f0 == 4) (e.f3.drop i)) := by
   intro d
   induction d with
   | zero =>
    intro i hi
    refine Ev.step (fun k => rfl) ?_
    refine Ev.congr (f := fun _ => some (tlooseL l (nest || e.f0 == 4) (e.f3.drop i))) (fun k => ?_) (Ev.now _)
    rw [canopyref5_loose.l0, if_neg (by omega), List.drop_eq_nil_of_le (by omega), tlooseL]
   | succ d ih =>
    intro i hi
    have hlt : i < e.f3.length := by omega
    have hx := tsize_mem (rd_in e.f3 i hlt)
    refine Ev.step (fun k => rfl) ?_
    refine Ev.congr (f := fun k => (canopyref5_loose.f k l (rd_T28 e.f3 (i : Int)).f0 (rd_T28 e.f3 (i : Int)).f1 (rd_T28 e.f3 (i : Int)).f2 (rd_T28 e.f3 (i : Int)).f3 (nest || e.f0 == 4)).bind fun t => if t = true then some true else canopyref5_loose.l0 k l nest (wrap64 ((i : Int) + 1)) e.f0 e.f1 e.f2 e.f3) (fun k => by
     rw [canopyref5_loose.l0, if_pos (by omega), if_pos (by omega)]
     cases nest
     ·rw [if_neg (by decide), Bool.false_or]
     ·rw [if_pos rfl, Bool.true_or]) ?_
    refine Ev.bind (loose_ev l hl9 n _ _ (tbadL_mem hb.2 (rd_in e.f3 i hlt)) (by omega) (by omega)) ?_
    rw [wrap_suc i e.f3.length hlt (by omega), rd_drop _ _ hlt, tlooseL]
    cases tloose l (nest || e.f0 == 4) (rd_T28 e.f3 (i : Int)) with
    | true => exact Ev.now _
    | false => exact ih (i + 1) (by omega)
  have := loop e.f3.length 0 (by omega)
  rw [List.drop_zero] at this
  refine Ev.step (fun k => loose_start l hl9 k e nest hb.1) ?_
  refine Ev.step (fun k => rfl) ?_
  rw [tloose_eq]
  cases ovLs l e nest false with
  | true => exact Ev.congr (f := fun _ => some true) (fun k => by rw [canopyref5_loose.j0, if_pos rfl]) (Ev.now _)
  | false => exact Ev.congr (fun k => by rw [canopyref5_loose.j0, if_neg (by decide)]; rfl) this
end Go.Proofs.YtodbnnfiadcbaaaL
namespace Go.Proofs.YtodbnnfiadcbaaaL
open Go.RowKit Go.Proofs.Ytodbnnfiadcbaaa.P Go.Proofs.YtodbnnfiadcbaaaW.PrintWords Go.Proofs.YtodbnnfiadcbaaaW.PrintLast Go.Proofs.YtodbnnfiadcbaaaW.PrintMore
set_option linter.unusedSimpArgs false
set_option linter.unusedVariables false
theorem ovA_deep (f : S28 → OvS → Option OvS) : ∀ (xs : List S28) (s : OvS), s.deep = true → ovA f xs s = some s
 | [], s, _ => rfl
 | x :: xs, s, h => by rw [ovA, if_pos h]; exact ovA_deep f xs s h
theorem over_deep (l : List S56) (s : OvS) (e : S28) (d : Int) (nest : Bool) (h : s.deep = true) (k : Nat) : ∃ r : OvS, r.deep = true ∧ overF (k + 1) l s e d nest = some r := by
 refine ⟨⟨wrap64 (s.n + 1), s.deep || decide (20 < d), s.kind, s.name, s.loose⟩, by simp [h], ?_⟩
 rw [overF, if_pos (by simp [h]), ovA_deep _ _ _ (by simp [h])]
theorem ovB_deep (l : List S56) (d : Int) (nest : Bool) (k : Nat) : ∀ (xs : List S28) (s : OvS), s.deep = true → ∃ r : OvS, r.deep = true ∧ ovB (fun x s => overF (k + 1) l s x d nest) xs s = some r
 | [], s, h => ⟨s, h, rfl⟩
 | x :: xs, s, h => by
  obtain ⟨r, hr, e⟩ := over_deep l s x d nest h k
  obtain ⟨r', hr', e'⟩ := ovB_deep l d nest k xs r hr
  exact ⟨r', hr', by rw [ovB, e, Option.bind_some]; exact e'⟩
structure Told (l : List S56) (s r : OvS) (dp sz : Nat) (fm bd lo : Bool) : Prop where
 deep : r.deep = decide (20 < dp)
 n : r.deep = false → r.n = s.n + (sz : Int)
 flags : r.deep = false → r.n ≤ 200 → r.kind = (s.kind || !fm) ∧ r.name = (s.name || bd) ∧ r.loose = (s.loose || lo)
theorem lists (l : List S56) (d : Nat) (nest : Bool) (hd : d ≤ 20) (K : Nat) : ∀ (xs : List S28),
 (∀ x ∈ xs, ∀ s : OvS, s.deep = false → 0 ≤ s.n → s.n + tsize x ≤ 2000000000 → ∃ r, Told l s r (d + tdeep x) (tsize x) (tformed x) (tbad l x) (tloose l nest x) ∧ ∀ k, K ≤ k → overF k l s x ((d + 1 : Nat) : Int) nest = some r) →
 ∀ s : OvS, s.deep = false → 0 ≤ s.n → s.n + tsizeL xs ≤ 2000000000 →
  (∃ r, Told l s r (d + tdeepL xs) (tsizeL xs) (tformedL xs) (tbadL l xs) (tlooseL l nest xs) ∧ ∀ k, K + 1 ≤ k → ovB (fun x s => overF k l s x ((d + 1 : Nat) : Int) nest) xs s = some r) ∧
  (∃ r, r.deep = decide (20 < d + tdeepL xs) ∧ (r.deep = false → r.n = s.n + (tsizeL xs : Int)) ∧ ∀ k, K + 1 ≤ k → ovA (fun x s => overF k l s x ((d + 1 : Nat) : Int) nest) xs s = some r)
 | [], hx, s, h, h0, hn => by
  have e : decide (20 < d + tdeepL []) = false := decide_eq_false (by rw [tdeepL]; omega)
  refine ⟨⟨s, ⟨by rw [e, h], fun _ => by rw [tsizeL]; omega, fun _ _ => by simp [tformedL, tbadL, tlooseL]⟩, fun k _ => rfl⟩, s, by rw [e, h], fun _ => by rw [tsizeL]; omega, fun k _ => rfl⟩
 | x :: xs, hx, s, h, h0, hn => by
  rw [tsizeL] at hn
  obtain ⟨r1, t1, e1⟩ := hx x (by simp) s h h0 (by omega)
  cases hd1 : r1.deep with
  | true =>
   have c : 20 < d + tdeepL (x :: xs) := by
    have := t1.deep
    rw [hd1] at this
    have := of_decide_eq_true this.symm
    rw [tdeepL]; omega
   obtain ⟨r2, hr2⟩ : ∃ r2 : OvS, r2.deep = true ∧ ∀ k, K + 1 ≤ k → ovB (fun x s => overF k l s x ((d + 1 : Nat) : Int) nest) xs r1 = some r2 := by
    obtain ⟨r2, a, b⟩ := ovB_deep l ((d + 1 : Nat) : Int) nest K xs r1 hd1
    refine ⟨r2, a, fun k hk => ?_⟩
    obtain ⟨j, rfl⟩ : ∃ j, k = K + 1 + j := ⟨k - (K + 1), by omega⟩
    exact at_rounds (g := fun k => ovB (fun x s => overF k l s x ((d + 1 : Nat) : Int) nest) xs r1) (fun k => ovB_le (fun x s => overF_le k l s x _ _) _ _) (by omega) b
   refine ⟨⟨r2, ⟨by rw [hr2.1, decide_eq_true c], fun q => absurd (hr2.1.symm.trans q) (by decide), fun q => absurd (hr2.1.symm.trans q) (by decide)⟩, fun k hk => ?_⟩, r1, by rw [hd1, decide_eq_true c], fun q => absurd (hd1.symm.trans q) (by decide), fun k hk => ?_⟩
   ·rw [ovB, e1 k (by omega), Option.bind_some]; exact hr2.2 k hk
   ·rw [ovA, if_neg (by rw [h]; decide), e1 k (by omega), Option.bind_some, ovA_deep _ _ _ hd1]
  | false =>
   have hn1 := t1.n hd1
   have hdx := t1.deep
   rw [hd1] at hdx
   have hdx := of_decide_eq_false hdx.symm
   obtain ⟨⟨rb, tb, eb⟩, ra, da, na, ea⟩ := lists l d nest hd K xs (fun y hy => hx y (by simp [hy])) r1 hd1 (by omega) (by omega)
   have dm : decide (20 < d + tdeepL (x :: xs)) = decide (20 < d + tdeepL xs) := by
    rw [tdeepL]
    by_cases q : 20 < d + tdeepL xs
    ·rw [decide_eq_true q, decide_eq_true (by omega)]
    ·rw [decide_eq_false q, decide_eq_false (by omega)]
   refine ⟨⟨rb, ⟨by rw [dm, tb.deep], fun q => by rw [tb.n q, hn1, tsizeL]; omega, fun q qn => ?_⟩, fun k hk => ?_⟩, ra, by rw [dm, da], fun q => by rw [na q, hn1, tsizeL]; omega, fun k hk => ?_⟩
   ·have n2 := tb.n q
    obtain ⟨a1, a2, a3⟩ := t1.flags hd1 (by omega)
    obtain ⟨b1, b2, b3⟩ := tb.flags q qn
    rw [b1, b2, b3, a1, a2, a3, tformedL, tbadL, tlooseL]
    refine ⟨?_, by rw [Bool.or_assoc], by rw [Bool.or_assoc]⟩
    rw [Bool.or_assoc, Bool.not_and]
   ·rw [ovB, e1 k (by omega), Option.bind_some]; exact eb k hk
   ·rw [ovA, if_neg (by rw [h]; decide), e1 k (by omega), Option.bind_some]; exact ea k hk
theorem ovNm_or (l : List S56) (e : S28) (b : Bool) : ovNm l e b = (b || ovNm l e false) := by
 unfold ovNm
 by_cases h3 : e.f0 = 3
 ·simp [h3]
 ·by_cases h4 : e.f0 = 4 <;> simp [h3, h4]
theorem ovLs_or (l : List S56) (e : S28) (nest b : Bool) : ovLs l e nest b = (b || ovLs l e nest false) := by
 unfold ovLs
 by_cases h3 : e.f0 = 3 <;> simp [h3]
theorem over_told (l : List S56) : ∀ (n : Nat) (e : S28), tsize e ≤ n → n ≤ 1000000000 → ∀ (d : Nat) (nest : Bool), d ≤ 1000 → ∀ s : OvS, s.deep = false → 0 ≤ s.n → s.n + tsize e ≤ 2000000000 →
 ∃ r, Told l s r (d + tdeep e) (tsize e) (tformed e) (tbad l e) (tloose l nest e) ∧ ∀ k, 2 * n ≤ k → overF k l s e ((d + 1 : Nat) : Int) nest = some r
 | 0, e, h, _ => by rw [tsize_eq] at h; omega
 | n + 1, e, h, hn => by
  intro d nest hd s hs h0 hsn
  have hz := tsize_eq e
  have hw : wrap64 (s.n + 1) = s.n + 1 := by unfold wrap64; omega
  have hw2 : wrap64 (((d + 1 : Nat) : Int) + 1) = ((d + 1 + 1 : Nat) : Int) := by unfold wrap64; omega
  have td := tdeep_eq e
  by_cases h20 : 20 < d + 1
  ·have b : decide (20 < ((d + 1 : Nat) : Int)) = true := decide_eq_true (by omega)
   refine ⟨⟨s.n + 1, true, s.kind, s.name, s.loose⟩, ⟨(decide_eq_true (by omega)).symm, fun q => absurd (show true = false from q) (by decide), fun q => absurd (show true = false from q) (by decide)⟩, fun k hk => ?_⟩
   obtain ⟨k, rfl⟩ : ∃ m, k = m + 1 := ⟨k - 1, by omega⟩
   rw [overF, hw, b, Bool.or_true, Bool.true_or, if_pos rfl, ovA_deep _ _ _ rfl]
  ·have b : decide (20 < ((d + 1 : Nat) : Int)) = false := decide_eq_false (by omega)
   have kids : ∀ (nest' : Bool), ∀ x ∈ e.f3, ∀ s : OvS, s.deep = false → 0 ≤ s.n → s.n + tsize x ≤ 2000000000 → ∃ r, Told l s r (d + 1 + tdeep x) (tsize x) (tformed x) (tbad l x) (tloose l nest' x) ∧ ∀ k, 2 * n ≤ k → overF k l s x ((d + 1 + 1 : Nat) : Int) nest' = some r :=
    fun nest' x hx s a1 a2 a3 => over_told l n x (by have := tsize_mem hx; omega) (by omega) (d + 1) nest' (by omega) s a1 a2 a3
   have dd : d + tdeep e = d + 1 + tdeepL e.f3 := by omega
   by_cases hb : 200 < s.n + 1
   ·obtain ⟨-, r, r1, r2, r3⟩ := lists l (d + 1) nest (by omega) (2 * n) e.f3 (kids nest) ⟨s.n + 1, false, s.kind, s.name, s.loose⟩ rfl (by show 0 ≤ s.n + 1; omega) (by show s.n + 1 + _ ≤ _; omega)
    refine ⟨r, ⟨by rw [r1, dd], fun q => by rw [r2 q, hz]; show s.n + 1 + _ = _; omega, fun q qn => ?_⟩, fun k hk => ?_⟩
    ·have := r2 q
     have : r.n = s.n + 1 + (tsizeL e.f3 : Int) := this
     omega
    ·obtain ⟨k, rfl⟩ : ∃ m, k = m + 1 := ⟨k - 1, by omega⟩
     rw [overF, hw, b, hs, Bool.or_self, Bool.false_or, if_pos (decide_eq_true hb), hw2]
     exact r3 k (by omega)
   ·obtain ⟨⟨r, r1, r3⟩, -⟩ := lists l (d + 1) (nest || e.f0 == 4) (by omega) (2 * n) e.f3 (kids _) ⟨s.n + 1, false, s.kind || !shF e, ovNm l e s.name, ovLs l e nest s.loose⟩ rfl (by show 0 ≤ s.n + 1; omega) (by show s.n + 1 + _ ≤ _; omega)
    refine ⟨r, ⟨by rw [r1.deep, dd], fun q => by rw [r1.n q, hz]; show s.n + 1 + _ = _; omega, fun q qn => ?_⟩, fun k hk => ?_⟩
    ·obtain ⟨a1, a2, a3⟩ := r1.flags q qn
     have a1 : r.kind = ((s.kind || !shF e) || !tformedL e.f3) := a1
     have a2 : r.name = (ovNm l e s.name || tbadL l e.f3) := a2
     have a3 : r.loose = (ovLs l e nest s.loose || tlooseL l (nest || e.f0 == 4) e.f3) := a3
     rw [a1, a2, a3, tformed_eq, tbad_eq, tloose_eq, ovNm_or l e s.name, ovLs_or l e nest s.loose]
     exact ⟨by rw [Bool.or_assoc, Bool.not_and], by rw [Bool.or_assoc], by rw [Bool.or_assoc]⟩
    ·obtain ⟨k, rfl⟩ : ∃ m, k = m + 1 := ⟨k - 1, by omega⟩
     rw [overF, hw, b, hs, Bool.or_self, Bool.false_or, if_neg (by rw [decide_eq_false hb]; decide), hw2]
     exact r3 k (by omega)
def treeErr (l : List S56) (e : S28) : Int := if 20 < tdeep e then 3 else if 200 < tsize e then 2 else if tformed e = true then (if tbad l e = true then 6 else if tloose l false e = true then 8 else 0) else 7
theorem check_ev (l : List S56) (e : S28) (h : tsize e ≤ 1000000000) : Ev (fun k => checkF k l e) (treeErr l e) := by
 obtain ⟨r, t, hr⟩ := over_told l (tsize e) e (Nat.le_refl _) h 0 false (by omega) ⟨0, false, false, false, false⟩ rfl (Int.le_refl _) (by show (0 : Int) + _ ≤ _; omega)
 refine ⟨2 * tsize e, fun k hk => ?_⟩
 have h1 : overF k l ⟨0, false, false, false, false⟩ e 1 false = some r := hr k hk
 show checkF k l e = _
 unfold checkF
 rw [h1, Option.bind_some]
 congr 1
 unfold errF treeErr
 have td := t.deep
 rw [Nat.zero_add] at td
 by_cases hd : 20 < tdeep e
 ·rw [if_pos hd, td, decide_eq_true hd, if_pos rfl]
 ·rw [decide_eq_false hd] at td
  have tn := t.n td
  have tn : r.n = (0 : Int) + tsize e := tn
  rw [if_neg hd, td, if_neg (by decide)]
  by_cases hs : 200 < tsize e
  ·rw [if_pos hs, if_pos (by omega)]
  ·rw [if_neg hs, if_neg (by omega)]
   obtain ⟨a1, a2, a3⟩ := t.flags td (by omega)
   have a1 : r.kind = (false || !tformed e) := a1
   have a2 : r.name = (false || tbad l e) := a2
   have a3 : r.loose = (false || tloose l false e) := a3
   rw [a1, a2, a3, Bool.false_or, Bool.false_or, Bool.false_or]
   cases tformed e <;> cases tbad l e <;> cases tloose l false e <;> rfl
theorem rcheck_ev (l : List S56) (hl : kindsB l = true) (e : S28) (h : tsize e ≤ 1000000000) : Ev (fun k => canopyref5_Check.f k l e.f0 e.f1 e.f2 e.f3) (treeErr l e) := by
 unfold canopyref5_Check.f treeErr
 have hd := tdeep_le e
 refine Ev.bind (deep_ev _ e (Nat.le_refl _) h) ?_
 by_cases h1 : 20 < tdeep e
 ·exact Ev.congr (f := fun _ => some 3) (fun k => by rw [if_pos (by omega)]) (by rw [if_pos h1]; exact Ev.now _)
 ·rw [if_neg h1]
  refine Ev.congr (fun k => by rw [if_neg (by omega)]) ?_
  refine Ev.bind (size_ev _ e (Nat.le_refl _) h) ?_
  by_cases h2 : 200 < tsize e
  ·exact Ev.congr (f := fun _ => some 2) (fun k => by rw [if_pos (by omega)]) (by rw [if_pos h2]; exact Ev.now _)
  ·rw [if_neg h2]
   refine Ev.congr (fun k => by rw [if_neg (by omega)]) ?_
   refine Ev.bind (formed_ev _ e (Nat.le_refl _) h) ?_
   cases tformed e with
   | false => exact Ev.now _
   | true =>
    refine Ev.congr (fun k => by rw [if_pos rfl]) ?_
    rw [if_pos rfl]
    refine Ev.bind (named_ev l hl _ e (Nat.le_refl _) h) ?_
    cases hb : tbad l e with
    | true => exact Ev.now _
    | false =>
     refine Ev.congr (fun k => by rw [if_pos (by rfl)]) ?_
     rw [if_neg (by decide)]
     refine Ev.bind (loose_ev l hl _ e false hb (Nat.le_refl _) h) ?_
     cases tloose l false e with
     | true => exact Ev.now _
     | false => exact Ev.now _
end Go.Proofs.YtodbnnfiadcbaaaL
namespace Go.Proofs.YtodbnnfiadcbaaaL
open Go.RowKit Go.Proofs.Ytodbnnfiadcbaaa.P Go.Proofs.YtodbnnfiadcbaaaW.PrintWords Go.Proofs.YtodbnnfiadcbaaaW.PrintLast Go.Proofs.YtodbnnfiadcbaaaW.PrintMore
set_option linter.unusedSimpArgs false
set_option linter.unusedVariables false
def nameT (l : List S56) (i : Int) : List UInt8 := (rd_T56 l i).f0.data.toList
def symT (l : List S56) (i : Int) : List UInt8 :=
 if (rd_T56 l i).f1 = 1 then [60] ++ nameT l i ++ [62] else if (rd_T56 l i).f1 = 2 then [60, 47] ++ nameT l i ++ [62] else nameT l i
def held (cat : Bool) (k : Int) (s : List UInt8) : List UInt8 := if k = 6 ∨ cat = true ∧ k = 5 then [40, 32] ++ s ++ [32, 41] else s
mutual
def textT (l : List S56) : S28 → List UInt8
 | ⟨k, a, b, xs⟩ => if k = 2 then [49] else if k = 3 then symT l a
  else if k = 4 then [60] ++ nameT l a ++ [91, 32] ++ (textsT l xs).flatten ++ [32, 93] ++ nameT l b ++ [62]
  else if k = 5 then Lib.join (heldsT l true xs) [32] else if k = 6 then Lib.join (heldsT l false xs) [32, 124, 32]
  else if k = 7 then (heldsT l true xs).flatten ++ [42] else [48]
def textsT (l : List S56) : List S28 → List (List UInt8)
 | [] => []
 | x :: xs => textT l x :: textsT l xs
def heldsT (l : List S56) (cat : Bool) : List S28 → List (List UInt8)
 | [] => []
 | x :: xs => held cat x.f0 (textT l x) :: heldsT l cat xs
end
def sumL : List (List UInt8) → Nat
 | [] => 0
 | x :: xs => x.length + 7 + sumL xs
theorem tail_sum (sep : List UInt8) (h : sep.length ≤ 3) : ∀ r : List (List UInt8), (Lib.joinTail sep r).length ≤ sumL r
 | [] => by simp [Lib.joinTail, sumL]
 | x :: r => by
  have := tail_sum sep h r
  have e : Lib.joinTail sep (x :: r) = sep ++ x ++ Lib.joinTail sep r := by simp [Lib.joinTail]
  rw [e, List.length_append, List.length_append, sumL]
  omega
theorem join_sum (sep : List UInt8) (h : sep.length ≤ 3) (r : List (List UInt8)) : (Lib.join r sep).length ≤ sumL r := by
 cases r with
 | nil => simp [Lib.join_nil, sumL]
 | cons x r =>
  have := tail_sum sep h r
  rw [Lib.join_cons, List.length_append, sumL]
  omega
theorem flat_sum : ∀ r : List (List UInt8), r.flatten.length ≤ sumL r
 | [] => by simp [sumL]
 | x :: r => by
  have := flat_sum r
  rw [List.flatten_cons, List.length_append, sumL]
  omega
theorem held_len (cat : Bool) (k : Int) (s : List UInt8) : (held cat k s).length ≤ s.length + 4 := by
 unfold held
 split
 ·simp
 ·omega
theorem nameT_len {l : List S56} (hl : ∀ x ∈ l, x.f0.size ≤ 8) (i : Int) : (nameT l i).length ≤ 8 := by
 unfold nameT rd_T56
 rw [List.getD_eq_getElem?_getD]
 cases h : l[i.toNat]? with
 | none => simp [z56]
 | some x =>
  have := hl x (List.mem_of_getElem? h)
  simpa using this
theorem symT_len {l : List S56} (hl : ∀ x ∈ l, x.f0.size ≤ 8) (i : Int) : (symT l i).length ≤ 11 := by
 have := nameT_len hl i
 unfold symT
 split
 ·simp; omega
 ·split
  ·simp; omega
  ·omega
mutual
theorem textT_len {l : List S56} (hl : ∀ x ∈ l, x.f0.size ≤ 8) : ∀ e : S28, (textT l e).length + 11 ≤ 40 * tsize e
 | ⟨k, a, b, xs⟩ => by
  have h1 := textsT_len hl xs
  have h2 := heldsT_len hl true xs
  have h3 := heldsT_len hl false xs
  have n1 := nameT_len hl a
  have n2 := nameT_len hl b
  have n3 := symT_len hl a
  have f1 := flat_sum (textsT l xs)
  have f2 := flat_sum (heldsT l true xs)
  have j1 := join_sum [32] (by decide) (heldsT l true xs)
  have j2 := join_sum [32, 124, 32] (by decide) (heldsT l false xs)
  rw [textT, tsize]
  split
  ·simp; omega
  split
  ·omega
  split
  ·simp only [List.length_append, List.length_cons, List.length_nil]; omega
  split
  ·omega
  split
  ·omega
  split
  ·simp only [List.length_append, List.length_cons, List.length_nil]; omega
  ·simp; omega
theorem textsT_len {l : List S56} (hl : ∀ x ∈ l, x.f0.size ≤ 8) : ∀ xs : List S28, sumL (textsT l xs) ≤ 40 * tsizeL xs
 | [] => by simp [textsT, sumL]
 | x :: xs => by
  have h1 := textT_len hl x
  have h2 := textsT_len hl xs
  rw [textsT, sumL, tsizeL]
  omega
theorem heldsT_len {l : List S56} (hl : ∀ x ∈ l, x.f0.size ≤ 8) (cat : Bool) : ∀ xs : List S28, sumL (heldsT l cat xs) ≤ 40 * tsizeL xs
 | [] => by simp [heldsT, sumL]
 | x :: xs => by
  have h1 := textT_len hl x
  have h2 := heldsT_len hl cat xs
  have h3 := held_len cat x.f0 (textT l x)
  rw [heldsT, sumL, tsizeL]
  omega
end
end Go.Proofs.YtodbnnfiadcbaaaL
namespace Go.Proofs.YtodbnnfiadcbaaaL
open Go.RowKit Go.Proofs.Ytodbnnfiadcbaaa.P Go.Proofs.YtodbnnfiadcbaaaW.PrintWords Go.Proofs.YtodbnnfiadcbaaaW.PrintLast Go.Proofs.YtodbnnfiadcbaaaW.PrintMore
set_option linter.unusedSimpArgs false
set_option linter.unusedVariables false
theorem same_ev : ∀ (n : Nat) (e : S28), tsize e ≤ n → n ≤ 1000000000 → Ev (fun k => canopyref5_Same.f k e.f0 e.f1 e.f2 e.f3 e.f0 e.f1 e.f2 e.f3) true
 | 0, e, h, _ => by rw [tsize_eq] at h; omega
 | n + 1, e, h, hn => by
  have hs := tsize_eq e
  have hl := len_tsizeL e.f3
  have loop : ∀ (d i : Nat), i + d = e.f3.length → Ev (fun k => canopyref5_Same.l0 k (i : Int) e.f0 e.f1 e.f2 e.f3 e.f0 e.f1 e.f2 e.f3) true := by
   intro d
   induction d with
   | zero =>
    intro i hi
    refine Ev.step (fun k => rfl) ?_
    exact Ev.congr (f := fun _ => some true) (fun k => by rw [canopyref5_Same.l0, if_neg (by omega)]) (Ev.now _)
   | succ d ih =>
    intro i hi
    have hlt : i < e.f3.length := by omega
    have hx := tsize_mem (rd_in e.f3 i hlt)
    refine Ev.step (fun k => rfl) ?_
    refine Ev.congr (f := fun k => (canopyref5_Same.f k (rd_T28 e.f3 (i : Int)).f0 (rd_T28 e.f3 (i : Int)).f1 (rd_T28 e.f3 (i : Int)).f2 (rd_T28 e.f3 (i : Int)).f3 (rd_T28 e.f3 (i : Int)).f0 (rd_T28 e.f3 (i : Int)).f1 (rd_T28 e.f3 (i : Int)).f2 (rd_T28 e.f3 (i : Int)).f3).bind fun t => if t = true then canopyref5_Same.l0 k (wrap64 ((i : Int) + 1)) e.f0 e.f1 e.f2 e.f3 e.f0 e.f1 e.f2 e.f3 else some false) (fun k => by rw [canopyref5_Same.l0, if_pos (by omega), if_pos (by omega), if_pos (by omega)]) ?_
    refine Ev.bind (same_ev n _ (by omega) (by omega)) ?_
    refine Ev.congr (fun k => by rw [if_pos rfl]) ?_
    rw [wrap_suc i e.f3.length hlt (by omega)]
    exact ih (i + 1) (by omega)
  have := loop e.f3.length 0 (by omega)
  refine Ev.step (fun k => rfl) ?_
  refine Ev.congr (f := fun k => canopyref5_Same.j0 k false e.f0 e.f1 e.f2 e.f3 e.f0 e.f1 e.f2 e.f3) (fun k => by rw [canopyref5_Same.f, if_pos rfl, if_pos rfl, if_pos rfl, bne_self_eq_false]) ?_
  refine Ev.step (fun k => rfl) ?_
  exact Ev.congr (fun k => by rw [canopyref5_Same.j0, if_neg (by decide)]; rfl) this
end Go.Proofs.YtodbnnfiadcbaaaL
namespace Go.Proofs.YtodbnnfiadcbaaaL
open Go.RowKit Go.Proofs.Ytodbnnfiadcbaaa.P Go.Proofs.YtodbnnfiadcbaaaW.PrintWords Go.Proofs.YtodbnnfiadcbaaaW.PrintLast Go.Proofs.YtodbnnfiadcbaaaW.PrintMore
set_option linter.unusedSimpArgs false
set_option linter.unusedVariables false
theorem within1_eq (a n : Int) (h0 : 0 < n) (h1 : n ≤ 1000000) : canopylaw1_within.f a n = some (a % n) := by
 unfold canopylaw1_within.f
 rw [if_neg (by omega)]
 have e : Int.tmod a n = if a % n = 0 then 0 else if 0 ≤ a then a % n else a % n - n := by
  rw [Int.tmod_eq_emod]
  have : n.natAbs = n := by omega
  by_cases hz : a % n = 0
  ·have : n ∣ a := Int.dvd_of_emod_eq_zero hz
   simp [hz, this]
  ·have : ¬ n ∣ a := fun h => hz (Int.emod_eq_zero_of_dvd h)
   by_cases ha : 0 ≤ a
   ·simp [hz, ha]
   ·simp only [hz, ha, this, or_self, if_false]
    omega
 have a0 := Int.emod_nonneg a (show n ≠ 0 by omega)
 have a1 := Int.emod_lt_of_pos a h0
 rw [e]
 split
 ·rename_i h; rw [if_neg (by omega), h]
 ·split
  ·rw [if_neg (by omega)]
  ·rw [if_pos (by omega)]
   congr 1
   unfold wrap64
   omega
/-! symbols that may be -/
def nameB (s : ByteArray) : Bool := decide (1 ≤ s.size) && decide (s.size ≤ 8) && s.data.toList.all (fun b => decide (97 ≤ b.toNat) && decide (b.toNat ≤ 122))
def kindB (k : Int) : Bool := k == 1 || k == 2 || k == 3
def key (x : S56) : List UInt8 × Int := (x.f0.data.toList, x.f1)
def distinct : List (List UInt8 × Int) → Bool
 | [] => true
 | x :: xs => !(xs.contains x) && distinct xs
def goodB (l : List S56) : Bool := decide (0 < l.length) && decide (l.length ≤ 20) && l.all (fun x => nameB x.f0 && kindB x.f1) && distinct (l.map key)
def sy (c : UInt8) (k : Int) : S56 := ⟨⟨#[c]⟩, k⟩
def seven : List S56 := [sy 97 1, sy 97 2, sy 98 3, sy 99 1, sy 99 2, sy 100 3, sy 120 2]
def symsAll : List (List S56) := [seven.take 3, seven.take 4, seven.take 5, seven.take 6, seven.take 7, [sy 98 3, sy 97 2, sy 97 1], [sy 97 1], [sy 97 2], [sy 98 3], [sy 99 1], [sy 99 2], [sy 100 3], [sy 120 2]]
theorem symsAll_good : symsAll.all goodB = true := by decide +kernel
theorem cut_of (a : Int) (h0 : 0 ≤ a) (h1 : a < 5) : (if 0 ≤ (wrap64 (3 + a)) then (if (wrap64 (3 + a)) ≤ (seven.length : Int) then (some (seven.take ((wrap64 (3 + a)) : Int).toNat)) else (none)) else (none)) = some (seven.take (3 + a).toNat) := by
 have e : wrap64 (3 + a) = 3 + a := (by unfold wrap64; omega)
 rw [e, if_pos (by omega), if_pos (show (3 + a : Int) ≤ (seven.length : Int) by simp [seven]; omega)]
theorem cut_mem (a : Int) (h0 : 0 ≤ a) (h1 : a < 5) : seven.take (3 + a).toNat ∈ symsAll := by
 have : a = 0 ∨ a = 1 ∨ a = 2 ∨ a = 3 ∨ a = 4 := by omega
 rcases this with rfl | rfl | rfl | rfl | rfl <;> simp [symsAll]
theorem syms_some (n : Int) (ns : List Int) : ∃ l, canopylaw1_Syms.f n ns = some l ∧ l ∈ symsAll := by
 unfold canopylaw1_Syms.f
 simp only [within1_eq _ _ (show (0 : Int) < 5 by omega) (by omega), within1_eq _ _ (show (0 : Int) < 7 by omega) (by omega), within1_eq _ _ (show (0 : Int) < 11 by omega) (by omega), Option.bind_some]
 have a0 := Int.emod_nonneg n (show (5 : Int) ≠ 0 by omega)
 have a1 := Int.emod_lt_of_pos n (show (0 : Int) < 5 by omega)
 generalize n % 5 = a at *
 by_cases h7 : n % 7 = 1
 ·rw [if_pos h7]
  exact ⟨_, rfl, by simp [symsAll, sy, rd_T56]⟩
 ·rw [if_neg h7]
  by_cases h11 : n % 11 = 2
  ·rw [if_pos h11]
   cases ns with
   | nil => exact ⟨_, cut_of a a0 a1, cut_mem a a0 a1⟩
   | cons x xs =>
    rw [if_pos (by simp only [List.length_cons]; omega), if_pos (by simp only [List.length_cons]; omega)]
    have b0 := Int.emod_nonneg (rd (x :: xs) 0) (show (7 : Int) ≠ 0 by omega)
    have b1 := Int.emod_lt_of_pos (rd (x :: xs) 0) (show (0 : Int) < 7 by omega)
    generalize rd (x :: xs) 0 % 7 = b at *
    have : b = 0 ∨ b = 1 ∨ b = 2 ∨ b = 3 ∨ b = 4 ∨ b = 5 ∨ b = 6 := by omega
    rcases this with rfl | rfl | rfl | rfl | rfl | rfl | rfl <;> exact ⟨_, rfl, by simp [symsAll, sy, rd_T56]⟩
  ·rw [if_neg h11]
   exact ⟨_, cut_of a a0 a1, cut_mem a a0 a1⟩
theorem syms_good (n : Int) (ns : List Int) : ∃ l, canopylaw1_Syms.f n ns = some l ∧ goodB l = true := by
 obtain ⟨l, h, hm⟩ := syms_some n ns
 exact ⟨l, h, List.all_eq_true.1 symsAll_good l hm⟩
theorem good_len {l : List S56} (h : goodB l = true) : 0 < l.length ∧ l.length ≤ 20 := by
 simp only [goodB, Bool.and_eq_true, decide_eq_true_eq] at h
 exact ⟨h.1.1.1, h.1.1.2⟩
theorem good_at {l : List S56} (h : goodB l = true) {x : S56} (hx : x ∈ l) : nameB x.f0 = true ∧ kindB x.f1 = true := by
 simp only [goodB, Bool.and_eq_true, decide_eq_true_eq, List.all_eq_true] at h
 exact h.1.2 x hx
theorem distinct_inj : ∀ (l : List (List UInt8 × Int)), distinct l = true → ∀ i j (hi : i < l.length) (hj : j < l.length), l[i] = l[j] → i = j
 | [], _, i, _, hi, _, _ => by simp at hi
 | x :: xs, h, i, j, hi, hj, e => by
  simp only [distinct, Bool.and_eq_true, Bool.not_eq_true'] at h
  have hn : ∀ y ∈ xs, y ≠ x := fun y hy he => by
   subst he
   have := List.contains_iff_mem.2 hy
   rw [h.1] at this
   cases this
  cases i with
  | zero =>
   cases j with
   | zero => rfl
   | succ j =>
    exact absurd e.symm (hn _ (List.getElem_mem _))
  | succ i =>
   cases j with
   | zero => exact absurd e (hn _ (List.getElem_mem _))
   | succ j => rw [distinct_inj xs h.2 i j (by simpa using hi) (by simpa using hj) e]
theorem good_kinds {l : List S56} (h : goodB l = true) : kindsB l = true := by
 unfold kindsB
 rw [List.all_eq_true]
 intro x hx
 exact (good_at h hx).2
theorem good_names {l : List S56} (h : goodB l = true) : ∀ x ∈ l, x.f0.size ≤ 8 := by
 intro x hx
 have := (good_at h hx).1
 simp only [nameB, Bool.and_eq_true, decide_eq_true_eq] at this
 exact this.1.2
end Go.Proofs.YtodbnnfiadcbaaaL
namespace Go.Proofs.YtodbnnfiadcbaaaL
open Go.RowKit Go.Proofs.Ytodbnnfiadcbaaa.P Go.Proofs.YtodbnnfiadcbaaaW.PrintWords Go.Proofs.YtodbnnfiadcbaaaW.PrintLast Go.Proofs.YtodbnnfiadcbaaaW.PrintMore
theorem within_eq (a n : Int) (h0 : 0 < n) (h1 : n ≤ 1000000) : canopylaw5_within.f a n = some (a % n) := by
 unfold canopylaw5_within.f
 rw [if_neg (by omega)]
 have e : Int.tmod a n = if a % n = 0 then 0 else if 0 ≤ a then a % n else a % n - n := by
  rw [Int.tmod_eq_emod]
  have : n.natAbs = n := by omega
  by_cases hz : a % n = 0
  ·have : n ∣ a := Int.dvd_of_emod_eq_zero hz
   simp [hz, this]
  ·have : ¬ n ∣ a := fun h => hz (Int.emod_eq_zero_of_dvd h)
   by_cases ha : 0 ≤ a
   ·simp [hz, ha]
   ·simp only [hz, ha, this, or_self, if_false]
    omega
 have a0 := Int.emod_nonneg a (show n ≠ 0 by omega)
 have a1 := Int.emod_lt_of_pos a h0
 rw [e]
 split
 ·rename_i h; rw [if_neg (by omega), h]
 ·split
  ·rw [if_neg (by omega)]
  ·rw [if_pos (by omega)]
   congr 1
   unfold wrap64
   omega
end Go.Proofs.YtodbnnfiadcbaaaL
namespace Go.Proofs.YtodbnnfiadcbaaaL
open Go.RowKit Go.Proofs.Ytodbnnfiadcbaaa.P Go.Proofs.YtodbnnfiadcbaaaW.PrintWords Go.Proofs.YtodbnnfiadcbaaaW.PrintLast Go.Proofs.YtodbnnfiadcbaaaW.PrintMore
theorem known_true : canopylaw5_known.f 60 = some true := by kernel_rfl
theorem known_ev : Ev (fun k => canopylaw5_known.f k) true := Ev.of canopylaw5_known.mono known_true
end Go.Proofs.YtodbnnfiadcbaaaL
namespace Go.Proofs.YtodbnnfiadcbaaaL
open Go.RowKit Go.Proofs.Ytodbnnfiadcbaaa.P Go.Proofs.YtodbnnfiadcbaaaW.PrintWords Go.Proofs.YtodbnnfiadcbaaaW.PrintLast Go.Proofs.YtodbnnfiadcbaaaW.PrintMore
set_option linter.unusedSimpArgs false
set_option linter.unusedVariables false
def blk : List UInt8 → Nat
 | [] => 0
 | c :: r => if c = 32 then blk r + 1 else 0
def lets : List UInt8 → Nat
 | [] => 0
 | c :: r => if 97 ≤ c.toNat ∧ c.toNat ≤ 122 then lets r + 1 else 0
inductive Tk where
 | eof | bad
 | one (c : UInt8)
 | sym (nm : List UInt8) (k : Int)
 | nest (nm : List UInt8)
 | over (nm : List UInt8)
def okN (t : List UInt8) : Bool := decide (1 ≤ lets t) && decide (lets t ≤ 8)
def endsBy (t : List UInt8) (c : UInt8) : Bool := okN t && decide (t[lets t]? = some c)
def isSign (c : UInt8) : Bool := c == 48 || c == 49 || c == 40 || c == 41 || c == 124 || c == 42
def tokLt (t : List UInt8) : Tk × Nat :=
 if t.head? = some 47 then (if endsBy t.tail 62 then (.sym (t.tail.take (lets t.tail)) 2, lets t.tail + 3) else (.bad, 0))
 else if endsBy t 62 then (.sym (t.take (lets t)) 1, lets t + 2)
 else if endsBy t 91 then (.nest (t.take (lets t)), lets t + 2) else (.bad, 0)
def tokAt : List UInt8 → Tk × Nat
 | [] => (.eof, 0)
 | c :: t =>
  if isSign c then (.one c, 1)
  else if c = 60 then tokLt t
  else if c = 93 then (if endsBy t 62 then (.over (t.take (lets t)), lets t + 2) else (.bad, 0))
  else if okN (c :: t) then (.sym ((c :: t).take (lets (c :: t))) 3, lets (c :: t)) else (.bad, 0)
def Tk.isOne (t : Tk) (c : UInt8) : Bool := match t with
 | .one b => b == c
 | _ => false
def Tk.begins (t : Tk) : Bool := match t with
 | .one b => b == 48 || b == 49 || b == 40
 | .sym _ _ => true
 | .nest _ => true
 | _ => false
def Tk.isEof (t : Tk) : Bool := match t with
 | .eof => true
 | _ => false
def nx (s : List UInt8) (q : Nat) : Nat := q + blk (s.drop q)
def findT : List S56 → List UInt8 → Int → Nat → Option Int
 | [], _, _, _ => none
 | x :: xs, nm, k, i => if x.f0.data.toList = nm ∧ x.f1 = k then some (i : Int) else findT xs nm k (i + 1)
inductive Rs where
 | ok (v : S28) (f : Nat)
 | err (e : Int) (p : Nat)
def Rs.and (r : Option Rs) (g : S28 → Nat → Option Rs) : Option Rs := r.bind fun r => match r with
 | .ok v f => g v f
 | .err e p => some (.err e p)
def severalT (k : Int) (xs : List S28) : S28 := match xs with
 | [x] => x
 | _ => ⟨k, 0, 0, xs⟩
section
variable (l : List S56) (s : List UInt8)
mutual
def aAtom : Nat → Nat → Nat → Option Rs
 | 0, _, _ => none
 | n + 1, d, f => match tokAt (s.drop f) with
  | (.one c, _) =>
   if c = 48 then some (.ok ⟨1, 0, 0, []⟩ (nx s (f + 1)))
   else if c = 49 then some (.ok ⟨2, 0, 0, []⟩ (nx s (f + 1)))
   else if c = 40 then (if 40 < d then some (.err 3 f) else Rs.and (aOr n (d + 1) (nx s (f + 1))) fun x g => if (tokAt (s.drop g)).1.isOne 41 then some (.ok x (nx s (g + 1))) else some (.err 1 g))
   else some (.err 1 f)
  | (.sym nm k, m) => match findT l nm k 0 with
   | some i => some (.ok ⟨3, i, 0, []⟩ (nx s (f + m)))
   | none => some (.err 6 f)
  | (.nest nm, m) => match findT l nm 1 0 with
   | none => some (.err 6 f)
   | some a => if 40 < d then some (.err 3 f) else Rs.and (aOr n (d + 1) (nx s (f + m))) fun x g => match tokAt (s.drop g) with
    | (.over nm2, m2) => (match findT l nm2 2 0 with
     | some b => some (.ok ⟨4, a, b, [x]⟩ (nx s (g + m2)))
     | none => some (.err 6 g))
    | _ => some (.err 1 g)
  | _ => some (.err 1 f)
def aStars : Nat → S28 → Nat → Option Rs
 | 0, _, _ => none
 | n + 1, x, f => if (tokAt (s.drop f)).1.isOne 42 then aStars n ⟨7, 0, 0, [x]⟩ (nx s (f + 1)) else some (.ok x f)
def aRep : Nat → Nat → Nat → Option Rs
 | 0, _, _ => none
 | n + 1, d, f => Rs.and (aAtom n d f) fun x g => aStars n x g
def aCats : Nat → Nat → List S28 → Nat → Option Rs
 | 0, _, _, _ => none
 | n + 1, d, acc, f => if (tokAt (s.drop f)).1.begins then Rs.and (aRep n d f) fun x g => aCats n d (acc ++ [x]) g else some (.ok (severalT 5 acc) f)
def aCat : Nat → Nat → Nat → Option Rs
 | 0, _, _ => none
 | n + 1, d, f => Rs.and (aRep n d f) fun x g => aCats n d [x] g
def aOrs : Nat → Nat → List S28 → Nat → Option Rs
 | 0, _, _, _ => none
 | n + 1, d, acc, f => if (tokAt (s.drop f)).1.isOne 124 then Rs.and (aCat n d (nx s (f + 1))) fun x g => aOrs n d (acc ++ [x]) g else some (.ok (severalT 6 acc) f)
def aOr : Nat → Nat → Nat → Option Rs
 | 0, _, _ => none
 | n + 1, d, f => Rs.and (aCat n d f) fun x g => aOrs n d [x] g
end
end
def aParse (l : List S56) (s : List UInt8) (n : Nat) : Option (S28 × Int × Int) :=
 (aOr l s n 0 (nx s 0)).map fun r => match r with
  | .err e p => (⟨0, 0, 0, []⟩, (p : Int), e)
  | .ok x g => if (tokAt (s.drop g)).1.isEof then (if treeErr l x = 0 then (x, 0, 0) else (⟨0, 0, 0, []⟩, 0, treeErr l x)) else (⟨0, 0, 0, []⟩, (g : Int), 1)
end Go.Proofs.YtodbnnfiadcbaaaL
namespace Go.Proofs.YtodbnnfiadcbaaaL
open Go.RowKit Go.Proofs.Ytodbnnfiadcbaaa.P Go.Proofs.YtodbnnfiadcbaaaW.PrintWords Go.Proofs.YtodbnnfiadcbaaaW.PrintLast Go.Proofs.YtodbnnfiadcbaaaW.PrintMore
set_option linter.unusedSimpArgs false
set_option linter.unusedVariables false
def letB (c : UInt8) : Bool := decide (97 ≤ c.toNat) && decide (c.toNat ≤ 122)
theorem lets_app : ∀ (nm r : List UInt8), (∀ c ∈ nm, letB c = true) → (∀ c, r.head? = some c → letB c = false) → lets (nm ++ r) = nm.length
 | [], r, _, hr => by
  cases r with
  | nil => rfl
  | cons c r =>
   have := hr c rfl
   rw [List.nil_append, lets, if_neg]
   ·rfl
   ·intro h
    simp [letB, h] at this
 | c :: nm, r, hn, hr => by
  have h := hn c (by simp)
  simp only [letB, Bool.and_eq_true, decide_eq_true_eq] at h
  rw [List.cons_append, lets, if_pos h, lets_app nm r (fun x hx => hn x (by simp [hx])) hr, List.length_cons]
structure Nm (nm : List UInt8) : Prop where
 letters : ∀ c ∈ nm, letB c = true
 pos : 1 ≤ nm.length
 most : nm.length ≤ 8
theorem okN_app {nm r : List UInt8} (h : Nm nm) (hr : ∀ c, r.head? = some c → letB c = false) : okN (nm ++ r) = true := by
 unfold okN
 rw [lets_app nm r h.letters hr]
 have := h.pos
 have := h.most
 simp; omega
theorem take_app (nm r : List UInt8) : (nm ++ r).take nm.length = nm := by simp
theorem ends_app {nm r : List UInt8} (h : Nm nm) (c d : UInt8) (hc : letB c = false) : endsBy (nm ++ c :: r) d = decide (c = d) := by
 unfold endsBy
 have hr : ∀ x, (c :: r).head? = some x → letB x = false := fun x hx => by simp at hx; rw [← hx]; exact hc
 rw [okN_app h hr, lets_app nm _ h.letters hr, Bool.true_and]
 simp
theorem head_ne {nm : List UInt8} (h : Nm nm) (r : List UInt8) (d : UInt8) (hd : letB d = false) : (nm ++ r).head? ≠ some d := by
 have := h.pos
 cases nm with
 | nil => simp at this
 | cons c nm =>
  intro e
  simp at e
  have := h.letters c (by simp)
  rw [e, hd] at this
  cases this
theorem tok_opens {nm r : List UInt8} (h : Nm nm) : tokAt (60 :: (nm ++ 62 :: r)) = (.sym nm 1, nm.length + 2) := by
 rw [tokAt, if_neg (by decide), if_pos rfl, tokLt, if_neg (head_ne h _ _ (by decide)), ends_app h 62 62 (by decide), if_pos (by decide)]
 rw [lets_app nm _ h.letters (by intro c hc; simp at hc; rw [← hc]; decide), take_app]
theorem tok_nest {nm r : List UInt8} (h : Nm nm) : tokAt (60 :: (nm ++ 91 :: r)) = (.nest nm, nm.length + 2) := by
 rw [tokAt, if_neg (by decide), if_pos rfl, tokLt, if_neg (head_ne h _ _ (by decide)), ends_app h 91 62 (by decide), if_neg (by decide), ends_app h 91 91 (by decide), if_pos (by decide)]
 rw [lets_app nm _ h.letters (by intro c hc; simp at hc; rw [← hc]; decide), take_app]
theorem tok_closes {nm r : List UInt8} (h : Nm nm) : tokAt (60 :: 47 :: (nm ++ 62 :: r)) = (.sym nm 2, nm.length + 3) := by
 rw [tokAt, if_neg (by decide), if_pos rfl, tokLt, if_pos (by rfl), List.tail_cons, ends_app h 62 62 (by decide), if_pos (by decide)]
 rw [lets_app nm _ h.letters (by intro c hc; simp at hc; rw [← hc]; decide), take_app]
theorem tok_over {nm r : List UInt8} (h : Nm nm) : tokAt (93 :: (nm ++ 62 :: r)) = (.over nm, nm.length + 2) := by
 rw [tokAt, if_neg (by decide), if_neg (by decide), if_pos rfl, ends_app h 62 62 (by decide), if_pos (by decide)]
 rw [lets_app nm _ h.letters (by intro c hc; simp at hc; rw [← hc]; decide), take_app]
theorem let_not (c d : UInt8) (hc : letB c = true) (hd : letB d = false) : c ≠ d := fun e => by rw [e, hd] at hc; cases hc
theorem tok_plain {nm r : List UInt8} (h : Nm nm) (hr : ∀ c, r.head? = some c → letB c = false) : tokAt (nm ++ r) = (.sym nm 3, nm.length) := by
 have h1 := okN_app h hr
 have h2 := lets_app nm r h.letters hr
 have h3 := take_app nm r
 have h4 := h.pos
 cases nm with
 | nil => simp at h4
 | cons c nm =>
  have hc := h.letters c (by simp)
  rw [List.cons_append] at h1 h2 h3 ⊢
  rw [tokAt, if_neg, if_neg (let_not c _ hc (by decide)), if_neg (let_not c _ hc (by decide)), if_pos h1, h2, h3]
  simp only [isSign, Bool.or_eq_true, beq_iff_eq, not_or]
  exact ⟨⟨⟨⟨⟨let_not c _ hc (by decide), let_not c _ hc (by decide)⟩, let_not c _ hc (by decide)⟩, let_not c _ hc (by decide)⟩, let_not c _ hc (by decide)⟩, let_not c _ hc (by decide)⟩
/-! places -/
theorem nx_same {s : List UInt8} {q : Nat} (h : (s.drop q).head? ≠ some 32) : nx s q = q := by
 unfold nx
 cases hd : s.drop q with
 | nil => rfl
 | cons c r =>
  rw [hd] at h
  rw [blk, if_neg (by simpa using h)]
  rfl
theorem drop_add {s u r : List UInt8} {q : Nat} (h : s.drop q = u ++ r) (k : Nat) (hk : k = u.length) : s.drop (q + k) = r := by
 rw [← List.drop_drop, h, hk, List.drop_left]
theorem nx_blank {s r : List UInt8} {q : Nat} (h : s.drop q = 32 :: r) (hr : r.head? ≠ some 32) : nx s q = q + 1 := by
 unfold nx
 rw [h, blk, if_pos rfl]
 cases r with
 | nil => rfl
 | cons c r => rw [blk, if_neg (by simpa using hr)]
/-! symbols -/
theorem find_at : ∀ (l : List S56), distinct (l.map key) = true → ∀ (n : Nat) (h : n < l.length) (i : Nat), findT l l[n].f0.data.toList l[n].f1 i = some ((i + n : Nat) : Int)
 | [], _, n, h, i => by simp at h
 | x :: xs, hd, n, h, i => by
  cases n with
  | zero => rw [findT]; exact if_pos ⟨rfl, rfl⟩
  | succ n =>
   have hd2 : distinct (xs.map key) = true := by
    rw [List.map_cons, distinct, Bool.and_eq_true] at hd
    exact hd.2
   have hne : ¬ (x.f0.data.toList = (xs[n]'(by simpa using h)).f0.data.toList ∧ x.f1 = (xs[n]'(by simpa using h)).f1) := fun e => by
    have := distinct_inj _ hd 0 (n + 1) (by simp) (by simpa using h) (by simp [key, e])
    omega
   rw [List.getElem_cons_succ, findT, if_neg hne, find_at xs hd2 n (by simpa using h) (i + 1)]
   congr 2
   omega
theorem rd56_get {l : List S56} {n : Nat} (h : n < l.length) : rd_T56 l (n : Int) = l[n] := by
 unfold rd_T56
 rw [Int.toNat_natCast, List.getD_eq_getElem?_getD, List.getElem?_eq_getElem h]
 rfl
theorem good_distinct {l : List S56} (hg : goodB l = true) : distinct (l.map key) = true := by
 simp only [goodB, Bool.and_eq_true] at hg
 exact hg.2
theorem find_name {l : List S56} (hg : goodB l = true) {i : Int} (h0 : 0 ≤ i) (h1 : i < (l.length : Int)) : findT l (nameT l i) (rd_T56 l i).f1 0 = some i := by
 obtain ⟨n, rfl⟩ := Int.eq_ofNat_of_zero_le h0
 have hn : n < l.length := by omega
 unfold nameT
 rw [rd56_get hn, find_at l (good_distinct hg) n hn 0, Nat.zero_add]
theorem good_nm {l : List S56} (hg : goodB l = true) {i : Int} (h0 : 0 ≤ i) (h1 : i < (l.length : Int)) : Nm (nameT l i) := by
 obtain ⟨n, rfl⟩ := Int.eq_ofNat_of_zero_le h0
 have hn : n < l.length := by omega
 have h := (good_at hg (List.getElem_mem hn)).1
 unfold nameT
 rw [rd56_get hn]
 simp only [nameB, Bool.and_eq_true, decide_eq_true_eq, List.all_eq_true] at h
 refine ⟨fun c hc => ?_, by simpa using h.1.1, by simpa using h.1.2⟩
 have := h.2 c hc
 simpa [letB] using this
end Go.Proofs.YtodbnnfiadcbaaaL
namespace Go.Proofs.YtodbnnfiadcbaaaL
open Go.RowKit Go.Proofs.Ytodbnnfiadcbaaa.P Go.Proofs.YtodbnnfiadcbaaaW.PrintWords Go.Proofs.YtodbnnfiadcbaaaW.PrintLast Go.Proofs.YtodbnnfiadcbaaaW.PrintMore
set_option linter.unusedSimpArgs false
set_option linter.unusedVariables false
def Fit (l : List S56) (x : S28) : Prop := tformed x = true ∧ tbad l x = false
theorem tformedL_mem : ∀ {xs : List S28} {x : S28}, tformedL xs = true → x ∈ xs → tformed x = true
 | y :: ys, x, h, hx => by
  rw [tformedL, Bool.and_eq_true] at h
  rcases List.mem_cons.mp hx with rfl | hx
  ·exact h.1
  ·exact tformedL_mem h.2 hx
theorem of_in {l : List S56} {i k : Int} (h : ofF l i = k) (hk : k ≠ 0) : 0 ≤ i ∧ i < (l.length : Int) ∧ (rd_T56 l i).f1 = k := by
 unfold ofF at h
 by_cases h0 : i < 0
 ·rw [if_pos h0] at h; exact absurd h.symm hk
 ·rw [if_neg h0] at h
  by_cases h1 : i ≥ (l.length : Int)
  ·rw [if_pos h1] at h; exact absurd h.symm hk
  ·rw [if_neg h1] at h
   exact ⟨by omega, by omega, h⟩
inductive View (l : List S56) : S28 → Prop
 | none : View l ⟨1, 0, 0, []⟩
 | void : View l ⟨2, 0, 0, []⟩
 | sym (a : Int) (h0 : 0 ≤ a) (h1 : a < (l.length : Int)) : View l ⟨3, a, 0, []⟩
 | nest (a b : Int) (x : S28) (a0 : 0 ≤ a) (a1 : a < (l.length : Int)) (a2 : (rd_T56 l a).f1 = 1) (b0 : 0 ≤ b) (b1 : b < (l.length : Int)) (b2 : (rd_T56 l b).f1 = 2) (hx : Fit l x) : View l ⟨4, a, b, [x]⟩
 | cat (x y : S28) (xs : List S28) (h : ∀ z ∈ x :: y :: xs, Fit l z) : View l ⟨5, 0, 0, x :: y :: xs⟩
 | or (x y : S28) (xs : List S28) (h : ∀ z ∈ x :: y :: xs, Fit l z) : View l ⟨6, 0, 0, x :: y :: xs⟩
 | star (x : S28) (hx : Fit l x) : View l ⟨7, 0, 0, [x]⟩
theorem view {l : List S56} {e : S28} (h : Fit l e) : View l e := by
 obtain ⟨hf, hb⟩ := h
 rw [tformed_eq, Bool.and_eq_true] at hf
 rw [tbad_eq, Bool.or_eq_false_iff] at hb
 obtain ⟨k, a, b, xs⟩ := e
 obtain ⟨hs, hfl⟩ := hf
 obtain ⟨hn, hbl⟩ := hb
 have kids : ∀ z ∈ xs, Fit l z := fun z hz => ⟨tformedL_mem hfl hz, tbadL_mem hbl hz⟩
 simp only [shF] at hs
 simp only [ovNm] at hn
 by_cases h1 : k = 1 ∨ k = 2
 ·rw [if_pos h1] at hs
  simp only [Bool.and_eq_true, beq_iff_eq] at hs
  obtain ⟨hx, rfl, rfl⟩ := hs
  obtain rfl := List.length_eq_zero_iff.mp hx
  rcases h1 with rfl | rfl
  ·exact .none
  ·exact .void
 rw [if_neg h1] at hs
 by_cases h3 : k = 3
 ·subst h3
  rw [if_pos rfl] at hs hn
  simp only [Bool.and_eq_true, beq_iff_eq] at hs
  obtain ⟨hx, rfl⟩ := hs
  obtain rfl := List.length_eq_zero_iff.mp hx
  rw [Bool.false_or, beq_eq_false_iff_ne] at hn
  obtain ⟨a0, a1, _⟩ := of_in (l := l) (i := a) rfl hn
  exact .sym a a0 a1
 rw [if_neg h3] at hs hn
 by_cases h4 : k = 4
 ·subst h4
  rw [if_pos rfl] at hs hn
  simp only [beq_iff_eq] at hs
  simp only [Bool.false_or, Bool.or_eq_false_iff, bne_eq_false_iff_eq] at hn
  obtain ⟨x, rfl⟩ := List.length_eq_one_iff.mp hs
  obtain ⟨a0, a1, a2⟩ := of_in hn.1 (by decide)
  obtain ⟨b0, b1, b2⟩ := of_in hn.2 (by decide)
  exact .nest a b x a0 a1 a2 b0 b1 b2 (kids x (by simp))
 rw [if_neg h4] at hs
 by_cases h5 : k = 5 ∨ k = 6
 ·rw [if_pos h5] at hs
  simp only [Bool.and_eq_true, beq_iff_eq, decide_eq_true_eq] at hs
  obtain ⟨hx, rfl, rfl⟩ := hs
  obtain ⟨x, y, ys, rfl⟩ : ∃ x y ys, xs = x :: y :: ys := by
   cases xs with
   | nil => simp at hx
   | cons x t =>
    cases t with
    | nil => simp at hx
    | cons y ys => exact ⟨x, y, ys, rfl⟩
  rcases h5 with rfl | rfl
  ·exact .cat x y ys kids
  ·exact .or x y ys kids
 rw [if_neg h5] at hs
 by_cases h7 : k = 7
 ·subst h7
  rw [if_pos rfl] at hs
  simp only [Bool.and_eq_true, beq_iff_eq] at hs
  obtain ⟨hx, rfl, rfl⟩ := hs
  obtain ⟨x, rfl⟩ := List.length_eq_one_iff.mp hx
  exact .star x (kids x (by simp))
 ·rw [if_neg h7] at hs; cases hs
/-! ### heads -/
def SepR (r : List UInt8) : Prop := ∀ c, r.head? = some c → letB c = false
theorem SepR.cons {c : UInt8} {r : List UInt8} (h : letB c = false) : SepR (c :: r) := fun d hd => by simp at hd; rw [← hd]; exact h
theorem SepR.nil : SepR [] := fun d hd => by simp at hd
structure Begs (u : List UInt8) : Prop where
 begins : (tokAt u).1.begins = true
 noBlank : u.head? ≠ some 32
theorem begs_one (c : UInt8) (h : c = 48 ∨ c = 49 ∨ c = 40) (r : List UInt8) : Begs (c :: r) := by
 rcases h with rfl | rfl | rfl <;> exact ⟨rfl, by simp⟩
theorem symT_tok {l : List S56} (hg : goodB l = true) {a : Int} (h0 : 0 ≤ a) (h1 : a < (l.length : Int)) {r : List UInt8} (hr : SepR r) : tokAt (symT l a ++ r) = (.sym (nameT l a) (rd_T56 l a).f1, (symT l a).length) := by
 have hn := good_nm hg h0 h1
 unfold symT
 rcases kind_of (good_kinds hg) h0 h1 with k | k | k <;> rw [k]
 ·rw [if_pos rfl]
  have := tok_opens (r := r) hn
  simpa using this
 ·rw [if_neg (by decide), if_pos rfl]
  have := tok_closes (r := r) hn
  simpa using this
 ·rw [if_neg (by decide), if_neg (by decide)]
  exact tok_plain hn hr
theorem symT_head {l : List S56} (hg : goodB l = true) {a : Int} (h0 : 0 ≤ a) (h1 : a < (l.length : Int)) (r : List UInt8) : (symT l a ++ r).head? ≠ some 32 := by
 have hn := good_nm hg h0 h1
 unfold symT
 split
 ·simp
 ·split
  ·simp
  ·exact head_ne hn r 32 (by decide)
theorem joinTail_cons (sep x : List UInt8) (r : List (List UInt8)) : Lib.joinTail sep (x :: r) = sep ++ x ++ Lib.joinTail sep r := by simp [Lib.joinTail]
theorem joinTail_nil (sep : List UInt8) : Lib.joinTail sep [] = [] := by simp [Lib.joinTail]
theorem heldsT_cons (l : List S56) (cat : Bool) (x : S28) (xs : List S28) : heldsT l cat (x :: xs) = held cat x.f0 (textT l x) :: heldsT l cat xs := by rw [heldsT]
theorem heldsT_nil (l : List S56) (cat : Bool) : heldsT l cat [] = [] := by rw [heldsT]
theorem textT_none (l : List S56) (a b : Int) (xs : List S28) : textT l ⟨1, a, b, xs⟩ = [48] := by rw [textT]; rfl
theorem textT_void (l : List S56) (a b : Int) (xs : List S28) : textT l ⟨2, a, b, xs⟩ = [49] := by rw [textT]; rfl
theorem textT_sym (l : List S56) (a b : Int) (xs : List S28) : textT l ⟨3, a, b, xs⟩ = symT l a := by rw [textT]; rfl
theorem textT_nest (l : List S56) (a b : Int) (x : S28) : textT l ⟨4, a, b, [x]⟩ = 60 :: (nameT l a ++ 91 :: 32 :: (textT l x ++ 32 :: 93 :: (nameT l b ++ [62]))) := by
 rw [textT, if_neg (by decide), if_neg (by decide), if_pos rfl, textsT, textsT]; simp
theorem textT_cat (l : List S56) (a b : Int) (x : S28) (xs : List S28) : textT l ⟨5, a, b, x :: xs⟩ = held true x.f0 (textT l x) ++ Lib.joinTail [32] (heldsT l true xs) := by
 rw [textT, if_neg (by decide), if_neg (by decide), if_neg (by decide), if_pos rfl, heldsT, Lib.join_cons]
theorem textT_or (l : List S56) (a b : Int) (x : S28) (xs : List S28) : textT l ⟨6, a, b, x :: xs⟩ = held false x.f0 (textT l x) ++ Lib.joinTail [32, 124, 32] (heldsT l false xs) := by
 rw [textT, if_neg (by decide), if_neg (by decide), if_neg (by decide), if_neg (by decide), if_pos rfl, heldsT, Lib.join_cons]
theorem textT_star (l : List S56) (a b : Int) (x : S28) : textT l ⟨7, a, b, [x]⟩ = held true x.f0 (textT l x) ++ [42] := by
 rw [textT, if_neg (by decide), if_neg (by decide), if_neg (by decide), if_neg (by decide), if_neg (by decide), if_pos rfl, heldsT, heldsT]; simp
theorem held_par (cat : Bool) (k : Int) (s : List UInt8) (h : k = 6 ∨ cat = true ∧ k = 5) : held cat k s = 40 :: 32 :: (s ++ [32, 41]) := by unfold held; rw [if_pos h]; simp
theorem held_bare (cat : Bool) (k : Int) (s : List UInt8) (h : ¬ (k = 6 ∨ cat = true ∧ k = 5)) : held cat k s = s := by unfold held; rw [if_neg h]
theorem begs_held {cat : Bool} {k : Int} {s r : List UInt8} (h : ∀ r', SepR r' → Begs (s ++ r')) (hr : SepR r) : Begs (held cat k s ++ r) := by
 by_cases hp : k = 6 ∨ cat = true ∧ k = 5
 ·rw [held_par _ _ _ hp]; exact begs_one 40 (.inr (.inr rfl)) _
 ·rw [held_bare _ _ _ hp]; exact h r hr
theorem sep_tail (sep : List UInt8) (hs : sep.head? = some 32) : ∀ (xs : List (List UInt8)) (r : List UInt8), SepR r → SepR (Lib.joinTail sep xs ++ r)
 | [], r, hr => by rw [joinTail_nil]; exact hr
 | x :: xs, r, hr => by
  rw [joinTail_cons]
  cases sep with
  | nil => simp at hs
  | cons c t =>
   simp at hs
   subst hs
   exact SepR.cons (by decide)
theorem begs_text {l : List S56} (hg : goodB l = true) : ∀ (n : Nat) (e : S28), tsize e ≤ n → Fit l e → ∀ r, SepR r → Begs (textT l e ++ r)
 | 0, e, h, _, _, _ => by rw [tsize_eq] at h; omega
 | n + 1, e, h, hf, r, hr => by
  have hv := view hf
  cases hv with
  | none => rw [textT_none]; exact begs_one 48 (.inl rfl) _
  | void => rw [textT_void]; exact begs_one 49 (.inr (.inl rfl)) _
  | sym a h0 h1 =>
   rw [textT_sym]
   exact ⟨by rw [symT_tok hg h0 h1 hr]; rfl, symT_head hg h0 h1 r⟩
  | nest a b x a0 a1 a2 b0 b1 b2 hx =>
   rw [textT_nest, List.cons_append, List.append_assoc, List.cons_append]
   exact ⟨by rw [tok_nest (good_nm hg a0 a1)]; rfl, by simp⟩
  | cat x y xs hx =>
   rw [textT_cat, List.append_assoc]
   have hz := tsize_mem (l := x :: y :: xs) (x := x) (by simp)
   rw [tsize_eq] at h
   exact begs_held (fun r' hr' => begs_text hg n x (by simp only at h; omega) (hx x (by simp)) r' hr') (sep_tail _ rfl _ _ hr)
  | or x y xs hx =>
   rw [textT_or, List.append_assoc]
   have hz := tsize_mem (l := x :: y :: xs) (x := x) (by simp)
   rw [tsize_eq] at h
   exact begs_held (fun r' hr' => begs_text hg n x (by simp only at h; omega) (hx x (by simp)) r' hr') (sep_tail _ rfl _ _ hr)
  | star x hx =>
   rw [textT_star, List.append_assoc]
   have hz := tsize_mem (l := [x]) (x := x) (by simp)
   rw [tsize_eq] at h
   exact begs_held (fun r' hr' => begs_text hg n x (by simp only at h; omega) hx r' hr') (SepR.cons (by decide))
/-! ### reading -/
theorem Rs.and_ev {f : Nat → Option Rs} {g : Nat → S28 → Nat → Option Rs} {v : S28} {p : Nat} {R : Rs} (h : Ev f (.ok v p)) (h2 : Ev (fun k => g k v p) R) : Ev (fun k => Rs.and (f k) (g k)) R := by
 obtain ⟨K, hK⟩ := h
 obtain ⟨K2, hK2⟩ := h2
 refine ⟨max K K2, fun k hk => ?_⟩
 show Rs.and (f k) (g k) = _
 rw [hK k (by omega)]
 exact hK2 k (by omega)
end Go.Proofs.YtodbnnfiadcbaaaL
namespace Go.Proofs.YtodbnnfiadcbaaaL
open Go.RowKit Go.Proofs.Ytodbnnfiadcbaaa.P Go.Proofs.YtodbnnfiadcbaaaW.PrintWords Go.Proofs.YtodbnnfiadcbaaaW.PrintLast Go.Proofs.YtodbnnfiadcbaaaW.PrintMore
set_option linter.unusedSimpArgs false
set_option linter.unusedVariables false
def tkn (s : List UInt8) (q : Nat) : Tk := (tokAt (s.drop q)).1
theorem begins_other {t : Tk} (h : t.begins = true) (c : UInt8) (hc : c = 42 ∨ c = 124 ∨ c = 41) : t.isOne c = false := by
 cases t with
 | one b =>
  simp only [Tk.begins, Bool.or_eq_true, beq_iff_eq] at h
  simp only [Tk.isOne, beq_eq_false_iff_ne]
  rintro rfl
  rcases hc with rfl | rfl | rfl <;> revert h <;> decide
 | _ => rfl
structure StopC (s : List UInt8) (q : Nat) : Prop where
 star : (tkn s (nx s q)).isOne 42 = false
 begins : (tkn s (nx s q)).begins = false
structure Stop (s : List UInt8) (q : Nat) : Prop extends StopC s q where
 bar : (tkn s (nx s q)).isOne 124 = false
section
variable {l : List S56} {s : List UInt8}
theorem stars_stop {x : S28} {g : Nat} (h : (tkn s g).isOne 42 = false) : Ev (fun n => aStars l s n x g) (.ok x g) := by
 refine Ev.step (fun k => rfl) ?_
 refine Ev.congr (f := fun _ => some (.ok x g)) (fun k => ?_) (Ev.now _)
 rw [aStars, if_neg]
 have h : (tokAt (s.drop g)).1.isOne 42 = false := h
 rw [h]
 decide
theorem cats_stop {d : Nat} {acc : List S28} {g : Nat} (h : (tkn s g).begins = false) : Ev (fun n => aCats l s n d acc g) (.ok (severalT 5 acc) g) := by
 refine Ev.step (fun k => rfl) ?_
 refine Ev.congr (f := fun _ => some (.ok (severalT 5 acc) g)) (fun k => ?_) (Ev.now _)
 rw [aCats, if_neg]
 have h : (tokAt (s.drop g)).1.begins = false := h
 rw [h]
 decide
theorem ors_stop {d : Nat} {acc : List S28} {g : Nat} (h : (tkn s g).isOne 124 = false) : Ev (fun n => aOrs l s n d acc g) (.ok (severalT 6 acc) g) := by
 refine Ev.step (fun k => rfl) ?_
 refine Ev.congr (f := fun _ => some (.ok (severalT 6 acc) g)) (fun k => ?_) (Ev.now _)
 rw [aOrs, if_neg]
 have h : (tokAt (s.drop g)).1.isOne 124 = false := h
 rw [h]
 decide
theorem rep_cat {d f g : Nat} {e : S28} (h : Ev (fun n => aRep l s n d f) (.ok e g)) (hb : (tkn s g).begins = false) : Ev (fun n => aCat l s n d f) (.ok e g) := by
 refine Ev.step (fun k => rfl) ?_
 refine Ev.congr (fun k => by rw [aCat]) ?_
 exact Rs.and_ev h (cats_stop hb)
theorem cat_or {d f g : Nat} {e : S28} (h : Ev (fun n => aCat l s n d f) (.ok e g)) (hb : (tkn s g).isOne 124 = false) : Ev (fun n => aOr l s n d f) (.ok e g) := by
 refine Ev.step (fun k => rfl) ?_
 refine Ev.congr (fun k => by rw [aOr]) ?_
 exact Rs.and_ev h (ors_stop hb)
def RepOk (l : List S56) (s : List UInt8) (d : Nat) (e : S28) : Prop := ∀ f r, s.drop f = held true e.f0 (textT l e) ++ r → SepR r → ∀ R, Ev (fun n => aStars l s n e (nx s (f + (held true e.f0 (textT l e)).length))) R → Ev (fun n => aRep l s n d f) R
def CatOk (l : List S56) (s : List UInt8) (d : Nat) (e : S28) : Prop := ∀ f r, s.drop f = held false e.f0 (textT l e) ++ r → SepR r → StopC s (f + (held false e.f0 (textT l e)).length) → Ev (fun n => aCat l s n d f) (.ok e (nx s (f + (held false e.f0 (textT l e)).length)))
def OrOk (l : List S56) (s : List UInt8) (d : Nat) (e : S28) : Prop := ∀ f r, s.drop f = textT l e ++ r → SepR r → Stop s (f + (textT l e).length) → Ev (fun n => aOr l s n d f) (.ok e (nx s (f + (textT l e).length)))
theorem tkn_of {q : Nat} {u : List UInt8} (h : s.drop q = u) : tkn s q = (tokAt u).1 := by unfold tkn; rw [h]
theorem begs_kid (hg : goodB l = true) {x : S28} (hx : Fit l x) (cat : Bool) {r : List UInt8} (hr : SepR r) : Begs (held cat x.f0 (textT l x) ++ r) :=
 begs_held (fun r' hr' => begs_text hg _ x (Nat.le_refl _) hx r' hr') hr
theorem cats_ev (hg : goodB l = true) {d : Nat} : ∀ (xs : List S28), (∀ x ∈ xs, Fit l x ∧ RepOk l s d x) → ∀ acc q r, s.drop q = Lib.joinTail [32] (heldsT l true xs) ++ r → SepR r → StopC s (q + (Lib.joinTail [32] (heldsT l true xs)).length) →
 Ev (fun n => aCats l s n d acc (nx s q)) (.ok (severalT 5 (acc ++ xs)) (nx s (q + (Lib.joinTail [32] (heldsT l true xs)).length))) ∧ (tkn s (nx s q)).isOne 42 = false
 | [], _, acc, q, r, hd, hr, hs => by
  rw [heldsT_nil, joinTail_nil] at hs ⊢
  rw [List.append_nil]
  exact ⟨cats_stop hs.begins, hs.star⟩
 | x :: xs, hx, acc, q, r, hd, hr, hs => by
  rw [heldsT_cons, joinTail_cons] at hd hs ⊢
  have hr2 : SepR (Lib.joinTail [32] (heldsT l true xs) ++ r) := sep_tail _ rfl _ _ hr
  have hb := begs_kid hg (hx x (by simp)).1 true hr2
  have hd1 : s.drop q = 32 :: (held true x.f0 (textT l x) ++ (Lib.joinTail [32] (heldsT l true xs) ++ r)) := by rw [hd]; simp
  have hn : nx s q = q + 1 := nx_blank hd1 hb.noBlank
  have hd2 : s.drop (q + 1) = held true x.f0 (textT l x) ++ (Lib.joinTail [32] (heldsT l true xs) ++ r) := drop_add (u := [32]) hd1 1 rfl
  have hd3 := drop_add hd2 _ rfl
  have hq : q + ([32] ++ held true x.f0 (textT l x) ++ Lib.joinTail [32] (heldsT l true xs)).length = q + 1 + (held true x.f0 (textT l x)).length + (Lib.joinTail [32] (heldsT l true xs)).length := by simp; omega
  rw [hq] at hs ⊢
  have hbt : (tkn s (q + 1)).begins = true := by rw [tkn_of hd2]; exact hb.begins
  obtain ⟨ih, hst⟩ := cats_ev hg xs (fun y hy => hx y (by simp [hy])) (acc ++ [x]) _ r hd3 hr hs
  rw [hn]
  refine ⟨?_, begins_other hbt _ (.inl rfl)⟩
  refine Ev.step (fun k => rfl) ?_
  have hbt' : (tokAt (s.drop (q + 1))).1.begins = true := hbt
  refine Ev.congr (fun k => by rw [aCats, if_pos hbt']) ?_
  refine Rs.and_ev (v := x) (p := nx s (q + 1 + (held true x.f0 (textT l x)).length)) ((hx x (by simp)).2 _ _ hd2 hr2 _ (stars_stop hst)) ?_
  have e : acc ++ x :: xs = acc ++ [x] ++ xs := by simp
  rw [e]
  exact ih
theorem ors_ev (hg : goodB l = true) {d : Nat} : ∀ (xs : List S28), (∀ x ∈ xs, Fit l x ∧ CatOk l s d x) → ∀ acc q r, s.drop q = Lib.joinTail [32, 124, 32] (heldsT l false xs) ++ r → SepR r → Stop s (q + (Lib.joinTail [32, 124, 32] (heldsT l false xs)).length) →
 Ev (fun n => aOrs l s n d acc (nx s q)) (.ok (severalT 6 (acc ++ xs)) (nx s (q + (Lib.joinTail [32, 124, 32] (heldsT l false xs)).length))) ∧ StopC s q
 | [], _, acc, q, r, hd, hr, hs => by
  rw [heldsT_nil, joinTail_nil] at hs ⊢
  rw [List.append_nil]
  exact ⟨ors_stop hs.bar, hs.toStopC⟩
 | x :: xs, hx, acc, q, r, hd, hr, hs => by
  rw [heldsT_cons, joinTail_cons] at hd hs ⊢
  have hr2 : SepR (Lib.joinTail [32, 124, 32] (heldsT l false xs) ++ r) := sep_tail _ rfl _ _ hr
  have hb := begs_kid hg (hx x (by simp)).1 false hr2
  have hd1 : s.drop q = 32 :: 124 :: 32 :: (held false x.f0 (textT l x) ++ (Lib.joinTail [32, 124, 32] (heldsT l false xs) ++ r)) := by rw [hd]; simp
  have hn : nx s q = q + 1 := nx_blank hd1 (by simp)
  have hd4 : s.drop (q + 1) = 124 :: 32 :: (held false x.f0 (textT l x) ++ (Lib.joinTail [32, 124, 32] (heldsT l false xs) ++ r)) := drop_add (u := [32]) hd1 1 rfl
  have hd5 : s.drop (q + 1 + 1) = 32 :: (held false x.f0 (textT l x) ++ (Lib.joinTail [32, 124, 32] (heldsT l false xs) ++ r)) := drop_add (u := [124]) hd4 1 rfl
  have hn2 : nx s (q + 1 + 1) = q + 1 + 1 + 1 := nx_blank hd5 hb.noBlank
  have hd2 : s.drop (q + 1 + 1 + 1) = held false x.f0 (textT l x) ++ (Lib.joinTail [32, 124, 32] (heldsT l false xs) ++ r) := drop_add (u := [32]) hd5 1 rfl
  have hd3 := drop_add hd2 _ rfl
  have hq : q + ([32, 124, 32] ++ held false x.f0 (textT l x) ++ Lib.joinTail [32, 124, 32] (heldsT l false xs)).length = q + 1 + 1 + 1 + (held false x.f0 (textT l x)).length + (Lib.joinTail [32, 124, 32] (heldsT l false xs)).length := by simp; omega
  rw [hq] at hs ⊢
  have ht : tkn s (q + 1) = .one 124 := by rw [tkn_of hd4]; rfl
  obtain ⟨ih, hst⟩ := ors_ev hg xs (fun y hy => hx y (by simp [hy])) (acc ++ [x]) _ r hd3 hr hs
  refine ⟨?_, ⟨by rw [hn, ht]; rfl, by rw [hn, ht]; rfl⟩⟩
  rw [hn]
  refine Ev.step (fun k => rfl) ?_
  have ht' : (tokAt (s.drop (q + 1))).1.isOne 124 = true := by have : (tokAt (s.drop (q + 1))).1 = .one 124 := ht; rw [this]; rfl
  refine Ev.congr (fun k => by rw [aOrs, if_pos ht', hn2]) ?_
  refine Rs.and_ev (v := x) (p := nx s (q + 1 + 1 + 1 + (held false x.f0 (textT l x)).length)) ((hx x (by simp)).2 _ _ hd2 hr2 hst) ?_
  have e : acc ++ x :: xs = acc ++ [x] ++ xs := by simp
  rw [e]
  exact ih
theorem aAtom_paren {n d f : Nat} (h : tokAt (s.drop f) = (.one 40, 1)) (hd : ¬ 40 < d) : aAtom l s (n + 1) d f = Rs.and (aOr l s n (d + 1) (nx s (f + 1))) fun x g => if (tokAt (s.drop g)).1.isOne 41 then some (.ok x (nx s (g + 1))) else some (.err 1 g) := by
 rw [aAtom, h]
 show (if (40 : UInt8) = 48 then _ else if (40 : UInt8) = 49 then _ else if (40 : UInt8) = 40 then _ else _) = _
 rw [if_neg (by decide), if_neg (by decide), if_pos rfl, if_neg hd]
def aNestEnd (l : List S56) (s : List UInt8) (a : Int) (x : S28) (g : Nat) : Option Rs := match tokAt (s.drop g) with
 | (.over nm2, m2) => (match findT l nm2 2 0 with
  | some b => some (.ok ⟨4, a, b, [x]⟩ (nx s (g + m2)))
  | none => some (.err 6 g))
 | _ => some (.err 1 g)
theorem aAtom_nest {n d f m : Nat} {nm : List UInt8} {a : Int} (h : tokAt (s.drop f) = (.nest nm, m)) (fa : findT l nm 1 0 = some a) (hd : ¬ 40 < d) : aAtom l s (n + 1) d f = Rs.and (aOr l s n (d + 1) (nx s (f + m))) fun x g => aNestEnd l s a x g := by
 rw [aAtom, h]
 simp only [fa]
 rw [if_neg hd]
 rfl
theorem tdeep_mem : ∀ {xs : List S28} {x : S28}, x ∈ xs → tdeep x ≤ tdeepL xs
 | y :: ys, x, h => by
  rw [tdeepL]
  rcases List.mem_cons.mp h with rfl | h
  ·omega
  ·have := tdeep_mem h; omega
theorem read_all (hg : goodB l = true) : ∀ (n : Nat) (e : S28), tsize e ≤ n → Fit l e → (∀ d, d + tdeep e ≤ 41 → OrOk l s d e) ∧ (∀ d, d + 1 + tdeep e ≤ 41 → RepOk l s d e ∧ CatOk l s d e)
 | 0, e, h, _ => by rw [tsize_eq] at h; omega
 | n + 1, e, h, hf => by
  have hdp : 1 ≤ tdeep e := by rw [tdeep_eq]; omega
  have kid : ∀ z ∈ e.f3, Fit l z → (∀ d, d + tdeep e ≤ 41 → RepOk l s d z ∧ CatOk l s d z) ∧ (∀ d, d + tdeep e ≤ 41 → OrOk l s (d + 1) z) := by
   intro z hz hfz
   have h1 := tsize_mem hz
   have h2 := tsize_eq e
   have h3 := tdeep_eq e
   have h4 := tdeep_mem hz
   obtain ⟨i1, i2⟩ := read_all hg n z (by omega) hfz
   exact ⟨fun d hd => i2 d (by omega), fun d hd => i1 (d + 1) (by omega)⟩
  have hv := view hf
  have bare : (¬ e.f0 = 5) → (¬ e.f0 = 6) → ∀ d, d + tdeep e ≤ 41 → ∀ f r, s.drop f = textT l e ++ r → SepR r → ∀ R, Ev (fun n => aStars l s n e (nx s (f + (textT l e).length))) R → Ev (fun n => aRep l s n d f) R := by
   intro h5 h6 d hd f r hdr hr R hR
   cases hv with
   | none =>
    rw [textT_none] at hdr hR
    refine Ev.step (fun k => rfl) ?_
    refine Ev.congr (fun k => by rw [aRep]) ?_
    refine Rs.and_ev (v := ⟨1, 0, 0, []⟩) (p := nx s (f + 1)) ?_ hR
    refine Ev.step (fun k => rfl) ?_
    refine Ev.congr (f := fun _ => some (.ok ⟨1, 0, 0, []⟩ (nx s (f + 1)))) (fun k => ?_) (Ev.now _)
    rw [aAtom, hdr]
    rfl
   | void =>
    rw [textT_void] at hdr hR
    refine Ev.step (fun k => rfl) ?_
    refine Ev.congr (fun k => by rw [aRep]) ?_
    refine Rs.and_ev (v := ⟨2, 0, 0, []⟩) (p := nx s (f + 1)) ?_ hR
    refine Ev.step (fun k => rfl) ?_
    refine Ev.congr (f := fun _ => some (.ok ⟨2, 0, 0, []⟩ (nx s (f + 1)))) (fun k => ?_) (Ev.now _)
    rw [aAtom, hdr]
    rfl
   | sym a h0 h1 =>
    rw [textT_sym] at hdr hR
    refine Ev.step (fun k => rfl) ?_
    refine Ev.congr (fun k => by rw [aRep]) ?_
    refine Rs.and_ev (v := ⟨3, a, 0, []⟩) (p := nx s (f + (symT l a).length)) ?_ hR
    refine Ev.step (fun k => rfl) ?_
    refine Ev.congr (f := fun _ => some (.ok ⟨3, a, 0, []⟩ (nx s (f + (symT l a).length)))) (fun k => ?_) (Ev.now _)
    rw [aAtom, hdr, symT_tok hg h0 h1 hr]
    simp only [find_name hg h0 h1]
   | nest a b x a0 a1 a2 b0 b1 b2 hx =>
    have hna := good_nm hg a0 a1
    have hnb := good_nm hg b0 b1
    have hor := (kid x (by simp) hx).2 d hd
    rw [textT_nest] at hdr hR
    have hd1 : s.drop f = 60 :: (nameT l a ++ 91 :: (32 :: (textT l x ++ 32 :: 93 :: (nameT l b ++ 62 :: r)))) := by rw [hdr]; simp
    have hr1 : SepR (32 :: 93 :: (nameT l b ++ 62 :: r)) := SepR.cons (by decide)
    have hbg := begs_text hg _ x (Nat.le_refl _) hx _ hr1
    have hd2 : s.drop (f + ((nameT l a).length + 2)) = 32 :: (textT l x ++ 32 :: 93 :: (nameT l b ++ 62 :: r)) := drop_add (u := 60 :: (nameT l a ++ [91])) (by rw [hd1]; simp) _ (by simp)
    have hn1 : nx s (f + ((nameT l a).length + 2)) = f + ((nameT l a).length + 2) + 1 := nx_blank hd2 hbg.noBlank
    have hd3 : s.drop (f + ((nameT l a).length + 2) + 1) = textT l x ++ 32 :: 93 :: (nameT l b ++ 62 :: r) := drop_add (u := [32]) hd2 1 rfl
    have hd4 := drop_add hd3 _ rfl
    have hn2 := nx_blank hd4 (by simp)
    have hd5 := drop_add (u := [32]) hd4 1 rfl
    have ht : tokAt (s.drop (f + ((nameT l a).length + 2) + 1 + (textT l x).length + 1)) = (.over (nameT l b), (nameT l b).length + 2) := by rw [hd5]; exact tok_over hnb
    have ht' : tkn s (nx s (f + ((nameT l a).length + 2) + 1 + (textT l x).length)) = .over (nameT l b) := by rw [hn2]; unfold tkn; rw [ht]
    have hst : Stop s (f + ((nameT l a).length + 2) + 1 + (textT l x).length) := ⟨⟨by rw [ht']; rfl, by rw [ht']; rfl⟩, by rw [ht']; rfl⟩
    have hlen : f + (60 :: (nameT l a ++ 91 :: 32 :: (textT l x ++ 32 :: 93 :: (nameT l b ++ [62])))).length = f + ((nameT l a).length + 2) + 1 + (textT l x).length + 1 + ((nameT l b).length + 2) := by simp; omega
    rw [hlen] at hR
    refine Ev.step (fun k => rfl) ?_
    refine Ev.congr (fun k => by rw [aRep]) ?_
    refine Rs.and_ev (v := ⟨4, a, b, [x]⟩) ?_ hR
    refine Ev.step (fun k => rfl) ?_
    have fa := find_name hg a0 a1
    have fb := find_name hg b0 b1
    rw [a2] at fa
    rw [b2] at fb
    refine Ev.congr (fun k => aAtom_nest (by rw [hd1, tok_nest hna]) fa (by omega)) ?_
    rw [hn1]
    refine Rs.and_ev (hor _ _ hd3 hr1 hst) ?_
    rw [hn2]
    refine Ev.congr (f := fun _ => some (.ok ⟨4, a, b, [x]⟩ (nx s (f + ((nameT l a).length + 2) + 1 + (textT l x).length + 1 + ((nameT l b).length + 2))))) (fun k => ?_) (Ev.now _)
    unfold aNestEnd
    rw [ht]
    simp only [fb]
   | cat x y xs hx => exact absurd rfl h5
   | or x y xs hx => exact absurd rfl h6
   | star x hx =>
    have hrep := ((kid x (by simp) hx).1 d hd).1
    rw [textT_star, List.append_assoc] at hdr
    rw [textT_star] at hR
    have hd2 := drop_add hdr _ rfl
    have hn : nx s (f + (held true x.f0 (textT l x)).length) = f + (held true x.f0 (textT l x)).length := nx_same (by rw [hd2]; simp)
    refine hrep f _ hdr (SepR.cons (by decide)) R ?_
    rw [hn]
    refine Ev.step (fun k => rfl) ?_
    have ht : (tokAt (s.drop (f + (held true x.f0 (textT l x)).length))).1.isOne 42 = true := by rw [hd2]; rfl
    refine Ev.congr (fun k => by rw [aStars, if_pos ht]) ?_
    have hl : f + (held true x.f0 (textT l x) ++ [42]).length = f + (held true x.f0 (textT l x)).length + 1 := by simp; omega
    rw [hl] at hR
    exact hR
  have cat : (¬ e.f0 = 6) → ∀ d, d + tdeep e ≤ 41 → ∀ f r, s.drop f = textT l e ++ r → SepR r → StopC s (f + (textT l e).length) → Ev (fun n => aCat l s n d f) (.ok e (nx s (f + (textT l e).length))) := by
   intro h6 d hd f r hdr hr hst
   by_cases h5 : e.f0 = 5
   ·clear bare
    cases hv with
    | cat x y xs hx =>
     have hk : ∀ z ∈ x :: y :: xs, Fit l z ∧ RepOk l s d z := fun z hz => ⟨hx z hz, ((kid z hz (hx z hz)).1 d hd).1⟩
     rw [textT_cat, List.append_assoc] at hdr
     rw [textT_cat, List.length_append, ← Nat.add_assoc] at hst ⊢
     have hd2 := drop_add hdr _ rfl
     obtain ⟨h1, h2⟩ := cats_ev hg (y :: xs) (fun z hz => hk z (by simp [hz])) [x] _ r hd2 hr hst
     refine Ev.step (fun k => rfl) ?_
     refine Ev.congr (fun k => by rw [aCat]) ?_
     exact Rs.and_ev ((hk x (by simp)).2 f _ hdr (sep_tail _ rfl _ _ hr) _ (stars_stop h2)) h1
    | _ => simp at h5
   ·exact rep_cat (bare h5 h6 d hd f r hdr hr _ (stars_stop hst.star)) hst.begins
  have or : ∀ d, d + tdeep e ≤ 41 → OrOk l s d e := by
   intro d hd f r hdr hr hst
   by_cases h6 : e.f0 = 6
   ·clear bare cat
    cases hv with
    | or x y xs hx =>
     have hk : ∀ z ∈ x :: y :: xs, Fit l z ∧ CatOk l s d z := fun z hz => ⟨hx z hz, ((kid z hz (hx z hz)).1 d hd).2⟩
     rw [textT_or, List.append_assoc] at hdr
     rw [textT_or, List.length_append, ← Nat.add_assoc] at hst ⊢
     have hd2 := drop_add hdr _ rfl
     obtain ⟨h1, h2⟩ := ors_ev hg (y :: xs) (fun z hz => hk z (by simp [hz])) [x] _ r hd2 hr hst
     refine Ev.step (fun k => rfl) ?_
     refine Ev.congr (fun k => by rw [aOr]) ?_
     exact Rs.and_ev ((hk x (by simp)).2 f _ hdr (sep_tail _ rfl _ _ hr) h2) h1
    | _ => simp at h6
   ·exact cat_or (cat h6 d hd f r hdr hr hst.toStopC) hst.bar
  refine ⟨or, fun d hd => ?_⟩
  have rep : RepOk l s d e := by
   intro f r hdr hr R hR
   by_cases hp : e.f0 = 6 ∨ true = true ∧ e.f0 = 5
   ·rw [held_par _ _ _ hp] at hdr hR
    have hr1 : SepR (32 :: 41 :: r) := SepR.cons (by decide)
    have hbg := begs_text hg _ e (Nat.le_refl _) hf _ hr1
    have hd1 : s.drop f = 40 :: 32 :: (textT l e ++ 32 :: 41 :: r) := by rw [hdr]; simp
    have hd2 : s.drop (f + 1) = 32 :: (textT l e ++ 32 :: 41 :: r) := drop_add (u := [40]) hd1 1 rfl
    have hn1 : nx s (f + 1) = f + 1 + 1 := nx_blank hd2 hbg.noBlank
    have hd3 : s.drop (f + 1 + 1) = textT l e ++ 32 :: 41 :: r := drop_add (u := [32]) hd2 1 rfl
    have hd4 := drop_add hd3 _ rfl
    have hn2 := nx_blank hd4 (by simp)
    have hd5 := drop_add (u := [32]) hd4 1 rfl
    have ht' : tkn s (nx s (f + 1 + 1 + (textT l e).length)) = .one 41 := by rw [hn2, tkn_of hd5]; rfl
    have hst : Stop s (f + 1 + 1 + (textT l e).length) := ⟨⟨by rw [ht']; rfl, by rw [ht']; rfl⟩, by rw [ht']; rfl⟩
    have hlen : f + (40 :: 32 :: (textT l e ++ [32, 41])).length = f + 1 + 1 + (textT l e).length + 1 + 1 := by simp; omega
    rw [hlen] at hR
    refine Ev.step (fun k => rfl) ?_
    refine Ev.congr (fun k => by rw [aRep]) ?_
    refine Rs.and_ev (v := e) ?_ hR
    refine Ev.step (fun k => rfl) ?_
    refine Ev.congr (fun k => aAtom_paren (by rw [hd1]; rfl) (by omega)) ?_
    rw [hn1]
    refine Rs.and_ev (or (d + 1) (by omega) _ _ hd3 hr1 hst) ?_
    refine Ev.congr (f := fun _ => some (.ok e (nx s (f + 1 + 1 + (textT l e).length + 1 + 1)))) (fun k => ?_) (Ev.now _)
    have ht2 : (tokAt (s.drop (nx s (f + 1 + 1 + (textT l e).length)))).1.isOne 41 = true := by have : (tokAt (s.drop (nx s (f + 1 + 1 + (textT l e).length)))).1 = .one 41 := ht'; rw [this]; rfl
    rw [if_pos ht2, hn2]
   ·rw [held_bare _ _ _ hp] at hdr hR
    exact bare (fun q => hp (.inr ⟨rfl, q⟩)) (fun q => hp (.inl q)) d (by omega) f r hdr hr R hR
  refine ⟨rep, fun f r hdr hr hst => ?_⟩
  by_cases h6 : e.f0 = 6
  ·have hh : held false e.f0 (textT l e) = held true e.f0 (textT l e) := by unfold held; rw [if_pos (.inl h6), if_pos (.inl h6)]
   rw [hh] at hdr hst ⊢
   exact rep_cat (rep f r hdr hr _ (stars_stop hst.star)) hst.begins
  ·have hh : held false e.f0 (textT l e) = textT l e := held_bare _ _ _ (by simp [h6])
   rw [hh] at hdr hst ⊢
   exact cat h6 d (by omega) f r hdr hr hst
end
theorem nx_end (s : List UInt8) : nx s s.length = s.length := by unfold nx; rw [List.drop_length]; rfl
theorem parse_text {l : List S56} (hg : goodB l = true) {e : S28} (h : treeErr l e = 0) : Ev (fun n => aParse l (textT l e) n) (e, 0, 0) := by
 have hd : ¬ 20 < tdeep e := fun q => by rw [treeErr, if_pos q] at h; cases h
 have hs : ¬ 200 < tsize e := fun q => by rw [treeErr, if_neg hd, if_pos q] at h; cases h
 have hf : tformed e = true := by
  cases hq : tformed e with
  | true => rfl
  | false => rw [treeErr, if_neg hd, if_neg hs, hq] at h; cases h
 have hb : tbad l e = false := by
  cases hq : tbad l e with
  | false => rfl
  | true => rw [treeErr, if_neg hd, if_neg hs, hf, hq] at h; cases h
 have hfit : Fit l e := ⟨hf, hb⟩
 have hbg := begs_text hg _ e (Nat.le_refl _) hfit [] SepR.nil
 rw [List.append_nil] at hbg
 have h0 : nx (textT l e) 0 = 0 := nx_same (by rw [List.drop_zero]; exact hbg.noBlank)
 have ht : tkn (textT l e) (nx (textT l e) (0 + (textT l e).length)) = .eof := by rw [Nat.zero_add, nx_end]; unfold tkn; rw [List.drop_length]; rfl
 have hst : Stop (textT l e) (0 + (textT l e).length) := ⟨⟨by rw [ht]; rfl, by rw [ht]; rfl⟩, by rw [ht]; rfl⟩
 have := (read_all (s := textT l e) hg _ e (Nat.le_refl _) hfit).1 0 (by omega) 0 [] (by simp) SepR.nil hst
 obtain ⟨K, hK⟩ := this
 refine ⟨K, fun k hk => ?_⟩
 show aParse l (textT l e) k = _
 unfold aParse
 have hK2 : aOr l (textT l e) k 0 0 = some (Rs.ok e (nx (textT l e) (0 + (textT l e).length))) := hK k hk
 rw [h0, hK2]
 have ht2 : (tokAt ((textT l e).drop (nx (textT l e) (0 + (textT l e).length)))).1 = .eof := ht
 simp only [Option.map_some, ht2]
 rw [if_pos h]
 rfl
end Go.Proofs.YtodbnnfiadcbaaaL
namespace Go.Proofs.YtodbnnfiadcbaaaL
open Go.RowKit Go.Proofs.Ytodbnnfiadcbaaa.P Go.Proofs.YtodbnnfiadcbaaaW.PrintWords Go.Proofs.YtodbnnfiadcbaaaW.PrintLast Go.Proofs.YtodbnnfiadcbaaaW.PrintMore
set_option linter.unusedSimpArgs false
set_option linter.unusedVariables false
def B (bs : List UInt8) : ByteArray := ⟨bs.toArray⟩
def L (s : ByteArray) : List UInt8 := s.data.toList
theorem L_B (bs : List UInt8) : L (B bs) = bs := by simp [L, B]
theorem B_L (s : ByteArray) : B (L s) = s := by simp [L, B]
theorem L_len (s : ByteArray) : (L s).length = s.size := by simp only [L, Array.length_toList]; rfl
theorem B_size (bs : List UInt8) : (B bs).size = bs.length := by rw [← L_len, L_B]
theorem toL (s : ByteArray) : s.toList = L s := ByteArray.toList_eq s
theorem L_append (a b : ByteArray) : L (a ++ b) = L a ++ L b := by simp [L]
theorem L_extract (s : ByteArray) (i j : Nat) : L (s.extract i j) = ((L s).drop i).take (j - i) := by
 have := Lib.extract_toList s i j
 rwa [toL] at this
theorem L_inj {a b : ByteArray} (h : L a = L b) : a = b := by rw [← B_L a, h, B_L]
theorem bt_L (s : ByteArray) (i : Nat) (h : i < s.size) : bt s (i : Int) = (((L s)[i]'(by rw [L_len]; exact h)).toNat : Int) := by
 unfold bt
 simp only [Int.toNat_natCast]
 rw [dif_pos h]
 rfl
theorem ext_from (s : ByteArray) (i : Nat) (h : i ≤ s.size) : s.extract i s.size = B ((L s).drop i) := by
 apply L_inj
 rw [L_extract, L_B]
 exact List.take_of_length_le (by rw [List.length_drop, L_len]; omega)
theorem ext_to (s : ByteArray) (i : Nat) : s.extract 0 i = B ((L s).take i) := by
 apply L_inj
 rw [L_extract, L_B, List.drop_zero]
 rfl
theorem lets_le : ∀ t : List UInt8, lets t ≤ t.length
 | [] => Nat.le_refl _
 | c :: t => by
  have := lets_le t
  rw [lets]
  split
  ·rw [List.length_cons]; omega
  ·omega
theorem letters_l0 (s : ByteArray) (hs : s.size ≤ 1000000000) : ∀ (d i : Nat), i + d = s.size → Ev (fun k => expr_letters.l0 k s (i : Int)) ((i + lets ((L s).drop i) : Nat) : Int) := by
 intro d
 induction d with
 | zero =>
  intro i hi
  refine Ev.step (fun k => rfl) ?_
  refine Ev.congr (f := fun _ => some ((i + lets ((L s).drop i) : Nat) : Int)) (fun k => ?_) (Ev.now _)
  rw [expr_letters.l0, if_neg (by omega), List.drop_eq_nil_of_le (by rw [L_len]; omega)]
  rfl
 | succ d ih =>
  intro i hi
  have hlt : i < s.size := by omega
  have hl : i < (L s).length := by rw [L_len]; exact hlt
  refine Ev.step (fun k => rfl) ?_
  have hb := bt_L s i hlt
  rw [List.drop_eq_getElem_cons hl, lets]
  by_cases h1 : 97 ≤ ((L s)[i]).toNat
  ·by_cases h2 : ((L s)[i]).toNat ≤ 122
   ·refine Ev.congr (fun k => by rw [expr_letters.l0, if_pos (by omega), if_pos (by omega), hb, if_pos (by omega), if_pos (by omega), wrap_suc i s.size hlt hs]) ?_
    rw [if_pos ⟨h1, h2⟩]
    have := ih (i + 1) (by omega)
    rwa [show i + 1 + lets ((L s).drop (i + 1)) = i + (lets ((L s).drop (i + 1)) + 1) by omega] at this
   ·rw [if_neg (fun h => h2 h.2)]
    exact Ev.congr (f := fun _ => some ((i + 0 : Nat) : Int)) (fun k => by rw [expr_letters.l0, if_pos (by omega), if_pos (by omega), hb, if_pos (by omega), if_neg (by omega)]; rfl) (Ev.now _)
  ·rw [if_neg (fun h => h1 h.1)]
   exact Ev.congr (f := fun _ => some ((i + 0 : Nat) : Int)) (fun k => by rw [expr_letters.l0, if_pos (by omega), if_pos (by omega), hb, if_neg (by omega)]; rfl) (Ev.now _)
theorem letters_ev (s : ByteArray) (hs : s.size ≤ 1000000000) : Ev (fun k => expr_letters.f k s) (lets (L s) : Int) := by
 have := letters_l0 s hs s.size 0 (by omega)
 rw [List.drop_zero, Nat.zero_add] at this
 exact this
theorem index_ge (c : UInt8) : ∀ es : List UInt8, (¬ Lib.indexByte es c < 0) ↔ c ∈ es
 | [] => by simp [Lib.indexByte]
 | b :: es => by
  have ih := index_ge c es
  have hg := Lib.indexByte_ge es c
  rw [Lib.indexByte]
  by_cases h : b = c
  ·subst h; simp
  ·have h' : (b == c) = false := beq_eq_false_iff_ne.mpr h
   rw [h', if_neg (by decide)]
   by_cases h2 : Lib.indexByte es c = -1
   ·rw [if_pos (by rw [h2]; rfl)]
    have : ¬ c ∈ es := fun hm => by have := ih.mpr hm; omega
    simp [this, Ne.symm h]
   ·rw [if_neg (by simpa using h2)]
    have : c ∈ es := ih.mp (by omega)
    simp [this]
    omega
def namedT (t es : List UInt8) : ByteArray × Int × Int :=
 if okN t then (if es = [] then (B (t.take (lets t)), 32, (lets t : Int)) else match t[lets t]? with
  | some c => if c ∈ es then (B (t.take (lets t)), (c.toNat : Int), ((lets t + 1 : Nat) : Int)) else (⟨#[]⟩, 0, 0)
  | none => (⟨#[]⟩, 0, 0))
 else (⟨#[]⟩, 0, 0)
theorem toUInt8_toNat (c : UInt8) : ((c.toNat : Int)).toNat.toUInt8 = c := by simp
theorem pnamed_ev (s es : ByteArray) (hs : s.size ≤ 1000000000) : Ev (fun k => expr_named.f k s es) (namedT (L s) (L es)) := by
 have hle := lets_le (L s)
 rw [L_len] at hle
 unfold expr_named.f
 refine Ev.bind (letters_ev s hs) ?_
 unfold namedT
 by_cases h1 : 1 ≤ lets (L s)
 ·refine Ev.congr (fun k => by rw [if_neg (by omega)]) ?_
  by_cases h8 : lets (L s) ≤ 8
  ·have hk : okN (L s) = true := by unfold okN; simp; omega
   rw [if_pos hk]
   refine Ev.step (fun k => rfl) ?_
   have hd : decide (((lets (L s) : Nat) : Int) > 8) = false := decide_eq_false (by omega)
   by_cases he : L es = []
   ·rw [if_pos he]
    refine Ev.congr (f := fun _ => some (B ((L s).take (lets (L s))), 32, ((lets (L s) : Nat) : Int))) (fun k => ?_) (Ev.now _)
    rw [expr_named.j0, hd, if_neg (by decide), if_pos (by rw [toL]; exact he), if_pos (by omega), if_pos (by omega), Int.toNat_natCast, ext_to]
   ·rw [if_neg he]
    have he' : ¬ es.toList = ([] : List UInt8) := by rw [toL]; exact he
    by_cases hz : lets (L s) = s.size
    ·rw [List.getElem?_eq_none (by rw [L_len]; omega)]
     exact Ev.congr (f := fun _ => some ((⟨#[]⟩ : ByteArray), 0, 0)) (fun k => by rw [expr_named.j0, hd, if_neg (by decide), if_neg he', if_pos (by omega)]) (Ev.now _)
    ·have hl : lets (L s) < (L s).length := by rw [L_len]; omega
     rw [List.getElem?_eq_getElem hl]
     have hb := bt_L s (lets (L s)) (by omega)
     have hi : strings_IndexByte.f es (bt s ((lets (L s) : Nat) : Int)) = some (Lib.indexByte (L es) ((L s)[lets (L s)])) := by
      unfold strings_IndexByte.f
      rw [hb, toUInt8_toNat]
      rfl
     have hq := index_ge ((L s)[lets (L s)]) (L es)
     by_cases hm : (L s)[lets (L s)] ∈ L es
     ·refine Ev.congr (f := fun _ => some (B ((L s).take (lets (L s))), (((L s)[lets (L s)]).toNat : Int), ((lets (L s) + 1 : Nat) : Int))) (fun k => ?_) ?_
      ·rw [expr_named.j0, hd, if_neg (by decide), if_neg he', if_neg (by omega), if_pos (by omega), if_pos (by omega), hi, Option.bind_some, if_neg (hq.mpr hm), if_pos (by omega), Int.toNat_natCast, ext_to, hb, wrap_suc _ s.size (by omega) hs]
      ·simp only [if_pos hm]; exact Ev.now _
     ·refine Ev.congr (f := fun _ => some ((⟨#[]⟩ : ByteArray), 0, 0)) (fun k => ?_) ?_
      ·rw [expr_named.j0, hd, if_neg (by decide), if_neg he', if_neg (by omega), if_pos (by omega), if_pos (by omega), hi, Option.bind_some, if_pos (by have := mt hq.mp hm; omega)]
      ·simp only [if_neg hm]; exact Ev.now _
  ·have hk : ¬ okN (L s) = true := by unfold okN; simp; omega
   rw [if_neg hk]
   refine Ev.step (fun k => rfl) ?_
   have hd : decide (((lets (L s) : Nat) : Int) > 8) = true := decide_eq_true (by omega)
   exact Ev.congr (f := fun _ => some ((⟨#[]⟩ : ByteArray), 0, 0)) (fun k => by rw [expr_named.j0, hd, if_pos rfl]) (Ev.now _)
 ·have hk : ¬ okN (L s) = true := by unfold okN; simp; omega
  rw [if_neg hk]
  refine Ev.congr (fun k => by rw [if_pos (by omega)]) ?_
  refine Ev.step (fun k => rfl) ?_
  exact Ev.congr (f := fun _ => some ((⟨#[]⟩ : ByteArray), 0, 0)) (fun k => by rw [expr_named.j0, if_pos rfl]) (Ev.now _)
/-! ### a parser's state -/
abbrev PS := ByteArray × Int × Int × Int × ByteArray × Int × Int × Int × Int × Int
def Tk.K : Tk → Int
 | .eof => 1
 | .bad => 2
 | .one _ => 3
 | .sym _ _ => 4
 | .nest _ => 5
 | .over _ => 6
def Tk.N : Tk → ByteArray
 | .sym nm _ => B nm
 | .nest nm => B nm
 | .over nm => B nm
 | _ => ⟨#[]⟩
def Tk.S : Tk → Int
 | .sym _ k => k
 | .nest _ => 1
 | .over _ => 2
 | _ => 0
def Tk.C : Tk → Int
 | .one c => (c.toNat : Int)
 | _ => 0
def stT (s : ByteArray) (f : Nat) (t : Tk × Nat) (d e p : Int) : PS := (s, (f : Int), ((f + t.2 : Nat) : Int), t.1.K, t.1.N, t.1.S, t.1.C, d, e, p)
def st (s : ByteArray) (f : Nat) (d e p : Int) : PS := stT s f (tokAt ((L s).drop f)) d e p
theorem tokLt_len (t : List UInt8) : (tokLt t).2 ≤ t.length + 1 := by
 unfold tokLt endsBy
 have h1 := lets_le t
 have h2 := lets_le t.tail
 have e : ∀ (u : List UInt8) (c : UInt8), (okN u && decide (u[lets u]? = some c)) = true → lets u + 1 ≤ u.length := fun u c h => by
  simp only [Bool.and_eq_true, decide_eq_true_eq] at h
  have := (List.getElem?_eq_some_iff.mp h.2).1
  omega
 split
 ·rename_i h0
  split
  ·rename_i h
   have := e _ _ h
   cases t with
   | nil => simp at h0
   | cons c t => simp only [List.tail_cons, List.length_cons] at *; omega
  ·simp
 ·split
  ·rename_i h; have := e _ _ h; simp only; omega
  ·split
   ·rename_i h; have := e _ _ h; simp only; omega
   ·simp
theorem tok_len (t : List UInt8) : (tokAt t).2 ≤ t.length := by
 cases t with
 | nil => simp [tokAt]
 | cons c t =>
  rw [tokAt]
  have h0 := tokLt_len t
  have h1 := lets_le t
  have h2 := lets_le (c :: t)
  split
  ·simp
  ·split
   ·simpa using h0
   ·split
    ·split
     ·rename_i h
      simp only [endsBy, Bool.and_eq_true, decide_eq_true_eq] at h
      have := (List.getElem?_eq_some_iff.mp h.2).1
      simp only [List.length_cons]; omega
     ·simp
    ·split
     ·simpa using h2
     ·simp
theorem blk_le : ∀ t : List UInt8, blk t ≤ t.length
 | [] => Nat.le_refl _
 | c :: t => by
  have := blk_le t
  rw [blk]
  split
  ·rw [List.length_cons]; omega
  ·omega
theorem nx_le (s : List UInt8) (q : Nat) (h : q ≤ s.length) : nx s q ≤ s.length := by
 unfold nx
 have := blk_le (s.drop q)
 rw [List.length_drop] at this
 omega
theorem tok_le (s : List UInt8) (q : Nat) (h : q ≤ s.length) : q + (tokAt (s.drop q)).2 ≤ s.length := by
 have := tok_len (s.drop q)
 rw [List.length_drop] at this
 omega
theorem sign_ge (c : UInt8) : (¬ Lib.indexByte [48, 49, 40, 41, 124, 42] c < 0) ↔ isSign c = true := by
 rw [index_ge]
 unfold isSign
 simp [or_assoc]
theorem ends_some {t : List UInt8} {c : UInt8} (h : endsBy t c = true) (es : List UInt8) (hc : c ∈ es) : namedT t es = (B (t.take (lets t)), (c.toNat : Int), ((lets t + 1 : Nat) : Int)) := by
 simp only [endsBy, Bool.and_eq_true, decide_eq_true_eq] at h
 unfold namedT
 rw [if_pos h.1, if_neg (by intro e; rw [e] at hc; simp at hc), h.2]
 simp only [if_pos hc]
theorem ends_none {t es : List UInt8} (he : es ≠ []) (h : ∀ c ∈ es, endsBy t c = false) : namedT t es = (⟨#[]⟩, 0, 0) := by
 unfold namedT
 by_cases hk : okN t = true
 ·rw [if_pos hk, if_neg he]
  cases hq : t[lets t]? with
  | none => rfl
  | some c =>
   by_cases hc : c ∈ es
   ·have := h c hc
    rw [endsBy, hk, hq] at this
    simp at this
   ·simp only [if_neg hc]
 ·rw [if_neg hk]
theorem L62 : L (⟨#[62]⟩ : ByteArray) = [62] := rfl
theorem L6291 : L (⟨#[62, 91]⟩ : ByteArray) = [62, 91] := rfl
theorem Lnil : L (⟨#[]⟩ : ByteArray) = [] := rfl
theorem wrap_add (a b c : Nat) (h : a + b = c) (hc : c ≤ 1000000000) : wrap64 ((a : Int) + (b : Int)) = (c : Int) := by unfold wrap64; omega
theorem prefix_ev (t : List UInt8) : strings_HasPrefix.f (B t) (⟨#[60, 47]⟩ : ByteArray) = some (decide (t.take 2 = [60, 47])) := by
 unfold strings_HasPrefix.f stringslite_HasPrefix.f
 have hz : ((⟨#[60, 47]⟩ : ByteArray).size : Int) = 2 := rfl
 rw [hz]
 by_cases h : (2 : Int) ≤ ((B t).size : Int)
 ·rw [if_pos h, if_pos (by omega), if_pos h]
  rw [ext_to, toL, toL, L_B, L_B]
  show some _ = _
  congr 1
  rw [Bool.eq_iff_iff]
  simp
  exact Iff.rfl
 ·rw [if_neg h]
  show some _ = _
  congr 1
  symm
  rw [decide_eq_false_iff_not]
  intro e
  have := congrArg List.length e
  rw [List.length_take] at this
  rw [B_size] at h
  simp at this
  omega
section
variable (l : List S56) (s : ByteArray) (hs : s.size ≤ 2000)
include hs
theorem j1_ev (f : Nat) (hf : f ≤ s.size) (x3 x4 : Int) (x5 : ByteArray) (x6 x7 d e p : Int) : Ev (fun k => expr_parser_next.j1 k l s (f : Int) x3 x4 x5 x6 x7 d e p) (st s f d e p) := by
 refine Ev.step (fun k => rfl) ?_
 unfold st
 have hfl : f ≤ (L s).length := by rw [L_len]; exact hf
 have hst := tok_le (L s) f hfl
 rw [L_len] at hst
 have hx : s.extract f s.size = B ((L s).drop f) := ext_from s f hf
 have hlen : ((L s).drop f).length = s.size - f := by rw [List.length_drop, L_len]
 have start : ∀ k, expr_parser_next.j1 (k + 1) l s (f : Int) x3 x4 x5 x6 x7 d e p = _ := fun k => by
  rw [expr_parser_next.j1, if_pos (by omega), if_pos (by omega), Int.toNat_natCast, hx, Option.bind_some, toL, L_B]
 cases hu : (L s).drop f with
 | nil =>
  refine Ev.congr (f := fun _ => some (stT s f (tokAt []) d e p)) (fun k => ?_) (Ev.now _)
  rw [start, if_pos hu]
  rfl
 | cons c t =>
  rw [hu] at hst hlen
  have hne : ¬ (L s).drop f = [] := by rw [hu]; simp
  have hlt : f < s.size := by rw [List.length_cons] at hlen; omega
  have htl : t.length + 1 = s.size - f := by rw [← hlen, List.length_cons]
  have hbt : bt (B (c :: t)) 0 = (c.toNat : Int) := by
   have := bt_L (B (c :: t)) 0 (by rw [B_size]; simp)
   rw [show ((0 : Nat) : Int) = 0 from rfl] at this
   rw [this]
   congr 2
  have hi : strings_IndexByte.f (⟨#[48, 49, 40, 41, 124, 42]⟩ : ByteArray) (bt (B (c :: t)) 0) = some (Lib.indexByte [48, 49, 40, 41, 124, 42] c) := by
   unfold strings_IndexByte.f
   rw [hbt, toUInt8_toNat]
  have hz : (0 : Int) < ((B (c :: t)).size : Int) := by rw [B_size]; simp
  have start2 : ∀ k, expr_parser_next.j1 (k + 1) l s (f : Int) x3 x4 x5 x6 x7 d e p = _ := fun k => by
   rw [start, if_neg hne, hu, if_pos hz, hi, Option.bind_some]
  clear start
  have hbig : (c :: t).length ≤ 1000000000 := by rw [hlen]; omega
  have w1 : wrap64 ((f : Int) + 1) = ((f + 1 : Nat) : Int) := wrap_suc f s.size hlt (Nat.le_trans hs (by decide))
  have w2 : wrap64 ((f : Int) + 2) = ((f + 2 : Nat) : Int) := wrap_add f 2 _ rfl (Nat.le_trans (Nat.add_le_add_right (Nat.le_trans hf hs) 2) (by decide))
  by_cases hsg : isSign c = true
  ·refine Ev.congr (f := fun _ => some (stT s f (.one c, 1) d e p)) (fun k => ?_) ?_
   ·rw [start2, if_pos (by have := (sign_ge c).mpr hsg; omega), hbt, w1]
    rfl
   ·rw [tokAt, if_pos hsg]; exact Ev.now _
  ·have hsg' : ¬ Lib.indexByte [48, 49, 40, 41, 124, 42] c ≥ 0 := fun h => hsg ((sign_ge c).mp (by omega))
   rw [tokAt, if_neg hsg]
   rw [tokAt, if_neg hsg] at hst
   have start3 : ∀ k, expr_parser_next.j1 (k + 1) l s (f : Int) x3 x4 x5 x6 x7 d e p = _ := fun k => by
    rw [start2, if_neg hsg', prefix_ev, Option.bind_some, hbt]
   clear start2
   by_cases hc : c = 60
   ·subst hc
    rw [if_pos rfl] at hst ⊢
    by_cases ht : t.head? = some 47
    ·obtain ⟨t2, rfl⟩ : ∃ t2, t = 47 :: t2 := by
      cases t with
      | nil => simp at ht
      | cons a t2 => simp at ht; exact ⟨t2, by rw [ht]⟩
     have hx2 : (B (60 :: 47 :: t2)).extract 2 (B (60 :: 47 :: t2)).size = B t2 := by
      rw [ext_from _ 2 (by rw [B_size]; simp), L_B]; rfl
     refine Ev.congr (fun k => by rw [start3, if_pos (by rfl), if_pos (by rw [B_size]; simp only [List.length_cons]; omega), hx2]) ?_
     refine Ev.bind (pnamed_ev (B t2) _ (by rw [B_size]; simp only [List.length_cons] at htl; omega)) ?_
     rw [L_B, L62]
     show Ev (fun k => if (namedT t2 [62]).2.2 > 0 then _ else _) _
     unfold tokLt at hst ⊢
     rw [if_pos ht, List.tail_cons] at hst ⊢
     by_cases hn : endsBy t2 62 = true
     ·rw [if_pos hn] at hst ⊢
      rw [ends_some hn [62] (by simp)]
      refine Ev.congr (f := fun _ => some (stT s f (.sym (t2.take (lets t2)) 2, lets t2 + 3) d e p)) (fun k => ?_) (Ev.now _)
      rw [if_pos (show (((lets t2 + 1 : Nat) : Int)) > 0 by omega)]
      show some (s, (f : Int), wrap64 (wrap64 ((f : Int) + 2) + ((lets t2 + 1 : Nat) : Int)), _) = _
      rw [w2, wrap_add (f + 2) (lets t2 + 1) (f + (lets t2 + 3)) (by omega) (by simp only at hst; omega)]
      rfl
     ·rw [if_neg hn]
      have hn' : endsBy t2 62 = false := by simpa using hn
      rw [ends_none (es := [62]) (by simp) (by simpa using hn')]
      exact Ev.congr (f := fun _ => some (stT s f (.bad, 0) d e p)) (fun k => by rw [if_neg (by decide)]; rfl) (Ev.now _)
    ·have hp : decide ((60 :: t).take 2 = [60, 47]) = false := by
      rw [decide_eq_false_iff_not]
      intro h
      cases t with
      | nil => simp at h
      | cons a t2 => simp at h; exact ht (by rw [h]; rfl)
     have hx2 : (B (60 :: t)).extract 1 (B (60 :: t)).size = B t := by
      rw [ext_from _ 1 (by rw [B_size]; simp), L_B]; rfl
     refine Ev.congr (fun k => by rw [start3, hp, if_neg (by decide), if_pos (by rfl), if_pos (by rw [B_size]; simp only [List.length_cons]; omega), hx2]) ?_
     refine Ev.bind (pnamed_ev (B t) _ (by rw [B_size]; omega)) ?_
     rw [L_B, L6291]
     show Ev (fun k => if (namedT t [62, 91]).2.2 > 0 then _ else _) _
     unfold tokLt at hst ⊢
     rw [if_neg ht] at hst ⊢
     by_cases hn : endsBy t 62 = true
     ·rw [if_pos hn] at hst ⊢
      rw [ends_some hn [62, 91] (by simp)]
      refine Ev.congr (f := fun _ => some (stT s f (.sym (t.take (lets t)) 1, lets t + 2) d e p)) (fun k => ?_) (Ev.now _)
      rw [if_pos (show (((lets t + 1 : Nat) : Int)) > 0 by omega), if_neg (show ¬ ((62 : UInt8).toNat : Int) = 91 by decide)]
      show some (s, (f : Int), wrap64 (wrap64 ((f : Int) + 1) + ((lets t + 1 : Nat) : Int)), _) = _
      rw [w1, wrap_add (f + 1) (lets t + 1) (f + (lets t + 2)) (by omega) (by simp only at hst; omega)]
      rfl
     ·rw [if_neg hn] at hst ⊢
      have hn' : endsBy t 62 = false := by simpa using hn
      by_cases hm : endsBy t 91 = true
      ·rw [if_pos hm] at hst ⊢
       rw [ends_some hm [62, 91] (by simp)]
       refine Ev.congr (f := fun _ => some (stT s f (.nest (t.take (lets t)), lets t + 2) d e p)) (fun k => ?_) (Ev.now _)
       rw [if_pos (show (((lets t + 1 : Nat) : Int)) > 0 by omega), if_pos (show ((91 : UInt8).toNat : Int) = 91 by decide)]
       show some (s, (f : Int), wrap64 (wrap64 ((f : Int) + 1) + ((lets t + 1 : Nat) : Int)), _) = _
       rw [w1, wrap_add (f + 1) (lets t + 1) (f + (lets t + 2)) (by omega) (by simp only at hst; omega)]
       rfl
      ·rw [if_neg hm]
       have hm' : endsBy t 91 = false := by simpa using hm
       rw [ends_none (es := [62, 91]) (by simp) (by simp [hn', hm'])]
       exact Ev.congr (f := fun _ => some (stT s f (.bad, 0) d e p)) (fun k => by rw [if_neg (by decide)]; rfl) (Ev.now _)
   ·have hp : decide ((c :: t).take 2 = [60, 47]) = false := by
     rw [decide_eq_false_iff_not]
     intro h
     cases t with
     | nil => simp at h
     | cons a t2 => simp at h; exact hc h.1
    have hc60 : ¬ (c.toNat : Int) = 60 := fun h => hc (UInt8.toNat_inj.1 (by simpa using (by omega : c.toNat = 60)))
    rw [if_neg hc] at hst ⊢
    by_cases hc93 : c = 93
    ·subst hc93
     rw [if_pos rfl] at hst ⊢
     have hx2 : (B (93 :: t)).extract 1 (B (93 :: t)).size = B t := by
      rw [ext_from _ 1 (by rw [B_size]; simp), L_B]; rfl
     refine Ev.congr (fun k => by rw [start3, hp, if_neg (by decide), if_neg hc60, if_pos (by rfl), if_pos (by rw [B_size]; simp only [List.length_cons]; omega), hx2]) ?_
     refine Ev.bind (pnamed_ev (B t) _ (by rw [B_size]; omega)) ?_
     rw [L_B, L62]
     show Ev (fun k => if (namedT t [62]).2.2 > 0 then _ else _) _
     by_cases hn : endsBy t 62 = true
     ·rw [if_pos hn] at hst ⊢
      rw [ends_some hn [62] (by simp)]
      refine Ev.congr (f := fun _ => some (stT s f (.over (t.take (lets t)), lets t + 2) d e p)) (fun k => ?_) (Ev.now _)
      rw [if_pos (show (((lets t + 1 : Nat) : Int)) > 0 by omega)]
      show some (s, (f : Int), wrap64 (wrap64 ((f : Int) + 1) + ((lets t + 1 : Nat) : Int)), _) = _
      rw [w1, wrap_add (f + 1) (lets t + 1) (f + (lets t + 2)) (by omega) (by simp only at hst; omega)]
      rfl
     ·rw [if_neg hn]
      have hn' : endsBy t 62 = false := by simpa using hn
      rw [ends_none (es := [62]) (by simp) (by simpa using hn')]
      exact Ev.congr (f := fun _ => some (stT s f (.bad, 0) d e p)) (fun k => by rw [if_neg (by decide)]; rfl) (Ev.now _)
    ·have hcn93 : ¬ (c.toNat : Int) = 93 := fun h => hc93 (UInt8.toNat_inj.1 (by simpa using (by omega : c.toNat = 93)))
     rw [if_neg hc93] at hst ⊢
     refine Ev.congr (fun k => by rw [start3, hp, if_neg (by decide), if_neg hc60, if_neg hcn93]) ?_
     refine Ev.bind (pnamed_ev (B (c :: t)) _ (by rw [B_size]; exact hbig)) ?_
     rw [L_B, Lnil]
     show Ev (fun k => if (namedT (c :: t) []).2.2 > 0 then _ else _) _
     unfold namedT
     by_cases hn : okN (c :: t) = true
     ·rw [if_pos hn] at hst
      rw [if_pos hn, if_pos hn, if_pos rfl]
      have h1 : 1 ≤ lets (c :: t) := by simp [okN] at hn; omega
      refine Ev.congr (f := fun _ => some (stT s f (.sym ((c :: t).take (lets (c :: t))) 3, lets (c :: t)) d e p)) (fun k => ?_) (Ev.now _)
      rw [if_pos (show (((lets (c :: t) : Nat) : Int)) > 0 by omega)]
      show some (s, (f : Int), wrap64 ((f : Int) + ((lets (c :: t) : Nat) : Int)), _) = _
      have hst : f + lets (c :: t) ≤ s.size := hst
      rw [wrap_add f (lets (c :: t)) _ rfl (Nat.le_trans hst (Nat.le_trans hs (by decide)))]
      rfl
     ·rw [if_neg hn, if_neg hn]
      exact Ev.congr (f := fun _ => some (stT s f (.bad, 0) d e p)) (fun k => by rw [if_neg (by decide)]; rfl) (Ev.now _)
theorem l0_ev (x3 x4 : Int) (x5 : ByteArray) (x6 x7 d e p : Int) : ∀ (m q : Nat), q + m = s.size → Ev (fun k => expr_parser_next.l0 k l s (q : Int) x3 x4 x5 x6 x7 d e p) (st s (nx (L s) q) d e p) := by
 intro m
 induction m with
 | zero =>
  intro q hq
  have hn : nx (L s) q = q := nx_same (by rw [List.drop_eq_nil_of_le (by rw [L_len]; omega)]; simp)
  rw [hn]
  refine Ev.step (fun k => rfl) ?_
  exact Ev.congr (fun k => by rw [expr_parser_next.l0, if_neg (by omega)]) (j1_ev l s hs q (by omega) _ _ _ _ _ _ _ _)
 | succ m ih =>
  intro q hq
  have hlt : q < s.size := by omega
  have hl : q < (L s).length := by rw [L_len]; exact hlt
  have hb := bt_L s q hlt
  refine Ev.step (fun k => rfl) ?_
  by_cases h : (L s)[q] = 32
  ·have hn : nx (L s) q = nx (L s) (q + 1) := by
    unfold nx
    rw [List.drop_eq_getElem_cons hl, blk, if_pos h]
    omega
   rw [hn]
   refine Ev.congr (fun k => by rw [expr_parser_next.l0, if_pos (by omega), if_pos (by omega), if_pos (by rw [hb, h]; rfl), wrap_suc q s.size hlt (by omega)]) ?_
   exact ih (q + 1) (by omega)
  ·have hn : nx (L s) q = q := nx_same (by rw [List.drop_eq_getElem_cons hl, List.head?_cons]; exact fun e => h (Option.some.inj e))
   rw [hn]
   refine Ev.congr (fun k => by rw [expr_parser_next.l0, if_pos (by omega), if_pos (by omega), if_neg (by rw [hb]; intro h2; exact h (UInt8.toNat_inj.1 (by simpa using (by omega : ((L s)[q]).toNat = 32))))]) (j1_ev l s hs q (by omega) _ _ _ _ _ _ _ _)
theorem next_ev (q : Nat) (hq : q ≤ s.size) (x2 x4 : Int) (x5 : ByteArray) (x6 x7 d e p : Int) : Ev (fun k => expr_parser_next.f k l s x2 (q : Int) x4 x5 x6 x7 d e p) (st s (nx (L s) q) d e p) :=
 l0_ev l s hs _ _ _ _ _ _ _ _ (s.size - q) q (by omega)
end
end Go.Proofs.YtodbnnfiadcbaaaL

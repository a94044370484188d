/- Plain laws: no program in sight. -/
import Derived.Test.YtodbnnfiadcbaaaVcOld
import Derived.KernelRfl
import Derived.KernelRfl
set_option linter.unusedVariables false
set_option linter.unusedSimpArgs false
set_option linter.unusedSectionVars false
namespace Go.Proofs.YtodbnnfiadcbaaaL
open Go.RowKit Go.Proofs.Ytodbnnfiadcbaaa.P Go.Proofs.YtodbnnfiadcbaaaW.PrintWords Go.Proofs.YtodbnnfiadcbaaaW.PrintLast Go.Proofs.YtodbnnfiadcbaaaW.PrintMore
set_option linter.unusedSimpArgs false
set_option linter.unusedVariables false
mutual
def tdeep : S28 → Nat
  | ⟨_, _, _, l⟩ => tdeepL l + 1
def tdeepL : List S28 → Nat
  | [] => 0
  | x :: xs => max (tdeep x) (tdeepL xs)
end
mutual
def tsize : S28 → Nat
  | ⟨_, _, _, l⟩ => tsizeL l + 1
def tsizeL : List S28 → Nat
  | [] => 0
  | x :: xs => tsize x + tsizeL xs
end
theorem tdeep_eq (e : S28) : tdeep e = tdeepL e.f3 + 1 := by cases e; rw [tdeep]
theorem tsize_eq (e : S28) : tsize e = tsizeL e.f3 + 1 := by cases e; rw [tsize]
theorem tsize_mem : ∀ {l : List S28} {x : S28}, x ∈ l → tsize x ≤ tsizeL l
  | y :: ys, x, h => by
    rw [tsizeL]
    rcases List.mem_cons.mp h with rfl | h
    · omega
    · have := tsize_mem h; omega
theorem len_tsizeL : ∀ l : List S28, l.length ≤ tsizeL l
  | [] => by simp
  | x :: xs => by
    have := len_tsizeL xs
    rw [tsizeL, tsize_eq, List.length_cons]
    omega
mutual
theorem tdeep_le : ∀ e : S28, tdeep e ≤ tsize e
  | ⟨_, _, _, l⟩ => by
    rw [tdeep, tsize]
    have := tdeepL_le l
    omega
theorem tdeepL_le : ∀ l : List S28, tdeepL l ≤ tsizeL l
  | [] => by simp [tdeepL]
  | x :: xs => by
    rw [tdeepL, tsizeL]
    have h1 := tdeep_le x
    have h2 := tdeepL_le xs
    omega
end
theorem rd_drop (l : List S28) (i : Nat) (h : i < l.length) : l.drop i = rd_T28 l (i : Int) :: l.drop (i + 1) := by
  rw [List.drop_eq_getElem_cons h]
  congr 1
  unfold rd_T28
  rw [Int.toNat_natCast, List.getD_eq_getElem?_getD, List.getElem?_eq_getElem h]
  rfl
theorem rd_in (l : List S28) (i : Nat) (h : i < l.length) : rd_T28 l (i : Int) ∈ l := by
  unfold rd_T28
  rw [Int.toNat_natCast, List.getD_eq_getElem?_getD, List.getElem?_eq_getElem h]
  exact List.getElem_mem h
theorem wrap_suc (i n : Nat) (h : i < n) (hn : n ≤ 1000000000) : wrap64 ((i : Int) + 1) = ((i + 1 : Nat) : Int) := by unfold wrap64; omega
theorem deep_ev : ∀ (n : Nat) (e : S28), tsize e ≤ n → n ≤ 1000000000 → Ev (fun k => canopyref5_deep.f k e.f0 e.f1 e.f2 e.f3) (tdeep e : Int)
  | 0, e, h, _ => by rw [tsize_eq] at h; omega
  | n + 1, e, h, hn => by
    have hs := tsize_eq e
    have hl := len_tsizeL e.f3
    have loop : ∀ (d i m : Nat), i + d = e.f3.length → m ≤ 1000000000 → Ev (fun k => canopyref5_deep.l0 k (m : Int) (i : Int) e.f0 e.f1 e.f2 e.f3) ((max m (tdeepL (e.f3.drop i)) + 1 : Nat) : Int) := by
      intro d
      induction d with
      | zero =>
        intro i m hi hm
        refine Ev.step (fun k => rfl) ?_
        refine Ev.congr (f := fun _ => some ((max m (tdeepL (e.f3.drop i)) + 1 : Nat) : Int)) (fun k => ?_) (Ev.now _)
        rw [canopyref5_deep.l0, if_neg (by omega), List.drop_eq_nil_of_le (by omega), tdeepL, Nat.max_zero]
        congr 1
        unfold wrap64
        omega
      | succ d ih =>
        intro i m hi hm
        have hlt : i < e.f3.length := by omega
        have hx := tsize_mem (rd_in e.f3 i hlt)
        have hd := tdeep_le (rd_T28 e.f3 (i : Int))
        refine Ev.step (fun k => rfl) ?_
        refine Ev.congr (f := fun k => (canopyref5_deep.f k (rd_T28 e.f3 (i : Int)).f0 (rd_T28 e.f3 (i : Int)).f1 (rd_T28 e.f3 (i : Int)).f2 (rd_T28 e.f3 (i : Int)).f3).bind fun t => canopyref5_deep.l0 k (mx (m : Int) t) (wrap64 ((i : Int) + 1)) e.f0 e.f1 e.f2 e.f3) (fun k => by rw [canopyref5_deep.l0, if_pos (by omega), if_pos (by omega)]) ?_
        refine Ev.bind (deep_ev n _ (by omega) (by omega)) ?_
        rw [wrap_suc i e.f3.length hlt (by omega)]
        have hm2 : mx (m : Int) (tdeep (rd_T28 e.f3 (i : Int)) : Int) = ((max m (tdeep (rd_T28 e.f3 (i : Int))) : Nat) : Int) := by unfold mx; split <;> omega
        rw [hm2, rd_drop _ _ hlt, tdeepL]
        have := ih (i + 1) (max m (tdeep (rd_T28 e.f3 (i : Int)))) (by omega) (by omega)
        rwa [Nat.max_assoc] at this
    refine Ev.step (fun k => rfl) ?_
    have := loop e.f3.length 0 0 (by omega) (by omega)
    rw [Nat.zero_max, List.drop_zero, ← tdeep_eq] at this
    exact this
theorem size_ev : ∀ (n : Nat) (e : S28), tsize e ≤ n → n ≤ 1000000000 → Ev (fun k => canopyref5_size.f k e.f0 e.f1 e.f2 e.f3) (tsize e : Int)
  | 0, e, h, _ => by rw [tsize_eq] at h; omega
  | n + 1, e, h, hn => by
    have hs := tsize_eq e
    have hl := len_tsizeL e.f3
    have loop : ∀ (d i m : Nat), i + d = e.f3.length → m + tsizeL (e.f3.drop i) ≤ 1000000000 → Ev (fun k => canopyref5_size.l0 k (m : Int) (i : Int) e.f0 e.f1 e.f2 e.f3) ((m + tsizeL (e.f3.drop i) : Nat) : Int) := by
      intro d
      induction d with
      | zero =>
        intro i m hi hm
        refine Ev.step (fun k => rfl) ?_
        refine Ev.congr (f := fun _ => some ((m + tsizeL (e.f3.drop i) : Nat) : Int)) (fun k => ?_) (Ev.now _)
        rw [canopyref5_size.l0, if_neg (by omega), List.drop_eq_nil_of_le (by omega), tsizeL, Nat.add_zero]
      | succ d ih =>
        intro i m hi hm
        have hlt : i < e.f3.length := by omega
        have hx := tsize_mem (rd_in e.f3 i hlt)
        rw [rd_drop _ _ hlt, tsizeL] at hm ⊢
        refine Ev.step (fun k => rfl) ?_
        refine Ev.congr (f := fun k => (canopyref5_size.f k (rd_T28 e.f3 (i : Int)).f0 (rd_T28 e.f3 (i : Int)).f1 (rd_T28 e.f3 (i : Int)).f2 (rd_T28 e.f3 (i : Int)).f3).bind fun t => canopyref5_size.l0 k (wrap64 ((m : Int) + t)) (wrap64 ((i : Int) + 1)) e.f0 e.f1 e.f2 e.f3) (fun k => by rw [canopyref5_size.l0, if_pos (by omega), if_pos (by omega)]) ?_
        refine Ev.bind (size_ev n _ (by omega) (by omega)) ?_
        rw [wrap_suc i e.f3.length hlt (by omega)]
        have hm2 : wrap64 ((m : Int) + (tsize (rd_T28 e.f3 (i : Int)) : Int)) = ((m + tsize (rd_T28 e.f3 (i : Int)) : Nat) : Int) := by unfold wrap64; omega
        rw [hm2]
        have := ih (i + 1) (m + tsize (rd_T28 e.f3 (i : Int))) (by omega) (by omega)
        rwa [Nat.add_assoc] at this
    refine Ev.step (fun k => rfl) ?_
    have := loop e.f3.length 0 1 (by omega) (by rw [List.drop_zero]; omega)
    rw [List.drop_zero, Nat.add_comm 1, ← tsize_eq] at this
    exact this
mutual
def tformed : S28 → Bool
  | ⟨a, b, c, l⟩ => shF ⟨a, b, c, l⟩ && tformedL l
def tformedL : List S28 → Bool
  | [] => true
  | x :: xs => tformed x && tformedL xs
end
theorem tformed_eq (e : S28) : tformed e = (shF e && tformedL e.f3) := by cases e; rw [tformed]
theorem formed_start (k : Nat) (e : S28) : canopyref5_formed.f (k + 3) e.f0 e.f1 e.f2 e.f3 = canopyref5_formed.l0 k (shF e) 0 e.f0 e.f1 e.f2 e.f3 := by
  rw [canopyref5_formed.f]
  unfold shF
  have B : ∀ a b : Int, (a == b) = decide (a = b) := fun a b => by rw [Bool.eq_iff_iff]; simp
  have C : ∀ a b : Nat, (a == b) = decide (a = b) := fun a b => by rw [Bool.eq_iff_iff]; simp
  by_cases h1 : e.f0 = 1
  · simp only [h1, canopyref5_formed.j0, canopyref5_formed.j1, if_true]
    by_cases a0 : e.f3.length = 0 <;> by_cases a1 : e.f1 = 0 <;> simp [a0, a1, B, C]
  by_cases h2 : e.f0 = 2
  · simp only [h2, canopyref5_formed.j0, canopyref5_formed.j1, if_true]
    by_cases a0 : e.f3.length = 0 <;> by_cases a1 : e.f1 = 0 <;> simp [a0, a1, B, C]
  by_cases h3 : e.f0 = 3
  · simp only [h3, canopyref5_formed.j0, canopyref5_formed.j1]
    by_cases a0 : e.f3.length = 0 <;> simp [a0, B, C]
  by_cases h4 : e.f0 = 4
  · simp only [h4, canopyref5_formed.j0, canopyref5_formed.j1]
    have : ((e.f3.length : Int) == 1) = (e.f3.length == 1) := by rw [Bool.eq_iff_iff]; simp; omega
    simp [this]
  by_cases h5 : e.f0 = 5
  · simp only [h5, canopyref5_formed.j0, canopyref5_formed.j1]
    by_cases a0 : 2 ≤ e.f3.length
    · have a2 : (e.f3.length : Int) > 1 := by omega
      by_cases a1 : e.f1 = 0 <;> simp [a0, a1, a2, B, C]
    · have a2 : ¬ (e.f3.length : Int) > 1 := by omega
      simp [a0, a2, B, C]
  by_cases h6 : e.f0 = 6
  · simp only [h6, canopyref5_formed.j0, canopyref5_formed.j1]
    by_cases a0 : 2 ≤ e.f3.length
    · have a2 : (e.f3.length : Int) > 1 := by omega
      by_cases a1 : e.f1 = 0 <;> simp [a0, a1, a2, B, C]
    · have a2 : ¬ (e.f3.length : Int) > 1 := by omega
      simp [a0, a2, B, C]
  by_cases h7 : e.f0 = 7
  · simp only [h7, canopyref5_formed.j0, canopyref5_formed.j1]
    by_cases a0 : e.f3.length = 1
    · by_cases a1 : e.f1 = 0 <;> simp [a0, a1, B, C]
    · have a2 : ¬ (e.f3.length : Int) = 1 := by omega
      simp [a0, a2, B, C]
  · have b1 : (e.f0 == 1) = false := beq_eq_false_iff_ne.mpr h1
    have b2 : (e.f0 == 2) = false := beq_eq_false_iff_ne.mpr h2
    simp [canopyref5_formed.j0, canopyref5_formed.j1, h1, h2, h3, h4, h5, h6, h7]
theorem formed_ev : ∀ (n : Nat) (e : S28), tsize e ≤ n → n ≤ 1000000000 → Ev (fun k => canopyref5_formed.f k e.f0 e.f1 e.f2 e.f3) (tformed e)
  | 0, e, h, _ => by rw [tsize_eq] at h; omega
  | n + 1, e, h, hn => by
    have hs := tsize_eq e
    have hl := len_tsizeL e.f3
    have loop : ∀ (d i : Nat) (b : Bool), i + d = e.f3.length → Ev (fun k => canopyref5_formed.l0 k b (i : Int) e.f0 e.f1 e.f2 e.f3) (b && tformedL (e.f3.drop i)) := by
      intro d
      induction d with
      | zero =>
        intro i b hi
        refine Ev.step (fun k => rfl) ?_
        refine Ev.congr (f := fun _ => some (b && tformedL (e.f3.drop i))) (fun k => ?_) (Ev.now _)
        rw [canopyref5_formed.l0, if_neg (by omega), List.drop_eq_nil_of_le (by omega), tformedL, Bool.and_true]
      | succ d ih =>
        intro i b hi
        have hlt : i < e.f3.length := by omega
        have hx := tsize_mem (rd_in e.f3 i hlt)
        refine Ev.step (fun k => rfl) ?_
        cases b with
        | false => exact Ev.congr (f := fun _ => some false) (fun k => by rw [canopyref5_formed.l0, if_pos (by omega), if_neg (by decide)]) (Ev.now _)
        | true =>
          refine Ev.congr (f := fun k => (canopyref5_formed.f k (rd_T28 e.f3 (i : Int)).f0 (rd_T28 e.f3 (i : Int)).f1 (rd_T28 e.f3 (i : Int)).f2 (rd_T28 e.f3 (i : Int)).f3).bind fun t => canopyref5_formed.l0 k t (wrap64 ((i : Int) + 1)) e.f0 e.f1 e.f2 e.f3) (fun k => by rw [canopyref5_formed.l0, if_pos (by omega), if_pos rfl, if_pos (by omega)]) ?_
          refine Ev.bind (formed_ev n _ (by omega) (by omega)) ?_
          rw [wrap_suc i e.f3.length hlt (by omega), rd_drop _ _ hlt, tformedL, Bool.true_and]
          exact ih (i + 1) _ (by omega)
    have := loop e.f3.length 0 (shF e) (by omega)
    rw [List.drop_zero, ← tformed_eq] at this
    obtain ⟨K, hK⟩ := this
    refine ⟨K + 3, fun k hk => ?_⟩
    obtain ⟨m, rfl⟩ : ∃ m, k = m + 3 := ⟨k - 3, by omega⟩
    exact (formed_start m e).trans (hK m (by omega))
/-! #### names -/
def kindsB (l : List S56) : Bool := l.all fun x => x.f1 == 1 || x.f1 == 2 || x.f1 == 3
mutual
def tbad (l : List S56) : S28 → Bool
  | ⟨a, b, c, xs⟩ => ovNm l ⟨a, b, c, xs⟩ false || tbadL l xs
def tbadL (l : List S56) : List S28 → Bool
  | [] => false
  | x :: xs => tbad l x || tbadL l xs
end
theorem tbad_eq (l : List S56) (e : S28) : tbad l e = (ovNm l e false || tbadL l e.f3) := by cases e; rw [tbad]
theorem kind_of {l : List S56} (h : kindsB l = true) {i : Int} (h0 : 0 ≤ i) (h1 : i < l.length) : (rd_T56 l i).f1 = 1 ∨ (rd_T56 l i).f1 = 2 ∨ (rd_T56 l i).f1 = 3 := by
  have hm : rd_T56 l i ∈ l := by
    unfold rd_T56
    rw [List.getD_eq_getElem?_getD, List.getElem?_eq_getElem (show i.toNat < l.length by omega)]
    exact List.getElem_mem _
  have := List.all_eq_true.mp h _ hm
  simpa [or_assoc] using this
theorem is_any (l : List S56) (h : kindsB l = true) (i : Int) : canopyref5_is.f l i 0 = some (!(ofF l i == 0)) := by
  unfold canopyref5_is.f ofF
  by_cases h0 : i < 0
  · rw [if_neg (by omega), if_pos h0]; rfl
  · rw [if_pos (by omega), if_neg h0]
    by_cases h1 : i < (l.length : Int)
    · rw [if_pos h1, if_pos rfl, if_neg (by omega)]
      rcases kind_of h (by omega) h1 with e | e | e <;> rw [e] <;> rfl
    · rw [if_neg h1, if_pos (by omega)]; rfl
theorem is_kind (l : List S56) (i k : Int) (hk : k ≠ 0) : canopyref5_is.f l i k = some (ofF l i == k) := by
  have h9 : ((0 : Int) == k) = false := beq_eq_false_iff_ne.mpr (Ne.symm hk)
  unfold canopyref5_is.f ofF
  by_cases h0 : i < 0
  · rw [if_neg (by omega), if_pos h0, h9]
  · rw [if_pos (by omega), if_neg h0]
    by_cases h1 : i < (l.length : Int)
    · rw [if_pos h1, if_neg hk, if_pos (by omega), if_neg (by omega)]
    · rw [if_neg h1, if_pos (by omega), h9]
theorem named_start (l : List S56) (hl : kindsB l = true) (k : Nat) (e : S28) : canopyref5_named.f (k + 1) l e.f0 e.f1 e.f2 e.f3 = canopyref5_named.j0 k l (ovNm l e false) e.f0 e.f1 e.f2 e.f3 := by
  rw [canopyref5_named.f]
  unfold ovNm
  by_cases h3 : e.f0 = 3
  · rw [if_pos h3, if_pos h3, is_any l hl, Option.bind_some, Bool.false_or]
    have h4 : ¬ e.f0 = 4 := by omega
    cases ofF l e.f1 == 0 with
    | true => rw [if_neg (by decide)]
    | false => rw [if_pos (by decide), if_neg h4]
  · rw [if_neg h3, if_neg h3]
    by_cases h4 : e.f0 = 4
    · rw [if_pos h4, if_pos h4, is_kind l _ 1 (by decide), Option.bind_some, Bool.false_or]
      have n1 : (ofF l e.f1 != 1) = !(ofF l e.f1 == 1) := rfl
      have n2 : (ofF l e.f2 != 2) = !(ofF l e.f2 == 2) := rfl
      rw [n1, n2]
      cases ofF l e.f1 == 1 with
      | true => rw [if_pos rfl, is_kind l _ 2 (by decide), Option.bind_some]; rfl
      | false => rw [if_neg (by decide)]; rfl
    · rw [if_neg h4, if_neg h4]
theorem named_ev (l : List S56) (hl9 : kindsB l = true) : ∀ (n : Nat) (e : S28), tsize e ≤ n → n ≤ 1000000000 → Ev (fun k => canopyref5_named.f k l e.f0 e.f1 e.f2 e.f3) (!tbad l e)
  | 0, e, h, _ => by rw [tsize_eq] at h; omega
  | n + 1, e, h, hn => by
    have hs := tsize_eq e
    have hl := len_tsizeL e.f3
    have loop : ∀ (d i : Nat), i + d = e.f3.length → Ev (fun k => canopyref5_named.l0 k l (i : Int) e.f0 e.f1 e.f2 e.f3) (!tbadL l (e.f3.drop i)) := by
      intro d
      induction d with
      | zero =>
        intro i hi
        refine Ev.step (fun k => rfl) ?_
        refine Ev.congr (f := fun _ => some (!tbadL l (e.f3.drop i))) (fun k => ?_) (Ev.now _)
        rw [canopyref5_named.l0, if_neg (by omega), List.drop_eq_nil_of_le (by omega), tbadL]
        rfl
      | succ d ih =>
        intro i hi
        have hlt : i < e.f3.length := by omega
        have hx := tsize_mem (rd_in e.f3 i hlt)
        refine Ev.step (fun k => rfl) ?_
        refine Ev.congr (f := fun k => (canopyref5_named.f k l (rd_T28 e.f3 (i : Int)).f0 (rd_T28 e.f3 (i : Int)).f1 (rd_T28 e.f3 (i : Int)).f2 (rd_T28 e.f3 (i : Int)).f3).bind fun t => if t = true then canopyref5_named.l0 k l (wrap64 ((i : Int) + 1)) e.f0 e.f1 e.f2 e.f3 else some false) (fun k => by rw [canopyref5_named.l0, if_pos (by omega), if_pos (by omega)]) ?_
        refine Ev.bind (named_ev l hl9 n _ (by omega) (by omega)) ?_
        rw [wrap_suc i e.f3.length hlt (by omega), rd_drop _ _ hlt, tbadL]
        cases tbad l (rd_T28 e.f3 (i : Int)) with
        | true => exact Ev.now _
        | false => exact ih (i + 1) (by omega)
    have := loop e.f3.length 0 (by omega)
    rw [List.drop_zero] at this
    refine Ev.step (fun k => named_start l hl9 k e) ?_
    refine Ev.step (fun k => rfl) ?_
    rw [tbad_eq]
    cases ovNm l e false with
    | true => exact Ev.congr (f := fun _ => some false) (fun k => by rw [canopyref5_named.j0, if_pos rfl]) (Ev.now _)
    | false => exact Ev.congr (fun k => by rw [canopyref5_named.j0, if_neg (by decide)]; rfl) this
/-! #### loose symbols -/
mutual
def tloose (l : List S56) (nest : Bool) : S28 → Bool
  | ⟨a, b, c, xs⟩ => ovLs l ⟨a, b, c, xs⟩ nest false || tlooseL l (nest || a == 4) xs
def tlooseL (l : List S56) (nest : Bool) : List S28 → Bool
  | [] => false
  | x :: xs => tloose l nest x || tlooseL l nest xs
end
theorem tloose_eq (l : List S56) (nest : Bool) (e : S28) : tloose l nest e = (ovLs l e nest false || tlooseL l (nest || e.f0 == 4) e.f3) := by cases e; rw [tloose]
theorem tbadL_mem {l : List S56} : ∀ {xs : List S28} {x : S28}, tbadL l xs = false → x ∈ xs → tbad l x = false
  | y :: ys, x, h, hm => by
    rw [tbadL, Bool.or_eq_false_iff] at h
    rcases List.mem_cons.mp hm with rfl | hm
    · exact h.1
    · exact tbadL_mem h.2 hm
theorem loose_start (l : List S56) (hl : kindsB l = true) (k : Nat) (e : S28) (nest : Bool) (hb : ovNm l e false = false) : canopyref5_loose.f (k + 1) l e.f0 e.f1 e.f2 e.f3 nest = canopyref5_loose.j0 k l nest (ovLs l e nest false) e.f0 e.f1 e.f2 e.f3 := by
  rw [canopyref5_loose.f]
  unfold ovLs
  by_cases h3 : e.f0 = 3
  · rw [if_pos h3, if_pos h3, Bool.false_or]
    cases nest with
    | false => rw [if_neg (by decide)]; rfl
    | true =>
      rw [if_pos rfl, Bool.true_and]
      unfold ovNm at hb
      rw [if_pos h3, Bool.false_or] at hb
      unfold ofF at hb ⊢
      by_cases h0 : e.f1 < 0
      · rw [if_pos h0] at hb; cases hb
      · rw [if_neg h0] at hb
        simp only [if_neg h0]
        by_cases h1 : e.f1 < (l.length : Int)
        · rw [if_neg (show ¬ e.f1 ≥ (l.length : Int) by omega)] at hb
          simp only [if_neg (show ¬ e.f1 ≥ (l.length : Int) by omega)]
          rw [if_pos (by omega), if_pos h1]
          rcases kind_of hl (by omega) h1 with q | q | q <;> rw [q] <;> rfl
        · rw [if_pos (by omega)] at hb; cases hb
  · rw [if_neg h3, if_neg h3]
theorem loose_ev (l : List S56) (hl9 : kindsB l = true) : ∀ (n : Nat) (e : S28) (nest : Bool), tbad l e = false → tsize e ≤ n → n ≤ 1000000000 → Ev (fun k => canopyref5_loose.f k l e.f0 e.f1 e.f2 e.f3 nest) (tloose l nest e)
  | 0, e, nest, _, h, _ => by rw [tsize_eq] at h; omega
  | n + 1, e, nest, hb, h, hn => by
    have hs := tsize_eq e
    have hl := len_tsizeL e.f3
    rw [tbad_eq, Bool.or_eq_false_iff] at hb
    have loop : ∀ (d i : Nat), i + d = e.f3.length → Ev (fun k => canopyref5_loose.l0 k l nest (i : Int) e.f0 e.f1 e.f2 e.f3) (tlooseL l (nest || e.f0 == 4) (e.f3.drop i)) := by
      intro d
      induction d with
      | zero =>
        intro i hi
        refine Ev.step (fun k => rfl) ?_
        refine Ev.congr (f := fun _ => some (tlooseL l (nest || e.f0 == 4) (e.f3.drop i))) (fun k => ?_) (Ev.now _)
        rw [canopyref5_loose.l0, if_neg (by omega), List.drop_eq_nil_of_le (by omega), tlooseL]
      | succ d ih =>
        intro i hi
        have hlt : i < e.f3.length := by omega
        have hx := tsize_mem (rd_in e.f3 i hlt)
        refine Ev.step (fun k => rfl) ?_
        refine Ev.congr (f := fun k => (canopyref5_loose.f k l (rd_T28 e.f3 (i : Int)).f0 (rd_T28 e.f3 (i : Int)).f1 (rd_T28 e.f3 (i : Int)).f2 (rd_T28 e.f3 (i : Int)).f3 (nest || e.f0 == 4)).bind fun t => if t = true then some true else canopyref5_loose.l0 k l nest (wrap64 ((i : Int) + 1)) e.f0 e.f1 e.f2 e.f3) (fun k => by
          rw [canopyref5_loose.l0, if_pos (by omega), if_pos (by omega)]
          cases nest
          · rw [if_neg (by decide), Bool.false_or]
          · rw [if_pos rfl, Bool.true_or]) ?_
        refine Ev.bind (loose_ev l hl9 n _ _ (tbadL_mem hb.2 (rd_in e.f3 i hlt)) (by omega) (by omega)) ?_
        rw [wrap_suc i e.f3.length hlt (by omega), rd_drop _ _ hlt, tlooseL]
        cases tloose l (nest || e.f0 == 4) (rd_T28 e.f3 (i : Int)) with
        | true => exact Ev.now _
        | false => exact ih (i + 1) (by omega)
    have := loop e.f3.length 0 (by omega)
    rw [List.drop_zero] at this
    refine Ev.step (fun k => loose_start l hl9 k e nest hb.1) ?_
    refine Ev.step (fun k => rfl) ?_
    rw [tloose_eq]
    cases ovLs l e nest false with
    | true => exact Ev.congr (f := fun _ => some true) (fun k => by rw [canopyref5_loose.j0, if_pos rfl]) (Ev.now _)
    | false => exact Ev.congr (fun k => by rw [canopyref5_loose.j0, if_neg (by decide)]; rfl) this
end Go.Proofs.YtodbnnfiadcbaaaL
namespace Go.Proofs.YtodbnnfiadcbaaaL
open Go.RowKit Go.Proofs.Ytodbnnfiadcbaaa.P Go.Proofs.YtodbnnfiadcbaaaW.PrintWords Go.Proofs.YtodbnnfiadcbaaaW.PrintLast Go.Proofs.YtodbnnfiadcbaaaW.PrintMore
set_option linter.unusedSimpArgs false
set_option linter.unusedVariables false
theorem ovA_deep (f : S28 → OvS → Option OvS) : ∀ (xs : List S28) (s : OvS), s.deep = true → ovA f xs s = some s
  | [], s, _ => rfl
  | x :: xs, s, h => by rw [ovA, if_pos h]; exact ovA_deep f xs s h
theorem over_deep (l : List S56) (s : OvS) (e : S28) (d : Int) (nest : Bool) (h : s.deep = true) (k : Nat) : ∃ r : OvS, r.deep = true ∧ overF (k + 1) l s e d nest = some r := by
  refine ⟨⟨wrap64 (s.n + 1), s.deep || decide (20 < d), s.kind, s.name, s.loose⟩, by simp [h], ?_⟩
  rw [overF, if_pos (by simp [h]), ovA_deep _ _ _ (by simp [h])]
theorem ovB_deep (l : List S56) (d : Int) (nest : Bool) (k : Nat) : ∀ (xs : List S28) (s : OvS), s.deep = true → ∃ r : OvS, r.deep = true ∧ ovB (fun x s => overF (k + 1) l s x d nest) xs s = some r
  | [], s, h => ⟨s, h, rfl⟩
  | x :: xs, s, h => by
    obtain ⟨r, hr, e⟩ := over_deep l s x d nest h k
    obtain ⟨r', hr', e'⟩ := ovB_deep l d nest k xs r hr
    exact ⟨r', hr', by rw [ovB, e, Option.bind_some]; exact e'⟩
structure Told (l : List S56) (s r : OvS) (dp sz : Nat) (fm bd lo : Bool) : Prop where
  deep : r.deep = decide (20 < dp)
  n : r.deep = false → r.n = s.n + (sz : Int)
  flags : r.deep = false → r.n ≤ 200 → r.kind = (s.kind || !fm) ∧ r.name = (s.name || bd) ∧ r.loose = (s.loose || lo)
theorem lists (l : List S56) (d : Nat) (nest : Bool) (hd : d ≤ 20) (K : Nat) : ∀ (xs : List S28),
    (∀ x ∈ xs, ∀ s : OvS, s.deep = false → 0 ≤ s.n → s.n + tsize x ≤ 2000000000 → ∃ r, Told l s r (d + tdeep x) (tsize x) (tformed x) (tbad l x) (tloose l nest x) ∧ ∀ k, K ≤ k → overF k l s x ((d + 1 : Nat) : Int) nest = some r) →
    ∀ s : OvS, s.deep = false → 0 ≤ s.n → s.n + tsizeL xs ≤ 2000000000 →
      (∃ r, Told l s r (d + tdeepL xs) (tsizeL xs) (tformedL xs) (tbadL l xs) (tlooseL l nest xs) ∧ ∀ k, K + 1 ≤ k → ovB (fun x s => overF k l s x ((d + 1 : Nat) : Int) nest) xs s = some r) ∧
      (∃ r, r.deep = decide (20 < d + tdeepL xs) ∧ (r.deep = false → r.n = s.n + (tsizeL xs : Int)) ∧ ∀ k, K + 1 ≤ k → ovA (fun x s => overF k l s x ((d + 1 : Nat) : Int) nest) xs s = some r)
  | [], hx, s, h, h0, hn => by
    have e : decide (20 < d + tdeepL []) = false := decide_eq_false (by rw [tdeepL]; omega)
    refine ⟨⟨s, ⟨by rw [e, h], fun _ => by rw [tsizeL]; omega, fun _ _ => by simp [tformedL, tbadL, tlooseL]⟩, fun k _ => rfl⟩, s, by rw [e, h], fun _ => by rw [tsizeL]; omega, fun k _ => rfl⟩
  | x :: xs, hx, s, h, h0, hn => by
    rw [tsizeL] at hn
    obtain ⟨r1, t1, e1⟩ := hx x (by simp) s h h0 (by omega)
    cases hd1 : r1.deep with
    | true =>
      have c : 20 < d + tdeepL (x :: xs) := by
        have := t1.deep
        rw [hd1] at this
        have := of_decide_eq_true this.symm
        rw [tdeepL]; omega
      obtain ⟨r2, hr2⟩ : ∃ r2 : OvS, r2.deep = true ∧ ∀ k, K + 1 ≤ k → ovB (fun x s => overF k l s x ((d + 1 : Nat) : Int) nest) xs r1 = some r2 := by
        obtain ⟨r2, a, b⟩ := ovB_deep l ((d + 1 : Nat) : Int) nest K xs r1 hd1
        refine ⟨r2, a, fun k hk => ?_⟩
        obtain ⟨j, rfl⟩ : ∃ j, k = K + 1 + j := ⟨k - (K + 1), by omega⟩
        exact at_rounds (g := fun k => ovB (fun x s => overF k l s x ((d + 1 : Nat) : Int) nest) xs r1) (fun k => ovB_le (fun x s => overF_le k l s x _ _) _ _) (by omega) b
      refine ⟨⟨r2, ⟨by rw [hr2.1, decide_eq_true c], fun q => absurd (hr2.1.symm.trans q) (by decide), fun q => absurd (hr2.1.symm.trans q) (by decide)⟩, fun k hk => ?_⟩, r1, by rw [hd1, decide_eq_true c], fun q => absurd (hd1.symm.trans q) (by decide), fun k hk => ?_⟩
      · rw [ovB, e1 k (by omega), Option.bind_some]; exact hr2.2 k hk
      · rw [ovA, if_neg (by rw [h]; decide), e1 k (by omega), Option.bind_some, ovA_deep _ _ _ hd1]
    | false =>
      have hn1 := t1.n hd1
      have hdx := t1.deep
      rw [hd1] at hdx
      have hdx := of_decide_eq_false hdx.symm
      obtain ⟨⟨rb, tb, eb⟩, ra, da, na, ea⟩ := lists l d nest hd K xs (fun y hy => hx y (by simp [hy])) r1 hd1 (by omega) (by omega)
      have dm : decide (20 < d + tdeepL (x :: xs)) = decide (20 < d + tdeepL xs) := by
        rw [tdeepL]
        by_cases q : 20 < d + tdeepL xs
        · rw [decide_eq_true q, decide_eq_true (by omega)]
        · rw [decide_eq_false q, decide_eq_false (by omega)]
      refine ⟨⟨rb, ⟨by rw [dm, tb.deep], fun q => by rw [tb.n q, hn1, tsizeL]; omega, fun q qn => ?_⟩, fun k hk => ?_⟩, ra, by rw [dm, da], fun q => by rw [na q, hn1, tsizeL]; omega, fun k hk => ?_⟩
      · have n2 := tb.n q
        obtain ⟨a1, a2, a3⟩ := t1.flags hd1 (by omega)
        obtain ⟨b1, b2, b3⟩ := tb.flags q qn
        rw [b1, b2, b3, a1, a2, a3, tformedL, tbadL, tlooseL]
        refine ⟨?_, by rw [Bool.or_assoc], by rw [Bool.or_assoc]⟩
        rw [Bool.or_assoc, Bool.not_and]
      · rw [ovB, e1 k (by omega), Option.bind_some]; exact eb k hk
      · rw [ovA, if_neg (by rw [h]; decide), e1 k (by omega), Option.bind_some]; exact ea k hk
/-- An expression's error, told of its tree. -/
def treeErr (l : List S56) (e : S28) : Int := if 20 < tdeep e then 3 else if 200 < tsize e then 2 else if tformed e = true then (if tbad l e = true then 6 else if tloose l false e = true then 8 else 0) else 7
theorem rcheck_ev (l : List S56) (hl : kindsB l = true) (e : S28) (h : tsize e ≤ 1000000000) : Ev (fun k => canopyref5_Check.f k l e.f0 e.f1 e.f2 e.f3) (treeErr l e) := by
  unfold canopyref5_Check.f treeErr
  have hd := tdeep_le e
  refine Ev.bind (deep_ev _ e (Nat.le_refl _) h) ?_
  by_cases h1 : 20 < tdeep e
  · exact Ev.congr (f := fun _ => some 3) (fun k => by rw [if_pos (by omega)]) (by rw [if_pos h1]; exact Ev.now _)
  · rw [if_neg h1]
    refine Ev.congr (fun k => by rw [if_neg (by omega)]) ?_
    refine Ev.bind (size_ev _ e (Nat.le_refl _) h) ?_
    by_cases h2 : 200 < tsize e
    · exact Ev.congr (f := fun _ => some 2) (fun k => by rw [if_pos (by omega)]) (by rw [if_pos h2]; exact Ev.now _)
    · rw [if_neg h2]
      refine Ev.congr (fun k => by rw [if_neg (by omega)]) ?_
      refine Ev.bind (formed_ev _ e (Nat.le_refl _) h) ?_
      cases tformed e with
      | false => exact Ev.now _
      | true =>
        refine Ev.congr (fun k => by rw [if_pos rfl]) ?_
        rw [if_pos rfl]
        refine Ev.bind (named_ev l hl _ e (Nat.le_refl _) h) ?_
        cases hb : tbad l e with
        | true => exact Ev.now _
        | false =>
          refine Ev.congr (fun k => by rw [if_pos (by rfl)]) ?_
          rw [if_neg (by decide)]
          refine Ev.bind (loose_ev l hl _ e false hb (Nat.le_refl _) h) ?_
          cases tloose l false e with
          | true => exact Ev.now _
          | false => exact Ev.now _
end Go.Proofs.YtodbnnfiadcbaaaL
namespace Go.Proofs.YtodbnnfiadcbaaaL
open Go.RowKit Go.Proofs.Ytodbnnfiadcbaaa.P Go.Proofs.YtodbnnfiadcbaaaW.PrintWords Go.Proofs.YtodbnnfiadcbaaaW.PrintLast Go.Proofs.YtodbnnfiadcbaaaW.PrintMore
set_option linter.unusedSimpArgs false
set_option linter.unusedVariables false
def held (cat : Bool) (k : Int) (s : List UInt8) : List UInt8 := if k = 6 ∨ cat = true ∧ k = 5 then [40, 32] ++ s ++ [32, 41] else s
end Go.Proofs.YtodbnnfiadcbaaaL
namespace Go.Proofs.YtodbnnfiadcbaaaL
open Go.RowKit Go.Proofs.Ytodbnnfiadcbaaa.P Go.Proofs.YtodbnnfiadcbaaaW.PrintWords Go.Proofs.YtodbnnfiadcbaaaW.PrintLast Go.Proofs.YtodbnnfiadcbaaaW.PrintMore
set_option linter.unusedSimpArgs false
set_option linter.unusedVariables false
end Go.Proofs.YtodbnnfiadcbaaaL
namespace Go.Proofs.YtodbnnfiadcbaaaL
open Go.RowKit Go.Proofs.Ytodbnnfiadcbaaa.P Go.Proofs.YtodbnnfiadcbaaaW.PrintWords Go.Proofs.YtodbnnfiadcbaaaW.PrintLast Go.Proofs.YtodbnnfiadcbaaaW.PrintMore
set_option linter.unusedSimpArgs false
set_option linter.unusedVariables false
theorem within1_eq (a n : Int) (h0 : 0 < n) (h1 : n ≤ 1000000) : canopylaw1_within.f a n = some (a % n) := by
  unfold canopylaw1_within.f
  rw [if_neg (by omega)]
  have e : Int.tmod a n = if a % n = 0 then 0 else if 0 ≤ a then a % n else a % n - n := by
    rw [Int.tmod_eq_emod]
    have : n.natAbs = n := by omega
    by_cases hz : a % n = 0
    · have : n ∣ a := Int.dvd_of_emod_eq_zero hz
      simp [hz, this]
    · have : ¬ n ∣ a := fun h => hz (Int.emod_eq_zero_of_dvd h)
      by_cases ha : 0 ≤ a
      · simp [hz, ha]
      · simp only [hz, ha, this, or_self, if_false]
        omega
  have a0 := Int.emod_nonneg a (show n ≠ 0 by omega)
  have a1 := Int.emod_lt_of_pos a h0
  rw [e]
  split
  · rename_i h; rw [if_neg (by omega), h]
  · split
    · rw [if_neg (by omega)]
    · rw [if_pos (by omega)]
      congr 1
      unfold wrap64
      omega
/-! symbols that may be -/
def nameB (s : ByteArray) : Bool := decide (1 ≤ s.size) && decide (s.size ≤ 8) && s.data.toList.all (fun b => decide (97 ≤ b.toNat) && decide (b.toNat ≤ 122))
def kindB (k : Int) : Bool := k == 1 || k == 2 || k == 3
def key (x : S56) : List UInt8 × Int := (x.f0.data.toList, x.f1)
def distinct : List (List UInt8 × Int) → Bool
  | [] => true
  | x :: xs => !(xs.contains x) && distinct xs
def goodB (l : List S56) : Bool := decide (0 < l.length) && decide (l.length ≤ 20) && l.all (fun x => nameB x.f0 && kindB x.f1) && distinct (l.map key)
def sy (c : UInt8) (k : Int) : S56 := ⟨⟨#[c]⟩, k⟩
def seven : List S56 := [sy 97 1, sy 97 2, sy 98 3, sy 99 1, sy 99 2, sy 100 3, sy 120 2]
def symsAll : List (List S56) := [seven.take 3, seven.take 4, seven.take 5, seven.take 6, seven.take 7, [sy 98 3, sy 97 2, sy 97 1], [sy 97 1], [sy 97 2], [sy 98 3], [sy 99 1], [sy 99 2], [sy 100 3], [sy 120 2]]
theorem symsAll_good : symsAll.all goodB = true := by decide +kernel
theorem cut_of (a : Int) (h0 : 0 ≤ a) (h1 : a < 5) : (if 0 ≤ (wrap64 (3 + a)) then (if (wrap64 (3 + a)) ≤ (seven.length : Int) then (some (seven.take ((wrap64 (3 + a)) : Int).toNat)) else (none)) else (none)) = some (seven.take (3 + a).toNat) := by
  have e : wrap64 (3 + a) = 3 + a := (by unfold wrap64; omega)
  rw [e, if_pos (by omega), if_pos (show (3 + a : Int) ≤ (seven.length : Int) by simp [seven]; omega)]
theorem cut_mem (a : Int) (h0 : 0 ≤ a) (h1 : a < 5) : seven.take (3 + a).toNat ∈ symsAll := by
  have : a = 0 ∨ a = 1 ∨ a = 2 ∨ a = 3 ∨ a = 4 := by omega
  rcases this with rfl | rfl | rfl | rfl | rfl <;> simp [symsAll]
theorem syms_some (n : Int) (ns : List Int) : ∃ l, canopylaw1_Syms.f n ns = some l ∧ l ∈ symsAll := by
  unfold canopylaw1_Syms.f
  simp only [within1_eq _ _ (show (0 : Int) < 5 by omega) (by omega), within1_eq _ _ (show (0 : Int) < 7 by omega) (by omega), within1_eq _ _ (show (0 : Int) < 11 by omega) (by omega), Option.bind_some]
  have a0 := Int.emod_nonneg n (show (5 : Int) ≠ 0 by omega)
  have a1 := Int.emod_lt_of_pos n (show (0 : Int) < 5 by omega)
  generalize n % 5 = a at *
  by_cases h7 : n % 7 = 1
  · rw [if_pos h7]
    exact ⟨_, rfl, by simp [symsAll, sy, rd_T56]⟩
  · rw [if_neg h7]
    by_cases h11 : n % 11 = 2
    · rw [if_pos h11]
      cases ns with
      | nil => exact ⟨_, cut_of a a0 a1, cut_mem a a0 a1⟩
      | cons x xs =>
        rw [if_pos (by simp only [List.length_cons]; omega), if_pos (by simp only [List.length_cons]; omega)]
        have b0 := Int.emod_nonneg (rd (x :: xs) 0) (show (7 : Int) ≠ 0 by omega)
        have b1 := Int.emod_lt_of_pos (rd (x :: xs) 0) (show (0 : Int) < 7 by omega)
        generalize rd (x :: xs) 0 % 7 = b at *
        have : b = 0 ∨ b = 1 ∨ b = 2 ∨ b = 3 ∨ b = 4 ∨ b = 5 ∨ b = 6 := by omega
        rcases this with rfl | rfl | rfl | rfl | rfl | rfl | rfl <;> exact ⟨_, rfl, by simp [symsAll, sy, rd_T56]⟩
    · rw [if_neg h11]
      exact ⟨_, cut_of a a0 a1, cut_mem a a0 a1⟩
theorem syms_good (n : Int) (ns : List Int) : ∃ l, canopylaw1_Syms.f n ns = some l ∧ goodB l = true := by
  obtain ⟨l, h, hm⟩ := syms_some n ns
  exact ⟨l, h, List.all_eq_true.1 symsAll_good l hm⟩
theorem good_len {l : List S56} (h : goodB l = true) : 0 < l.length ∧ l.length ≤ 20 := by
  simp only [goodB, Bool.and_eq_true, decide_eq_true_eq] at h
  exact ⟨h.1.1.1, h.1.1.2⟩
theorem good_at {l : List S56} (h : goodB l = true) {x : S56} (hx : x ∈ l) : nameB x.f0 = true ∧ kindB x.f1 = true := by
  simp only [goodB, Bool.and_eq_true, decide_eq_true_eq, List.all_eq_true] at h
  exact h.1.2 x hx
theorem good_kinds {l : List S56} (h : goodB l = true) : kindsB l = true := by
  unfold kindsB
  rw [List.all_eq_true]
  intro x hx
  exact (good_at h hx).2
end Go.Proofs.YtodbnnfiadcbaaaL
namespace Go.Proofs.YtodbnnfiadcbaaaL
open Go.RowKit Go.Proofs.Ytodbnnfiadcbaaa.P Go.Proofs.YtodbnnfiadcbaaaW.PrintWords Go.Proofs.YtodbnnfiadcbaaaW.PrintLast Go.Proofs.YtodbnnfiadcbaaaW.PrintMore
theorem within_eq (a n : Int) (h0 : 0 < n) (h1 : n ≤ 1000000) : canopylaw5_within.f a n = some (a % n) := by
  unfold canopylaw5_within.f
  rw [if_neg (by omega)]
  have e : Int.tmod a n = if a % n = 0 then 0 else if 0 ≤ a then a % n else a % n - n := by
    rw [Int.tmod_eq_emod]
    have : n.natAbs = n := by omega
    by_cases hz : a % n = 0
    · have : n ∣ a := Int.dvd_of_emod_eq_zero hz
      simp [hz, this]
    · have : ¬ n ∣ a := fun h => hz (Int.emod_eq_zero_of_dvd h)
      by_cases ha : 0 ≤ a
      · simp [hz, ha]
      · simp only [hz, ha, this, or_self, if_false]
        omega
  have a0 := Int.emod_nonneg a (show n ≠ 0 by omega)
  have a1 := Int.emod_lt_of_pos a h0
  rw [e]
  split
  · rename_i h; rw [if_neg (by omega), h]
  · split
    · rw [if_neg (by omega)]
    · rw [if_pos (by omega)]
      congr 1
      unfold wrap64
      omega
end Go.Proofs.YtodbnnfiadcbaaaL
namespace Go.Proofs.YtodbnnfiadcbaaaL
open Go.RowKit Go.Proofs.Ytodbnnfiadcbaaa.P Go.Proofs.YtodbnnfiadcbaaaW.PrintWords Go.Proofs.YtodbnnfiadcbaaaW.PrintLast Go.Proofs.YtodbnnfiadcbaaaW.PrintMore
theorem known_true : canopylaw5_known.f 60 = some true := by kernel_rfl
theorem known_ev : Ev (fun k => canopylaw5_known.f k) true := Ev.of canopylaw5_known.mono known_true
end Go.Proofs.YtodbnnfiadcbaaaL
namespace Go.Proofs.YtodbnnfiadcbaaaL
open Go.RowKit Go.Proofs.Ytodbnnfiadcbaaa.P Go.Proofs.YtodbnnfiadcbaaaW.PrintWords Go.Proofs.YtodbnnfiadcbaaaW.PrintLast Go.Proofs.YtodbnnfiadcbaaaW.PrintMore
set_option linter.unusedSimpArgs false
set_option linter.unusedVariables false
def blk : List UInt8 → Nat
  | [] => 0
  | c :: r => if c = 32 then blk r + 1 else 0
def lets : List UInt8 → Nat
  | [] => 0
  | c :: r => if 97 ≤ c.toNat ∧ c.toNat ≤ 122 then lets r + 1 else 0
inductive Tk where
  | eof | bad
  | one (c : UInt8)
  | sym (nm : List UInt8) (k : Int)
  | nest (nm : List UInt8)
  | over (nm : List UInt8)
def okN (t : List UInt8) : Bool := decide (1 ≤ lets t) && decide (lets t ≤ 8)
def endsBy (t : List UInt8) (c : UInt8) : Bool := okN t && decide (t[lets t]? = some c)
def isSign (c : UInt8) : Bool := c == 48 || c == 49 || c == 40 || c == 41 || c == 124 || c == 42
def tokLt (t : List UInt8) : Tk × Nat :=
  if t.head? = some 47 then (if endsBy t.tail 62 then (.sym (t.tail.take (lets t.tail)) 2, lets t.tail + 3) else (.bad, 0))
  else if endsBy t 62 then (.sym (t.take (lets t)) 1, lets t + 2)
  else if endsBy t 91 then (.nest (t.take (lets t)), lets t + 2) else (.bad, 0)
def tokAt : List UInt8 → Tk × Nat
  | [] => (.eof, 0)
  | c :: t =>
    if isSign c then (.one c, 1)
    else if c = 60 then tokLt t
    else if c = 93 then (if endsBy t 62 then (.over (t.take (lets t)), lets t + 2) else (.bad, 0))
    else if okN (c :: t) then (.sym ((c :: t).take (lets (c :: t))) 3, lets (c :: t)) else (.bad, 0)
def Tk.isEof (t : Tk) : Bool := match t with
  | .eof => true
  | _ => false
inductive Rs where
  | ok (v : S28) (f : Nat)
  | err (e : Int) (p : Nat)
def Rs.and (r : Option Rs) (g : S28 → Nat → Option Rs) : Option Rs := r.bind fun r => match r with
  | .ok v f => g v f
  | .err e p => some (.err e p)
def severalT (k : Int) (xs : List S28) : S28 := match xs with
  | [x] => x
  | _ => ⟨k, 0, 0, xs⟩
section
variable (l : List S56) (s : List UInt8)
end
end Go.Proofs.YtodbnnfiadcbaaaL
namespace Go.Proofs.YtodbnnfiadcbaaaL
open Go.RowKit Go.Proofs.Ytodbnnfiadcbaaa.P Go.Proofs.YtodbnnfiadcbaaaW.PrintWords Go.Proofs.YtodbnnfiadcbaaaW.PrintLast Go.Proofs.YtodbnnfiadcbaaaW.PrintMore
set_option linter.unusedSimpArgs false
set_option linter.unusedVariables false
def letB (c : UInt8) : Bool := decide (97 ≤ c.toNat) && decide (c.toNat ≤ 122)
end Go.Proofs.YtodbnnfiadcbaaaL
namespace Go.Proofs.YtodbnnfiadcbaaaL
open Go.RowKit Go.Proofs.Ytodbnnfiadcbaaa.P Go.Proofs.YtodbnnfiadcbaaaW.PrintWords Go.Proofs.YtodbnnfiadcbaaaW.PrintLast Go.Proofs.YtodbnnfiadcbaaaW.PrintMore
set_option linter.unusedSimpArgs false
set_option linter.unusedVariables false
def Fit (l : List S56) (x : S28) : Prop := tformed x = true ∧ tbad l x = false
theorem tformedL_mem : ∀ {xs : List S28} {x : S28}, tformedL xs = true → x ∈ xs → tformed x = true
  | y :: ys, x, h, hx => by
    rw [tformedL, Bool.and_eq_true] at h
    rcases List.mem_cons.mp hx with rfl | hx
    · exact h.1
    · exact tformedL_mem h.2 hx
inductive View (l : List S56) : S28 → Prop
  | none : View l ⟨1, 0, 0, []⟩
  | void : View l ⟨2, 0, 0, []⟩
  | sym (a : Int) (h0 : 0 ≤ a) (h1 : a < (l.length : Int)) : View l ⟨3, a, 0, []⟩
  | nest (a b : Int) (x : S28) (a0 : 0 ≤ a) (a1 : a < (l.length : Int)) (a2 : (rd_T56 l a).f1 = 1) (b0 : 0 ≤ b) (b1 : b < (l.length : Int)) (b2 : (rd_T56 l b).f1 = 2) (hx : Fit l x) : View l ⟨4, a, b, [x]⟩
  | cat (x y : S28) (xs : List S28) (h : ∀ z ∈ x :: y :: xs, Fit l z) : View l ⟨5, 0, 0, x :: y :: xs⟩
  | or (x y : S28) (xs : List S28) (h : ∀ z ∈ x :: y :: xs, Fit l z) : View l ⟨6, 0, 0, x :: y :: xs⟩
  | star (x : S28) (hx : Fit l x) : View l ⟨7, 0, 0, [x]⟩
/-! ### heads -/
def SepR (r : List UInt8) : Prop := ∀ c, r.head? = some c → letB c = false
theorem SepR.cons {c : UInt8} {r : List UInt8} (h : letB c = false) : SepR (c :: r) := fun d hd => by simp at hd; rw [← hd]; exact h
theorem SepR.nil : SepR [] := fun d hd => by simp at hd
end Go.Proofs.YtodbnnfiadcbaaaL
namespace Go.Proofs.YtodbnnfiadcbaaaL
open Go.RowKit Go.Proofs.Ytodbnnfiadcbaaa.P Go.Proofs.YtodbnnfiadcbaaaW.PrintWords Go.Proofs.YtodbnnfiadcbaaaW.PrintLast Go.Proofs.YtodbnnfiadcbaaaW.PrintMore
set_option linter.unusedSimpArgs false
set_option linter.unusedVariables false
section
variable {l : List S56} {s : List UInt8}
end
end Go.Proofs.YtodbnnfiadcbaaaL
namespace Go.Proofs.YtodbnnfiadcbaaaL
open Go.RowKit Go.Proofs.Ytodbnnfiadcbaaa.P Go.Proofs.YtodbnnfiadcbaaaW.PrintWords Go.Proofs.YtodbnnfiadcbaaaW.PrintLast Go.Proofs.YtodbnnfiadcbaaaW.PrintMore
set_option linter.unusedSimpArgs false
set_option linter.unusedVariables false
def B (bs : List UInt8) : ByteArray := ⟨bs.toArray⟩
def L (s : ByteArray) : List UInt8 := s.data.toList
/-! ### a parser's state -/
abbrev PS := ByteArray × Int × Int × Int × ByteArray × Int × Int × Int × Int × Int
def Tk.K : Tk → Int
  | .eof => 1
  | .bad => 2
  | .one _ => 3
  | .sym _ _ => 4
  | .nest _ => 5
  | .over _ => 6
def Tk.N : Tk → ByteArray
  | .sym nm _ => B nm
  | .nest nm => B nm
  | .over nm => B nm
  | _ => ⟨#[]⟩
def Tk.S : Tk → Int
  | .sym _ k => k
  | .nest _ => 1
  | .over _ => 2
  | _ => 0
def Tk.C : Tk → Int
  | .one c => (c.toNat : Int)
  | _ => 0
def stT (s : ByteArray) (f : Nat) (t : Tk × Nat) (d e p : Int) : PS := (s, (f : Int), ((f + t.2 : Nat) : Int), t.1.K, t.1.N, t.1.S, t.1.C, d, e, p)
/-- The state at a place: its sign is the one there. -/
def st (s : ByteArray) (f : Nat) (d e p : Int) : PS := stT s f (tokAt ((L s).drop f)) d e p
section
variable (l : List S56) (s : ByteArray) (hs : s.size ≤ 2000)
include hs
end
end Go.Proofs.YtodbnnfiadcbaaaL

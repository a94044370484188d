/- Plain laws: no program in sight. -/
import Derived.Test.YtodbnnfiadcbaaaVcP4
set_option linter.unusedVariables false
set_option linter.unusedSimpArgs false
set_option linter.unusedSectionVars false
namespace Go.Proofs.YtodbnnfiadcbaaaL
open Go.RowKit Go.Proofs.Ytodbnnfiadcbaaa.P Go.Proofs.YtodbnnfiadcbaaaW.PrintWords Go.Proofs.YtodbnnfiadcbaaaW.PrintLast Go.Proofs.YtodbnnfiadcbaaaW.PrintMore
set_option linter.unusedSimpArgs false
set_option linter.unusedVariables false
set_option linter.unusedSectionVars false
theorem B_app (a b : List UInt8) : B a ++ B b = B (a ++ b) := L_inj (by rw [L_append, L_B, L_B, L_B])
theorem fit_of {α : Type} {n : Nat} (h : n ≤ 1000000) (a b : α) : (if n ≤ 9223372036854775807 then a else b) = a := if_pos (Nat.le_trans h (by decide))
theorem lit1 (a : UInt8) : (⟨#[a]⟩ : ByteArray) = B [a] := rfl
theorem lit2 (a b : UInt8) : (⟨#[a, b]⟩ : ByteArray) = B [a, b] := rfl
theorem lit3 (a b c : UInt8) : (⟨#[a, b, c]⟩ : ByteArray) = B [a, b, c] := rfl
theorem name_B (l : List S56) (i : Int) : (rd_T56 l i).f0 = B (nameT l i) := (B_L _).symm
section
variable {l : List S56} (hg : goodB l = true)
include hg
theorem name_ev {a : Int} (h0 : 0 ≤ a) (h1 : a < (l.length : Int)) : expr_name.f l a = some (B (nameT l a)) := by
 unfold expr_name.f
 rw [if_neg (by omega), if_neg (by omega), if_pos h0, if_pos h1, name_B]
theorem symText_ev {a : Int} (h0 : 0 ≤ a) (h1 : a < (l.length : Int)) : Ev (fun k => expr_text.f k l a) (B (symT l a)) := by
 have hn := nameT_len (good_names hg) a
 unfold expr_text.f
 refine Ev.congr (fun k => by rw [if_neg (by omega), decide_eq_false (by omega)]) ?_
 refine Ev.step (fun k => rfl) ?_
 refine Ev.congr (f := fun _ => some (B (symT l a))) (fun k => ?_) (Ev.now _)
 rw [expr_text.j0, if_neg (by decide), if_pos h0, if_pos h1, name_B]
 unfold symT
 rw [lit1, lit1, lit2]
 simp only [B_app, B_size]
 by_cases k1 : (rd_T56 l a).f1 = 1
 ·rw [if_pos k1, if_pos k1, fit_of (by omega), fit_of (by simp only [List.length_append, List.length_cons, List.length_nil]; omega)]
 ·rw [if_neg k1, if_neg k1]
  by_cases k2 : (rd_T56 l a).f1 = 2
  ·rw [if_pos k2, if_pos k2, fit_of (by omega), fit_of (by simp only [List.length_append, List.length_cons, List.length_nil]; omega)]
  ·rw [if_neg k2, if_neg k2]
omit hg in
def parT (ks : List Int) (k : Int) (t : List UInt8) : List UInt8 := if k ∈ ks then [40, 32] ++ t ++ [32, 41] else t
omit hg in
theorem part_l0 (t : List UInt8) (ht : t.length ≤ 100000) (ks : List Int) (hk : ks.length ≤ 1000) (a b c : Int) (xs : List S28) : ∀ (d i : Nat), i + d = ks.length → Ev (fun k => expr_part.l0 k (B t) ks (ks.length : Int) (i : Int) a b c xs) (B (parT (ks.drop i) a t)) := by
 intro d
 induction d with
 | zero =>
  intro i hi
  rw [List.drop_eq_nil_of_le (by omega)]
  refine Ev.step (fun k => rfl) ?_
  exact Ev.congr (f := fun _ => some (B t)) (fun k => by rw [expr_part.l0, if_neg (by omega)]) (Ev.now _)
 | succ d ih =>
  intro i hi
  have hlt : i < ks.length := by omega
  have hr : rd ks (i : Int) = ks[i] := by simp [rd, hlt]
  rw [List.drop_eq_getElem_cons hlt]
  refine Ev.step (fun k => rfl) ?_
  by_cases h : a = ks[i]
  ·refine Ev.congr (f := fun _ => some (B ([40, 32] ++ t ++ [32, 41]))) (fun k => ?_) ?_
   ·rw [expr_part.l0, if_pos (by omega), if_pos (by omega), if_pos (by omega), hr, if_pos h, lit2, lit2]
    simp only [B_app, B_size]
    rw [fit_of (by omega), fit_of (by simp only [List.length_append, List.length_cons, List.length_nil]; omega)]
   ·unfold parT
    rw [if_pos (show a ∈ ks[i] :: ks.drop (i + 1) by rw [h]; exact List.mem_cons_self)]
    exact Ev.now _
  ·refine Ev.congr (fun k => by rw [expr_part.l0, if_pos (by omega), if_pos (by omega), if_pos (by omega), hr, if_neg h, wrap_suc i ks.length hlt (by omega)]) ?_
   have := ih (i + 1) (by omega)
   have e9 : parT (ks[i] :: ks.drop (i + 1)) a t = parT (ks.drop (i + 1)) a t := by
    unfold parT
    by_cases h2 : a ∈ ks.drop (i + 1)
    ·rw [if_pos h2, if_pos (List.mem_cons_of_mem _ h2)]
    ·rw [if_neg h2, if_neg (fun q => (List.mem_cons.mp q).elim h h2)]
   rw [e9]
   exact this
omit hg in
theorem part_ev (x : S28) (t : List UInt8) (ht : t.length ≤ 100000) (ks : List Int) (hk : ks.length ≤ 1000) (h : Ev (fun k => expr_Text.f k l x.f0 x.f1 x.f2 x.f3) (B t)) : Ev (fun k => expr_part.f k l x.f0 x.f1 x.f2 x.f3 ks) (B (parT ks x.f0 t)) := by
 refine Ev.step (fun k => rfl) ?_
 refine Ev.congr (fun k => by rw [expr_part.f]) ?_
 refine Ev.bind h ?_
 exact part_l0 t ht ks hk _ _ _ _ ks.length 0 (by omega)
omit hg in
def partsT (l : List S56) (ks : List Int) (xs : List S28) : List (List UInt8) := xs.map fun x => parT ks x.f0 (textT l x)
omit hg in
theorem parts_l0 (sep : List UInt8) (ks : List Int) (hk : ks.length ≤ 1000) (xs : List S28) (hx : ∀ x ∈ xs, (textT l x).length ≤ 100000 ∧ Ev (fun k => expr_Text.f k l x.f0 x.f1 x.f2 x.f3) (B (textT l x))) (hn : xs.length ≤ 1000) (hj : (Lib.join (partsT l ks xs) sep).length ≤ 1000000) :
 ∀ (d i : Nat), i + d = xs.length → Ev (fun k => expr_parts.l0 k l (B sep) ks ((partsT l ks (xs.take i)).map B) xs (xs.length : Int) (i : Int)) (B (Lib.join (partsT l ks xs) sep)) := by
 intro d
 induction d with
 | zero =>
  intro i hi
  refine Ev.step (fun k => rfl) ?_
  refine Ev.congr (f := fun _ => some (B (Lib.join (partsT l ks xs) sep))) (fun k => ?_) (Ev.now _)
  rw [expr_parts.l0, if_neg (by omega), List.take_of_length_le (by omega)]
  unfold strings_Join.f
  have e : ((partsT l ks xs).map B).map (fun x => x.data.toList) = partsT l ks xs := by
   rw [List.map_map]
   have : ((fun x : ByteArray => x.data.toList) ∘ B) = id := by funext a; exact L_B a
   rw [this, List.map_id]
  have e2 : (B sep).data.toList = sep := L_B sep
  rw [if_pos (by rw [List.length_map]; unfold partsT; rw [List.length_map]; exact Nat.le_trans hn (by decide)), e, e2, if_pos (Nat.le_trans hj (by decide))]
  rfl
 | succ d ih =>
  intro i hi
  have hlt : i < xs.length := by omega
  obtain ⟨h1, h2⟩ := hx _ (rd_in xs i hlt)
  refine Ev.step (fun k => rfl) ?_
  refine Ev.congr (fun k => by rw [expr_parts.l0, if_pos (by omega), if_pos (by omega), if_pos (by omega)]) ?_
  refine Ev.bind (part_ev (rd_T28 xs (i : Int)) _ h1 ks hk h2) ?_
  have hl : ((partsT l ks (xs.take i)).map B).length = i := by
   rw [List.length_map]; unfold partsT; rw [List.length_map, List.length_take]; omega
  refine Ev.congr (fun k => by rw [if_pos (by rw [hl]; exact Nat.lt_of_le_of_lt (Nat.le_trans (Nat.le_of_lt hlt) hn) (by decide)), wrap_suc i xs.length hlt (by omega)]) ?_
  have := ih (i + 1) (by omega)
  have et : xs.take (i + 1) = xs.take i ++ [rd_T28 xs (i : Int)] := by
   rw [List.take_succ_eq_append_getElem hlt]
   congr 2
   unfold rd_T28
   rw [Int.toNat_natCast, List.getD_eq_getElem?_getD, List.getElem?_eq_getElem hlt]
   rfl
  rw [et] at this
  unfold partsT at this ⊢
  rw [List.map_append, List.map_append] at this
  exact this
omit hg in
theorem parts_ev (a b c : Int) (sep : List UInt8) (ks : List Int) (hk : ks.length ≤ 1000) (xs : List S28) (hx : ∀ x ∈ xs, (textT l x).length ≤ 100000 ∧ Ev (fun k => expr_Text.f k l x.f0 x.f1 x.f2 x.f3) (B (textT l x))) (hn : xs.length ≤ 1000) (hj : (Lib.join (partsT l ks xs) sep).length ≤ 1000000) :
 Ev (fun k => expr_parts.f k l a b c xs (B sep) ks) (B (Lib.join (partsT l ks xs) sep)) := by
 refine Ev.step (fun k => rfl) ?_
 refine Ev.congr (fun k => by rw [expr_parts.f]) ?_
 exact parts_l0 sep ks hk xs hx hn hj xs.length 0 (by omega)
omit hg in
theorem partsT_held (cat : Bool) : ∀ xs : List S28, partsT l (if cat then [5, 6] else [6]) xs = heldsT l cat xs
 | [] => by simp [partsT, heldsT]
 | x :: xs => by
  have := partsT_held cat xs
  unfold partsT at this ⊢
  rw [List.map_cons, this, heldsT]
  congr 1
  unfold parT held
  cases cat
  ·simp
  ·show (if x.f0 ∈ ([5, 6] : List Int) then _ else _) = _
   by_cases h6 : x.f0 = 6
   ·rw [if_pos (by rw [h6]; simp), if_pos (.inl h6)]
   ·by_cases h5 : x.f0 = 5
    ·rw [if_pos (by rw [h5]; simp), if_pos (.inr ⟨rfl, h5⟩)]
    ·rw [if_neg (by simp [h5, h6]), if_neg (by simp [h5, h6])]
omit hg in
theorem partsT_bare (x : S28) : Lib.join (partsT l [] [x]) [32] = textT l x := by
 show Lib.join [parT [] x.f0 (textT l x)] [32] = _
 rw [Lib.join_cons, joinTail_nil, List.append_nil]
 rfl
theorem text_ev : ∀ (n : Nat) (e : S28), tsize e ≤ n → n ≤ 1000 → Fit l e → Ev (fun k => expr_Text.f k l e.f0 e.f1 e.f2 e.f3) (B (textT l e))
 | 0, e, h, _, _ => by rw [tsize_eq] at h; omega
 | n + 1, e, h, hn, hf => by
  have hlen := textT_len (good_names hg) e
  have hz := tsize_eq e
  have kid : ∀ x ∈ e.f3, Fit l x → (textT l x).length ≤ 100000 ∧ Ev (fun k => expr_Text.f k l x.f0 x.f1 x.f2 x.f3) (B (textT l x)) := fun x hx hfx => by
   have h1 := tsize_mem hx
   have h2 := textT_len (good_names hg) x
   exact ⟨by omega, text_ev n x (by omega) (by omega) hfx⟩
  have hnx := len_tsizeL e.f3
  refine Ev.step (fun k => rfl) ?_
  have hv := view hf
  cases hv with
  | none => exact Ev.congr (f := fun _ => some (B [48])) (fun k => by rw [expr_Text.f]; rfl) (by rw [textT_none]; exact Ev.now _)
  | void => exact Ev.congr (f := fun _ => some (B [49])) (fun k => by rw [expr_Text.f]; rfl) (by rw [textT_void]; exact Ev.now _)
  | sym a h0 h1 =>
   refine Ev.congr (fun k => by rw [expr_Text.f, if_neg (show ¬ (3 : Int) = 2 by decide), if_pos (show (3 : Int) = 3 from rfl)]) ?_
   rw [textT_sym]
   exact Ev.bind (symText_ev hg h0 h1) (Ev.now _)
  | nest a b x a0 a1 a2 b0 b1 b2 hx =>
   have hkx := kid x (by simp) hx
   have na := nameT_len (good_names hg) a
   have nb := nameT_len (good_names hg) b
   have hp := parts_ev (l := l) 4 a b [32] [] (by decide) [x] (fun y hy => by rw [List.mem_singleton.mp hy]; exact hkx) (by simp) (by rw [partsT_bare]; exact Nat.le_trans hkx.1 (by decide))
   rw [partsT_bare] at hp
   refine Ev.congr (fun k => by rw [expr_Text.f, if_neg (show ¬ (4 : Int) = 2 by decide), if_neg (show ¬ (4 : Int) = 3 by decide), if_pos (show (4 : Int) = 4 from rfl), name_ev hg a0 a1, Option.bind_some, name_ev hg b0 b1, lit1, lit1, lit2, lit2, lit1]) ?_
   simp only [B_app, B_size, Option.bind_some]
   refine Ev.congr (fun k => by rw [fit_of (by omega), fit_of (by simp only [List.length_append, List.length_cons, List.length_nil]; omega)]) ?_
   refine Ev.bind hp ?_
   simp only [B_app, B_size]
   have hx9 := hkx.1
   refine Ev.congr (f := fun _ => some (B (textT l ⟨4, a, b, [x]⟩))) (fun k => ?_) (Ev.now _)
   rw [fit_of (by simp only [List.length_append, List.length_cons, List.length_nil]; omega), fit_of (by simp only [List.length_append, List.length_cons, List.length_nil]; omega), fit_of (by simp only [List.length_append, List.length_cons, List.length_nil]; omega), fit_of (by simp only [List.length_append, List.length_cons, List.length_nil]; omega), textT_nest]
   simp
  | cat x y xs hx =>
   refine Ev.congr (fun k => by rw [expr_Text.f, if_neg (show ¬ (5 : Int) = 2 by decide), if_neg (show ¬ (5 : Int) = 3 by decide), if_neg (show ¬ (5 : Int) = 4 by decide), if_pos (show (5 : Int) = 5 from rfl), lit1]) ?_
   have e1 : Lib.join (partsT l [5, 6] (x :: y :: xs)) [32] = textT l ⟨5, 0, 0, x :: y :: xs⟩ := by
    rw [textT_cat, show ([5, 6] : List Int) = if true then [5, 6] else [6] from rfl, partsT_held, heldsT_cons, Lib.join_cons]
   have := parts_ev (l := l) 5 0 0 [32] [5, 6] (by decide) (x :: y :: xs) (fun z hz => kid z hz (hx z hz)) (by simp only at hnx hz; omega) (by rw [e1]; omega)
   rw [e1] at this
   exact Ev.bind this (Ev.now _)
  | or x y xs hx =>
   refine Ev.congr (fun k => by rw [expr_Text.f, if_neg (show ¬ (6 : Int) = 2 by decide), if_neg (show ¬ (6 : Int) = 3 by decide), if_neg (show ¬ (6 : Int) = 4 by decide), if_neg (show ¬ (6 : Int) = 5 by decide), if_pos (show (6 : Int) = 6 from rfl), lit3]) ?_
   have e1 : Lib.join (partsT l [6] (x :: y :: xs)) [32, 124, 32] = textT l ⟨6, 0, 0, x :: y :: xs⟩ := by
    rw [textT_or, show ([6] : List Int) = if false then [5, 6] else [6] from rfl, partsT_held, heldsT_cons, Lib.join_cons]
   have := parts_ev (l := l) 6 0 0 [32, 124, 32] [6] (by decide) (x :: y :: xs) (fun z hz => kid z hz (hx z hz)) (by simp only at hnx hz; omega) (by rw [e1]; omega)
   rw [e1] at this
   exact Ev.bind this (Ev.now _)
  | star x hx =>
   refine Ev.congr (fun k => by rw [expr_Text.f, if_neg (show ¬ (7 : Int) = 2 by decide), if_neg (show ¬ (7 : Int) = 3 by decide), if_neg (show ¬ (7 : Int) = 4 by decide), if_neg (show ¬ (7 : Int) = 5 by decide), if_neg (show ¬ (7 : Int) = 6 by decide), if_pos (show (7 : Int) = 7 from rfl), lit1, lit1]) ?_
   have e1 : Lib.join (partsT l [5, 6] [x]) [32] ++ [42] = textT l ⟨7, 0, 0, [x]⟩ := by
    rw [textT_star, show ([5, 6] : List Int) = if true then [5, 6] else [6] from rfl, partsT_held, heldsT_cons, Lib.join_cons, heldsT_nil, joinTail_nil, List.append_nil]
   have hl2 : (Lib.join (partsT l [5, 6] [x]) [32]).length + 1 = (textT l ⟨7, 0, 0, [x]⟩).length := by rw [← e1]; simp
   have := parts_ev (l := l) 7 0 0 [32] [5, 6] (by decide) [x] (fun z hz => by rw [List.mem_singleton.mp hz]; exact kid x (by simp) hx) (by simp) (by omega)
   refine Ev.bind this ?_
   simp only [B_app, B_size]
   refine Ev.congr (f := fun _ => some (B (textT l ⟨7, 0, 0, [x]⟩))) (fun k => ?_) (Ev.now _)
   rw [fit_of (by omega), e1]
end
end Go.Proofs.YtodbnnfiadcbaaaL
namespace Go.Proofs.YtodbnnfiadcbaaaL
open Go.RowKit Go.Proofs.Ytodbnnfiadcbaaa.P Go.Proofs.YtodbnnfiadcbaaaW.PrintWords Go.Proofs.YtodbnnfiadcbaaaW.PrintLast Go.Proofs.YtodbnnfiadcbaaaW.PrintMore
theorem parse_back {l : List S56} (hg : goodB l = true) {e : S28} (h0 : treeErr l e = 0) (hz : ¬ 2000 < (B (textT l e)).size) : Ev (fun k => expr_Parse.f k l (B (textT l e))) (six (e, 0, 0)) := by
 have hgl := good_len hg
 obtain ⟨K, hK⟩ := parse_text hg h0
 have hK := hK K (Nat.le_refl _)
 have hp : ∃ n r, aOr l (L (B (textT l e))) n 0 (nx (L (B (textT l e))) 0) = some r ∧ tell l (L (B (textT l e))) r = (e, 0, 0) := by
  rw [L_B]
  simp only [aParse] at hK
  cases hr : aOr l (textT l e) K 0 (nx (textT l e) 0) with
  | none => rw [hr] at hK; cases hK
  | some r =>
   rw [hr] at hK
   refine ⟨K, r, hr, ?_⟩
   have hK := Option.some.inj hK
   rw [← hK]
   cases r <;> rfl
 obtain ⟨m, r, h1, h2⟩ := hp
 have := parse_sim (l := l) (s := B (textT l e)) (by omega) (by omega) h1
 rw [h2] at this
 exact this
end Go.Proofs.YtodbnnfiadcbaaaL

import Derived.Test.YtodbnnfiadcbaaaVcXd
import Derived.Test.YtodbnnfiadcbaaaVcP5
set_option linter.unusedVariables false
set_option linter.unusedSimpArgs false
set_option linter.unusedSectionVars false
namespace Go.V.S
open Go.Proofs Go.RowKit Go.Proofs.Ytodbnnfiadcbaaa.P Go.Proofs.YtodbnnfiadcbaaaW.PrintWords Go.Proofs.YtodbnnfiadcbaaaL
set_option maxRecDepth 10000
def TOk (w : List Int) (e : S28) (R : Nat → Nat → Bool) : Prop := ∀ i j, i ≤ w.length → j ≤ w.length → (R i j = true ↔ inT w e i j)
theorem catT_snoc (w : List Int) (x : S28) (xs : List S28) (i j : Nat) : catT w (xs ++ [x]) i j ↔ ∃ m, catT w xs i m ∧ inT w x m j :=
 ⟨cat_unsnoc w x xs i j, fun ⟨m, h1, h2⟩ => cat_snoc w x xs i m j h1 h2⟩
theorem orT_snoc (w : List Int) (x : S28) (i j : Nat) : ∀ xs : List S28, orT w (xs ++ [x]) i j ↔ orT w xs i j ∨ inT w x i j
 | [] => by rw [List.nil_append, orT, orT]; simp [orT]
 | y :: ys => by rw [List.cons_append, orT, orT, orT_snoc w x i j ys, or_assoc]
def Ch (R : Nat → Nat → Prop) : Nat → Nat → Nat → Prop
 | 0, i, j => i = j
 | m + 1, i, j => Ch R m i j ∨ ∃ k, Ch R m i k ∧ R k j
theorem Ch.refl (R : Nat → Nat → Prop) : ∀ m i, Ch R m i i
 | 0, _ => rfl
 | m + 1, i => .inl (Ch.refl R m i)
theorem Ch.mono {R : Nat → Nat → Prop} {m i j : Nat} (h : Ch R m i j) : ∀ d, Ch R (m + d) i j
 | 0 => h
 | d + 1 => .inl (Ch.mono h d)
theorem Ch.star {R : Nat → Nat → Prop} : ∀ {m i j : Nat}, Ch R m i j → Star R i j
 | 0, _, _, h => by cases h; exact .refl
 | m + 1, _, _, .inl h => Ch.star h
 | m + 1, _, _, .inr ⟨k, h1, h2⟩ => .step (Ch.star h1) h2
theorem star_ch {R : Nat → Nat → Prop} {n i : Nat} (hR : ∀ i j, i ≤ n → R i j → i ≤ j ∧ j ≤ n) (hi : i ≤ n) {j : Nat} (h : Star R i j) : i ≤ j ∧ j ≤ n ∧ Ch R (j - i) i j := by
 induction h with
 | refl => exact ⟨Nat.le_refl _, hi, by rw [Nat.sub_self]; exact rfl⟩
 | @step j k hs hr ih =>
  obtain ⟨h1, h2, h3⟩ := ih
  obtain ⟨h4, h5⟩ := hR j k h2 hr
  refine ⟨by omega, h5, ?_⟩
  rcases Nat.eq_or_lt_of_le h4 with rfl | hlt
  ·exact h3
  ·have : Ch R (j - i + 1) i k := .inr ⟨j, h3, hr⟩
   have := this.mono (k - j - 1)
   rwa [show j - i + 1 + (k - j - 1) = k - i by omega] at this
theorem ch_star {R : Nat → Nat → Prop} {n i j : Nat} (hR : ∀ i j, i ≤ n → R i j → i ≤ j ∧ j ≤ n) (hi : i ≤ n) : Ch R n i j ↔ Star R i j :=
 ⟨Ch.star, fun h => by
  obtain ⟨h1, h2, h3⟩ := star_ch hR hi h
  have := h3.mono (n - (j - i))
  rwa [show j - i + (n - (j - i)) = n by omega] at this⟩
theorem up_ok {M : Nat → Nat → Bool} {P Q : Nat → Nat → Prop} {n : Nat} (h : ∀ i j, i ≤ n → j ≤ n → (M i j = true ↔ P i j)) {i0 j0 : Nat} {b : Bool} (hb : b = true ↔ Q i0 j0)
 (hq : ∀ i j, i ≤ n → j ≤ n → ¬ (i = i0 ∧ j = j0) → (P i j ↔ Q i j)) : ∀ i j, i ≤ n → j ≤ n → (up M i0 j0 b i j = true ↔ Q i j) := fun i j hi hj => by
 unfold up
 by_cases e : i = i0 ∧ j = j0
 ·obtain ⟨rfl, rfl⟩ := e
  rw [if_pos ⟨rfl, rfl⟩]; exact hb
 ·rw [if_neg e, h i j hi hj]; exact hq i j hi hj e
theorem rd_get {w : List Int} {i : Nat} (h : i < w.length) (a : Int) : w[i]? = some a ↔ rd w (i : Int) = a := by
 simp only [rd, Int.toNat_natCast, List.getD_eq_getElem?_getD, List.getElem?_eq_getElem h, Option.getD_some, Option.some.injEq]
theorem sym_at (a b : Int) (xs : List S28) (w : List Int) (i j : Nat) : inT w ⟨3, a, b, xs⟩ i j ↔ w[i]? = some a ∧ j = i + 1 := by rw [inT, if_neg (by decide), if_pos rfl]
theorem nest_at (a b : Int) (x : S28) (w : List Int) (i j : Nat) : inT w ⟨4, a, b, [x]⟩ i j ↔ w[i]? = some a ∧ ∃ m, inT w x (i + 1) m ∧ w[m]? = some b ∧ j = m + 1 := by
 rw [inT, if_neg (by decide), if_neg (by decide), if_pos rfl]
 simp only [orT_one, List.length_cons, List.length_nil, true_and]
theorem nest_at2 (a b : Int) (x : S28) (w : List Int) {i k : Nat} (hi : i < w.length) (hk : k < w.length) : inT w ⟨4, a, b, [x]⟩ i (k + 1) ↔ rd w (i : Int) = a ∧ rd w (k : Int) = b ∧ inT w x (i + 1) k := by
 rw [nest_at, rd_get hi]
 constructor
 ·rintro ⟨h1, m, h2, h3, h4⟩
  obtain rfl : k = m := by omega
  exact ⟨h1, (rd_get hk b).1 h3, h2⟩
 ·rintro ⟨h1, h2, h3⟩
  exact ⟨h1, k, h3, (rd_get hk b).2 h2, rfl⟩
theorem nest_ge {a b : Int} {x : S28} {w : List Int} {i j : Nat} (h : inT w ⟨4, a, b, [x]⟩ i j) : i < w.length ∧ i + 2 ≤ j ∧ j ≤ w.length := by
 obtain ⟨h1, m, h2, h3, rfl⟩ := (nest_at a b x w i j).1 h
 have := lt_of_get h1
 have h4 := inT_le w x (i + 1) m (by omega) h2
 have := lt_of_get h3
 omega
theorem or_at (a b : Int) (xs : List S28) (w : List Int) (i j : Nat) : inT w ⟨6, a, b, xs⟩ i j ↔ orT w xs i j := by
 rw [inT, if_neg (by decide), if_neg (by decide), if_neg (by decide), if_neg (by decide), if_pos rfl]
theorem void_at (a b : Int) (xs : List S28) (w : List Int) (i j : Nat) : inT w ⟨2, a, b, xs⟩ i j ↔ i = j := by rw [inT, if_pos rfl]
theorem none_at {k : Int} (a b : Int) (xs : List S28) (w : List Int) (i j : Nat) (h2 : k ≠ 2) (h3 : k ≠ 3) (h4 : k ≠ 4) (h5 : k ≠ 5) (h6 : k ≠ 6) (h7 : k ≠ 7) : ¬ inT w ⟨k, a, b, xs⟩ i j := by
 rw [inT, if_neg h2, if_neg h3, if_neg h4, if_neg h5, if_neg h6, if_neg h7]; exact id
theorem vWt {M : Nat → Nat → Bool} {n i z : Nat} {K : List T → Prop} (hn : n ≤ 1000000) (hi : i + 1 ≤ n) (hz : z = 1) (hK : K [.sl (bR (M (i + 1)) n)]) :
 0 ≤ IntKind.i64.wrap ((i : Int) + 1) ∧ IntKind.i64.wrap ((i : Int) + 1) < ((tabR M n).length : Int) ∧ ∃ el, (tabR M n)[(IntKind.i64.wrap ((i : Int) + 1)).toNat]? = some el ∧ el.length = z ∧ K el := by
 rw [wrapN i (by omega)]
 exact ⟨Int.natCast_nonneg _, by rw [tab_len]; omega, vTe hi hz hK⟩
theorem vWi {f : Nat → Bool} {n i : Nat} {P : Prop} (hn : n ≤ 1000000) (hi : i + 1 ≤ n) (hK : P) : 0 ≤ IntKind.i64.wrap ((i : Int) + 1) ∧ IntKind.i64.wrap ((i : Int) + 1) < ((bR f n).length : Int) ∧ P := by
 rw [wrapN i (by omega)]
 exact ⟨Int.natCast_nonneg _, by rw [bR_len]; omega, hK⟩
theorem vNsW {σ : AS} {M : Nat → Nat → Bool} {n i j k : Nat} {b : Bool} {K : AS → Prop} (hn : n ≤ 1000000) (hi : i ≤ n) (hj : j + 1 ≤ n) (hK : (σ.upd k (.nest 1 1 (tabN (up M i (j + 1) b) n))).frc K) :
 ∃ pre inner el, (tabN M n)[0 + ((i : Nat) : Int).toNat]? = some (pre, inner) ∧ inner[0 + (IntKind.i64.wrap ((j : Int) + 1)).toNat]? = some el ∧ (σ.upd k (.nest 1 1 ((tabN M n).set (0 + ((i : Nat) : Int).toNat) (pre, inner.set (0 + (IntKind.i64.wrap ((j : Int) + 1)).toNat) (setAt el 0 [.v (.bool b)]))))).frc K := by
 rw [wrapN j (by omega)]
 exact vNs hi hj hK
abbrev dK (e0 : Int) : Prop := e0 = 2 ∨ e0 = 7 ∨ e0 = 5
set_option maxHeartbeats 4000000 in
theorem has50 (w : List Int) (hw : w.length ≤ 1000000) : ∀ (m : Nat) (e0 e1 e2 : Int) (xs : List S28), tsize ⟨e0, e1, e2, xs⟩ ≤ m → m ≤ 1000000 → tformed ⟨e0, e1, e2, xs⟩ = true →
 MQ Try.prog 50 [treeA e0 e1 e2 xs, .t (intsE w)] fun x => ∃ R, TOk w ⟨e0, e1, e2, xs⟩ R ∧ x = .t (tabT R w.length) := by
 intro m
 induction m with
 | zero => intro e0 e1 e2 xs h; rw [tsize_eq] at h; omega
 | succ m ih =>
 intro e0 e1 e2 xs hm hm2 hf
 rw [tformed_eq, Bool.and_eq_true] at hf
 obtain ⟨hs, hfl⟩ := hf
 refine MQ.shut ?_
 refine M.enter tab_ok Try.func50 rfl (by kernel_rfl) (Nat.le_of_ble_eq_true rfl) ?_
 have h2 : True := trivial
 have hwl : ((iR w).length : Int) = (w.length : Int) := by rw [List.length_map]
 (repeat' ((conv => whnf); first | refine Sp.t ?_ | refine Sp.f ?_ | refine Sp.n ?_ | refine Sp.d (fun _ => ?_) (fun _ => ?_) | refine Sp.e (fun _ => ?_) (fun _ => ?_) | refine Sp.ne (fun _ => ?_) (fun _ => ?_) | refine Sp.mk (fun _ => ?_) (fun _ => ?_) | refine And.intro (by first | omega | exact Nat.le_of_ble_eq_true rfl | (simp only [List.length_map, rowE_len, List.length_cons, List.length_nil] at *; omega)) ?_ | refine And.intro (Wd.map (fun _ => rfl)) ?_ | refine And.intro (rowE_wd _) ?_ | ((first | refine vix28 ?zb ?zd rfl ?_ | refine vix56 ?zb ?zd rfl ?_ | refine vixI ?zb ?zd rfl ?_); (case zb => first | omega | exact Nat.le_of_ble_eq_true rfl | (simp only [List.length_map, rowE_len, List.length_cons, List.length_nil] at *; omega)); (case zd => first | omega | exact Nat.le_of_ble_eq_true rfl | (simp only [List.length_map, rowE_len, List.length_cons, List.length_nil] at *; omega))) | fail))
 conv => whnf
 refine CallV.of_M [] [] [] (table71 w.length hw) rfl rfl (congrArg (fun z => [AV.i z]) hwl) (by repeat' constructor) (fun h' r ⟨hh, hr⟩ => ?_)
 subst hh hr
 (repeat' ((conv => whnf); first | refine Sp.t ?_ | refine Sp.f ?_ | refine Sp.n ?_ | refine Sp.d (fun _ => ?_) (fun _ => ?_) | refine Sp.e (fun _ => ?_) (fun _ => ?_) | refine Sp.ne (fun _ => ?_) (fun _ => ?_) | refine Sp.mk (fun _ => ?_) (fun _ => ?_) | refine And.intro (by first | omega | exact Nat.le_of_ble_eq_true rfl | (simp only [List.length_map, rowE_len, List.length_cons, List.length_nil] at *; omega)) ?_ | refine And.intro (Wd.map (fun _ => rfl)) ?_ | refine And.intro (rowE_wd _) ?_ | ((first | refine vix28 ?zb ?zd rfl ?_ | refine vix56 ?zb ?zd rfl ?_ | refine vixI ?zb ?zd rfl ?_); (case zb => first | omega | exact Nat.le_of_ble_eq_true rfl | (simp only [List.length_map, rowE_len, List.length_cons, List.length_nil] at *; omega)); (case zd => first | omega | exact Nat.le_of_ble_eq_true rfl | (simp only [List.length_map, rowE_len, List.length_cons, List.length_nil] at *; omega))) | fail))
 (refine CodeV.see (See.close 0 [(2, _)] rfl ⟨rfl, rfl, trivial, trivial⟩) ?_)
 refine CodeV.loop (α := { x : Nat × (Nat → Nat → Bool) // x.1 ≤ w.length + 1 ∧ (dK e0 ∨ x.1 = 0) ∧ ∀ i j, i ≤ w.length → j ≤ w.length → (x.2 i j = true ↔ i = j ∧ i < x.1) }) tab_ok (fun x => [(6, .rf (2, none) 1 0 (w.length + 1)), (7, .i x.1.1)]) (fun x => [.dead, .dead, .nest 1 1 (tabN x.1.2 w.length)]) [0, 1, 2] 3 (fun x => w.length + 1 - x.1.1)
  ⟨(0, fun _ _ => false), Nat.zero_le _, .inr rfl, fun i j _ _ => by simp⟩
  ⟨⟨rfl, rfl, trivial⟩, [], rfl⟩ rfl rfl (fun _ => ⟨rfl, rfl⟩) (fun ⟨(i, M), hi, hd, hM⟩ => ?_)
 dsimp only at hi hd hM ⊢
 (repeat' ((conv => whnf); first | refine Sp.t ?_ | refine Sp.f ?_ | refine Sp.n ?_ | refine Sp.d (fun _ => ?_) (fun _ => ?_) | refine Sp.e (fun _ => ?_) (fun _ => ?_) | refine Sp.ne (fun _ => ?_) (fun _ => ?_) | refine Sp.mk (fun _ => ?_) (fun _ => ?_) | refine And.intro (by first | omega | exact Nat.le_of_ble_eq_true rfl | (simp only [List.length_map, rowE_len, List.length_cons, List.length_nil] at *; omega)) ?_ | refine And.intro (Wd.map (fun _ => rfl)) ?_ | refine And.intro (rowE_wd _) ?_ | ((first | refine vix28 ?zb ?zd rfl ?_ | refine vix56 ?zb ?zd rfl ?_ | refine vixI ?zb ?zd rfl ?_); (case zb => first | omega | exact Nat.le_of_ble_eq_true rfl | (simp only [List.length_map, rowE_len, List.length_cons, List.length_nil] at *; omega)); (case zd => first | omega | exact Nat.le_of_ble_eq_true rfl | (simp only [List.length_map, rowE_len, List.length_cons, List.length_nil] at *; omega))) | refine And.intro (by first | omega | (simp only [List.length_map, List.length_range] at *; omega)) ?_ | ((first | refine vTe ?zb rfl ?_ | refine vTb ?zb rfl ?_ | refine vN ?zb ?_); (case zb => first | omega | (simp only [List.length_map, List.length_range] at *; omega))) | ((first | refine vNs ?zb ?zd ?_ | refine vN2 ?zb ?zd ?_); (case zb => first | omega | (simp only [List.length_map, List.length_range] at *; omega)); (case zd => first | omega | (simp only [List.length_map, List.length_range] at *; omega))) | fail))
 ·(all_goals ((conv => whnf); (try (conv => lhs; whnf))))
  exact ⟨⟨(i + 1, up M i i true), Nat.succ_le_succ (by simp only [List.length_map] at *; omega), .inl (by unfold dK; omega), up_ok hM (by simp) (fun i' j' _ _ _ => by omega)⟩, Nat.sub_lt_sub_left (by simp only [List.length_map] at *; omega) (Nat.lt_succ_self _), ⟨rfl, congrArg (fun z => AV.i z) (wrapN i (by simp only [List.length_map] at *; omega)), trivial⟩, _, rfl⟩
 ·(all_goals ((conv => whnf); (try (conv => lhs; whnf))))
  exact ⟨⟨(i + 1, up M i i true), Nat.succ_le_succ (by simp only [List.length_map] at *; omega), .inl (by unfold dK; omega), up_ok hM (by simp) (fun i' j' _ _ _ => by omega)⟩, Nat.sub_lt_sub_left (by simp only [List.length_map] at *; omega) (Nat.lt_succ_self _), ⟨rfl, congrArg (fun z => AV.i z) (wrapN i (by simp only [List.length_map] at *; omega)), trivial⟩, _, rfl⟩
 ·(all_goals ((conv => whnf); (try (conv => lhs; whnf))))
  exact ⟨⟨(i + 1, up M i i true), Nat.succ_le_succ (by simp only [List.length_map] at *; omega), .inl (by unfold dK; omega), up_ok hM (by simp) (fun i' j' _ _ _ => by omega)⟩, Nat.sub_lt_sub_left (by simp only [List.length_map] at *; omega) (Nat.lt_succ_self _), ⟨rfl, congrArg (fun z => AV.i z) (wrapN i (by simp only [List.length_map] at *; omega)), trivial⟩, _, rfl⟩
 ·have hk : e0 = 3 := by assumption
  subst hk
  obtain rfl : i = 0 := by unfold dK at hd; omega
  conv => whnf
  refine CodeV.loop (α := { x : Nat × (Nat → Nat → Bool) // x.1 ≤ w.length ∧ ∀ i j, i ≤ w.length → j ≤ w.length → (x.2 i j = true ↔ i < x.1 ∧ inT w ⟨3, e1, e2, xs⟩ i j) }) tab_ok (fun x => [(6, .rf (2, none) 1 0 (w.length + 1)), (8, .i x.1.1)]) (fun x => [.dead, .dead, .nest 1 1 (tabN x.1.2 w.length)]) [0, 1, 2] 3 (fun x => w.length - x.1.1)
   ⟨(0, M), Nat.zero_le _, fun i j hi hj => by rw [hM i j hi hj]; omega⟩
   ⟨⟨rfl, rfl, trivial⟩, [], rfl⟩ rfl rfl (fun _ => ⟨rfl, rfl⟩) (fun ⟨(i, M), hi, hM⟩ => ?_)
  dsimp only at hi hM ⊢
  have hwl2 : (List.map (fun n => [T.v (.int .i64 n)]) w).length = w.length := List.length_map _
  (repeat' ((conv => whnf); first | refine Sp.t ?_ | refine Sp.f ?_ | refine Sp.n ?_ | refine Sp.d (fun _ => ?_) (fun _ => ?_) | refine Sp.e (fun _ => ?_) (fun _ => ?_) | refine Sp.ne (fun _ => ?_) (fun _ => ?_) | refine Sp.mk (fun _ => ?_) (fun _ => ?_) | refine And.intro (by first | omega | exact Nat.le_of_ble_eq_true rfl | (simp only [List.length_map, rowE_len, List.length_cons, List.length_nil] at *; omega)) ?_ | refine And.intro (Wd.map (fun _ => rfl)) ?_ | refine And.intro (rowE_wd _) ?_ | ((first | refine vix28 ?zb ?zd rfl ?_ | refine vix56 ?zb ?zd rfl ?_ | refine vixI ?zb ?zd rfl ?_); (case zb => first | omega | exact Nat.le_of_ble_eq_true rfl | (simp only [List.length_map, rowE_len, List.length_cons, List.length_nil] at *; omega)); (case zd => first | omega | exact Nat.le_of_ble_eq_true rfl | (simp only [List.length_map, rowE_len, List.length_cons, List.length_nil] at *; omega))) | refine And.intro (by first | omega | (simp only [List.length_map, List.length_range] at *; omega)) ?_ | ((first | refine vTe ?zb rfl ?_ | refine vTb ?zb rfl ?_ | refine vN ?zb ?_); (case zb => first | omega | (simp only [List.length_map, List.length_range] at *; omega))) | ((first | refine vNs ?zb ?zd ?_ | refine vN2 ?zb ?zd ?_); (case zb => first | omega | (simp only [List.length_map, List.length_range] at *; omega)); (case zd => first | omega | (simp only [List.length_map, List.length_range] at *; omega))) | fail))
  case' refine_2 =>
   rename_i c
   rw [hwl2] at c
   (all_goals ((conv => whnf); (try (conv => lhs; whnf))))
   exact ⟨[2], _, ⟨by show 0 + (w.length + 1) ≤ (tabN M w.length).length; rw [List.length_map, List.length_range]; omega, trivial⟩, congrArg (fun t => AV.t (.sl t)) (nest_shut M w.length), rfl, M, fun i' j' hi' hj' => by rw [hM i' j' hi' hj']; exact ⟨fun h => h.2, fun h => ⟨by have := lt_of_get ((sym_at _ _ _ _ _ _).1 h).1; omega, h⟩⟩, rfl⟩
  have hin : i < w.length := by rename_i c; rw [hwl2] at c; omega
  conv => whnf
  (refine CodeV.draw tab_ok (tk [0,1,2,3,4,5,6,7,8,9,10,11,12,13] (.only 14 .nil)) [0, 0, 3, 7, 0, 16, 0, 0, 192, 448, 0, 1024, 4032, 8191, 16383] ⟨by kernel_rfl, by kernel_rfl, by kernel_rfl, by kernel_rfl, by kernel_rfl, by kernel_rfl⟩ ?_)
  (repeat' ((conv => whnf); first | refine Sp.t ?_ | refine Sp.f ?_ | refine Sp.n ?_ | refine Sp.d (fun _ => ?_) (fun _ => ?_) | refine Sp.e (fun _ => ?_) (fun _ => ?_) | refine Sp.ne (fun _ => ?_) (fun _ => ?_) | refine Sp.mk (fun _ => ?_) (fun _ => ?_) | refine And.intro (by first | omega | exact Nat.le_of_ble_eq_true rfl | (simp only [List.length_map, rowE_len, List.length_cons, List.length_nil] at *; omega)) ?_ | refine And.intro (Wd.map (fun _ => rfl)) ?_ | refine And.intro (rowE_wd _) ?_ | ((first | refine vix28 ?zb ?zd rfl ?_ | refine vix56 ?zb ?zd rfl ?_ | refine vixI ?zb ?zd rfl ?_); (case zb => first | omega | exact Nat.le_of_ble_eq_true rfl | (simp only [List.length_map, rowE_len, List.length_cons, List.length_nil] at *; omega)); (case zd => first | omega | exact Nat.le_of_ble_eq_true rfl | (simp only [List.length_map, rowE_len, List.length_cons, List.length_nil] at *; omega))) | refine And.intro (by first | omega | (simp only [List.length_map, List.length_range] at *; omega)) ?_ | ((first | refine vTe ?zb rfl ?_ | refine vTb ?zb rfl ?_ | refine vN ?zb ?_); (case zb => first | omega | (simp only [List.length_map, List.length_range] at *; omega))) | ((first | refine vNs ?zb ?zd ?_ | refine vN2 ?zb ?zd ?_); (case zb => first | omega | (simp only [List.length_map, List.length_range] at *; omega)); (case zd => first | omega | (simp only [List.length_map, List.length_range] at *; omega))) | fail))
  conv => whnf
  refine vWi hw (by omega) ?_
  (repeat' ((conv => whnf); first | refine Sp.t ?_ | refine Sp.f ?_ | refine Sp.n ?_ | refine Sp.d (fun _ => ?_) (fun _ => ?_) | refine Sp.e (fun _ => ?_) (fun _ => ?_) | refine Sp.ne (fun _ => ?_) (fun _ => ?_) | refine Sp.mk (fun _ => ?_) (fun _ => ?_) | refine And.intro (by first | omega | exact Nat.le_of_ble_eq_true rfl | (simp only [List.length_map, rowE_len, List.length_cons, List.length_nil] at *; omega)) ?_ | refine And.intro (Wd.map (fun _ => rfl)) ?_ | refine And.intro (rowE_wd _) ?_ | ((first | refine vix28 ?zb ?zd rfl ?_ | refine vix56 ?zb ?zd rfl ?_ | refine vixI ?zb ?zd rfl ?_); (case zb => first | omega | exact Nat.le_of_ble_eq_true rfl | (simp only [List.length_map, rowE_len, List.length_cons, List.length_nil] at *; omega)); (case zd => first | omega | exact Nat.le_of_ble_eq_true rfl | (simp only [List.length_map, rowE_len, List.length_cons, List.length_nil] at *; omega))) | refine And.intro (by first | omega | (simp only [List.length_map, List.length_range] at *; omega)) ?_ | ((first | refine vTe ?zb rfl ?_ | refine vTb ?zb rfl ?_ | refine vN ?zb ?_); (case zb => first | omega | (simp only [List.length_map, List.length_range] at *; omega))) | ((first | refine vNs ?zb ?zd ?_ | refine vN2 ?zb ?zd ?_); (case zb => first | omega | (simp only [List.length_map, List.length_range] at *; omega)); (case zd => first | omega | (simp only [List.length_map, List.length_range] at *; omega))) | fail))
  conv => whnf
  refine vNsW hw (by omega) (by omega) ?_
  (all_goals ((conv => whnf); (try (conv => lhs; whnf))))
  exact ⟨⟨(i + 1, up M i (i + 1) (rd w (i : Int) == e1)), hin, up_ok hM (by rw [sym_at, rd_get hin, beq_iff_eq]; exact ⟨fun h => ⟨Nat.lt_succ_self _, h, rfl⟩, fun h => h.2.1⟩) (fun i' j' _ _ hne => by rw [sym_at]; constructor; exact fun h => ⟨by omega, h.2⟩; exact fun h => ⟨by omega, h.2⟩)⟩, Nat.sub_lt_sub_left (by omega) (Nat.lt_succ_self _), ⟨rfl, congrArg (fun z => AV.i z) (wrapN i (by omega)), trivial⟩, _, rfl⟩
 ·have hk : e0 = 4 := by assumption
  subst hk
  obtain rfl : i = 0 := by unfold dK at hd; omega
  obtain ⟨x0, x1, x2, xl, rfl⟩ := sh_one hs (.inl rfl)
  rw [tsize_eq] at hm
  rw [tformedL, tformedL, Bool.and_true] at hfl
  have hx : tsize ⟨x0, x1, x2, xl⟩ ≤ m := by simp only [tsizeL] at hm; omega
  conv => whnf
  refine And.intro (by rw [rowE_len]; exact Int.one_pos) (vix28 (Int.le_refl _) Int.one_pos rfl ?_)
  (repeat' ((conv => whnf); first | refine Sp.t ?_ | refine Sp.f ?_ | refine Sp.n ?_ | refine Sp.d (fun _ => ?_) (fun _ => ?_) | refine Sp.e (fun _ => ?_) (fun _ => ?_) | refine Sp.ne (fun _ => ?_) (fun _ => ?_) | refine Sp.mk (fun _ => ?_) (fun _ => ?_) | refine And.intro (by first | omega | exact Nat.le_of_ble_eq_true rfl | (simp only [List.length_map, rowE_len, List.length_cons, List.length_nil] at *; omega)) ?_ | refine And.intro (Wd.map (fun _ => rfl)) ?_ | refine And.intro (rowE_wd _) ?_ | ((first | refine vix28 ?zb ?zd rfl ?_ | refine vix56 ?zb ?zd rfl ?_ | refine vixI ?zb ?zd rfl ?_); (case zb => first | omega | exact Nat.le_of_ble_eq_true rfl | (simp only [List.length_map, rowE_len, List.length_cons, List.length_nil] at *; omega)); (case zd => first | omega | exact Nat.le_of_ble_eq_true rfl | (simp only [List.length_map, rowE_len, List.length_cons, List.length_nil] at *; omega))) | refine And.intro (by first | omega | (simp only [List.length_map, List.length_range] at *; omega)) ?_ | ((first | refine vTe ?zb rfl ?_ | refine vTb ?zb rfl ?_ | refine vN ?zb ?_); (case zb => first | omega | (simp only [List.length_map, List.length_range] at *; omega))) | ((first | refine vNs ?zb ?zd ?_ | refine vN2 ?zb ?zd ?_); (case zb => first | omega | (simp only [List.length_map, List.length_range] at *; omega)); (case zd => first | omega | (simp only [List.length_map, List.length_range] at *; omega))) | fail))
  conv => whnf
  refine CallV.of_MQ (ih x0 x1 x2 xl hx (by omega) hfl) rfl (by repeat' constructor) (fun x ⟨X, hX, hx⟩ => ?_)
  subst hx
  (repeat' ((conv => whnf); first | refine Sp.t ?_ | refine Sp.f ?_ | refine Sp.n ?_ | refine Sp.d (fun _ => ?_) (fun _ => ?_) | refine Sp.e (fun _ => ?_) (fun _ => ?_) | refine Sp.ne (fun _ => ?_) (fun _ => ?_) | refine Sp.mk (fun _ => ?_) (fun _ => ?_) | refine And.intro (by first | omega | exact Nat.le_of_ble_eq_true rfl | (simp only [List.length_map, rowE_len, List.length_cons, List.length_nil] at *; omega)) ?_ | refine And.intro (Wd.map (fun _ => rfl)) ?_ | refine And.intro (rowE_wd _) ?_ | ((first | refine vix28 ?zb ?zd rfl ?_ | refine vix56 ?zb ?zd rfl ?_ | refine vixI ?zb ?zd rfl ?_); (case zb => first | omega | exact Nat.le_of_ble_eq_true rfl | (simp only [List.length_map, rowE_len, List.length_cons, List.length_nil] at *; omega)); (case zd => first | omega | exact Nat.le_of_ble_eq_true rfl | (simp only [List.length_map, rowE_len, List.length_cons, List.length_nil] at *; omega))) | refine And.intro (by first | omega | (simp only [List.length_map, List.length_range] at *; omega)) ?_ | ((first | refine vTe ?zb rfl ?_ | refine vTb ?zb rfl ?_ | refine vN ?zb ?_); (case zb => first | omega | (simp only [List.length_map, List.length_range] at *; omega))) | ((first | refine vNs ?zb ?zd ?_ | refine vN2 ?zb ?zd ?_); (case zb => first | omega | (simp only [List.length_map, List.length_range] at *; omega)); (case zd => first | omega | (simp only [List.length_map, List.length_range] at *; omega))) | fail))
  refine CodeV.loop (α := { x : Nat × (Nat → Nat → Bool) // x.1 ≤ w.length ∧ ∀ i j, i ≤ w.length → j ≤ w.length → (x.2 i j = true ↔ i < x.1 ∧ inT w ⟨4, e1, e2, [⟨x0, x1, x2, xl⟩]⟩ i j) }) tab_ok (fun x => [(6, .rf (2, none) 1 0 (w.length + 1)), (10, .i x.1.1)]) (fun x => [.dead, .dead, .nest 1 1 (tabN x.1.2 w.length)]) [0, 1, 2] 3 (fun x => w.length - x.1.1)
   ⟨(0, M), Nat.zero_le _, fun i j hi hj => by rw [hM i j hi hj]; omega⟩
   ⟨⟨rfl, rfl, trivial⟩, [], rfl⟩ rfl rfl (fun _ => ⟨rfl, rfl⟩) (fun ⟨(i, M), hi, hM⟩ => ?_)
  dsimp only at hi hM ⊢
  have hwl2 : (List.map (fun n => [T.v (.int .i64 n)]) w).length = w.length := List.length_map _
  (repeat' ((conv => whnf); first | refine Sp.t ?_ | refine Sp.f ?_ | refine Sp.n ?_ | refine Sp.d (fun _ => ?_) (fun _ => ?_) | refine Sp.e (fun _ => ?_) (fun _ => ?_) | refine Sp.ne (fun _ => ?_) (fun _ => ?_) | refine Sp.mk (fun _ => ?_) (fun _ => ?_) | refine And.intro (by first | omega | exact Nat.le_of_ble_eq_true rfl | (simp only [List.length_map, rowE_len, List.length_cons, List.length_nil] at *; omega)) ?_ | refine And.intro (Wd.map (fun _ => rfl)) ?_ | refine And.intro (rowE_wd _) ?_ | ((first | refine vix28 ?zb ?zd rfl ?_ | refine vix56 ?zb ?zd rfl ?_ | refine vixI ?zb ?zd rfl ?_); (case zb => first | omega | exact Nat.le_of_ble_eq_true rfl | (simp only [List.length_map, rowE_len, List.length_cons, List.length_nil] at *; omega)); (case zd => first | omega | exact Nat.le_of_ble_eq_true rfl | (simp only [List.length_map, rowE_len, List.length_cons, List.length_nil] at *; omega))) | refine And.intro (by first | omega | (simp only [List.length_map, List.length_range] at *; omega)) ?_ | ((first | refine vTe ?zb rfl ?_ | refine vTb ?zb rfl ?_ | refine vN ?zb ?_); (case zb => first | omega | (simp only [List.length_map, List.length_range] at *; omega))) | ((first | refine vNs ?zb ?zd ?_ | refine vN2 ?zb ?zd ?_); (case zb => first | omega | (simp only [List.length_map, List.length_range] at *; omega)); (case zd => first | omega | (simp only [List.length_map, List.length_range] at *; omega))) | fail))
  case' refine_2 =>
   rename_i c
   rw [hwl2] at c
   (all_goals ((conv => whnf); (try (conv => lhs; whnf))))
   exact ⟨[2], _, ⟨by show 0 + (w.length + 1) ≤ (tabN M w.length).length; rw [List.length_map, List.length_range]; omega, trivial⟩, congrArg (fun t => AV.t (.sl t)) (nest_shut M w.length), rfl, M, fun i' j' hi' hj' => by rw [hM i' j' hi' hj']; exact ⟨fun h => h.2, fun h => ⟨by have := nest_ge h; omega, h⟩⟩, rfl⟩
  have hin : i < w.length := by rename_i c; rw [hwl2] at c; omega
  conv => whnf
  refine CodeV.loop (α := { x : Nat × (Nat → Nat → Bool) // i + 1 ≤ x.1 ∧ x.1 ≤ w.length ∧ ∀ i' j', i' ≤ w.length → j' ≤ w.length → (x.2 i' j' = true ↔ inT w ⟨4, e1, e2, [⟨x0, x1, x2, xl⟩]⟩ i' j' ∧ (i' < i ∨ (i' = i ∧ j' ≤ x.1))) }) tab_ok (fun x => [(6, .rf (2, none) 1 0 (w.length + 1)), (11, .i x.1.1)]) (fun x => [.dead, .dead, .nest 1 1 (tabN x.1.2 w.length)]) [0, 1, 2] 3 (fun x => w.length - x.1.1)
   ⟨(i + 1, M), Nat.le_refl _, hin, fun i' j' hi' hj' => by
     rw [hM i' j' hi' hj']
     exact ⟨fun h => ⟨h.2, .inl h.1⟩, fun h => ⟨by have := nest_ge h.1; omega, h.1⟩⟩⟩
   ⟨⟨rfl, congrArg (fun z => AV.i z) (wrapN i (by omega)), trivial⟩, [], rfl⟩ rfl rfl (fun _ => ⟨rfl, rfl⟩) (fun ⟨(k, M), hk1, hk2, hM⟩ => ?_)
  dsimp only at hk1 hk2 hM ⊢
  (repeat' ((conv => whnf); first | refine Sp.t ?_ | refine Sp.f ?_ | refine Sp.n ?_ | refine Sp.d (fun _ => ?_) (fun _ => ?_) | refine Sp.e (fun _ => ?_) (fun _ => ?_) | refine Sp.ne (fun _ => ?_) (fun _ => ?_) | refine Sp.mk (fun _ => ?_) (fun _ => ?_) | refine And.intro (by first | omega | exact Nat.le_of_ble_eq_true rfl | (simp only [List.length_map, rowE_len, List.length_cons, List.length_nil] at *; omega)) ?_ | refine And.intro (Wd.map (fun _ => rfl)) ?_ | refine And.intro (rowE_wd _) ?_ | ((first | refine vix28 ?zb ?zd rfl ?_ | refine vix56 ?zb ?zd rfl ?_ | refine vixI ?zb ?zd rfl ?_); (case zb => first | omega | exact Nat.le_of_ble_eq_true rfl | (simp only [List.length_map, rowE_len, List.length_cons, List.length_nil] at *; omega)); (case zd => first | omega | exact Nat.le_of_ble_eq_true rfl | (simp only [List.length_map, rowE_len, List.length_cons, List.length_nil] at *; omega))) | refine And.intro (by first | omega | (simp only [List.length_map, List.length_range] at *; omega)) ?_ | ((first | refine vTe ?zb rfl ?_ | refine vTb ?zb rfl ?_ | refine vN ?zb ?_); (case zb => first | omega | (simp only [List.length_map, List.length_range] at *; omega))) | ((first | refine vNs ?zb ?zd ?_ | refine vN2 ?zb ?zd ?_); (case zb => first | omega | (simp only [List.length_map, List.length_range] at *; omega)); (case zd => first | omega | (simp only [List.length_map, List.length_range] at *; omega))) | fail))
  case' refine_2 =>
   rename_i c
   rw [hwl2] at c
   (all_goals ((conv => whnf); (try (conv => lhs; whnf))))
   exact ⟨⟨(i + 1, M), hin, fun i' j' hi' hj' => by rw [hM i' j' hi' hj']; exact ⟨fun h => ⟨by omega, h.1⟩, fun h => ⟨h.2, by omega⟩⟩⟩, Nat.sub_lt_sub_left (by omega) (Nat.lt_succ_self _), ⟨rfl, congrArg (fun z => AV.i z) (wrapN i (by omega)), trivial⟩, _, rfl⟩
  have hkn : k < w.length := by rename_i c; rw [hwl2] at c; omega
  have step : ∀ b : Bool, (b = true ↔ rd w (i : Int) = e1 ∧ rd w (k : Int) = e2 ∧ inT w ⟨x0, x1, x2, xl⟩ (i + 1) k) → ∀ i' j', i' ≤ w.length → j' ≤ w.length → (up M i (k + 1) b i' j' = true ↔ inT w ⟨4, e1, e2, [⟨x0, x1, x2, xl⟩]⟩ i' j' ∧ (i' < i ∨ (i' = i ∧ j' ≤ k + 1))) := fun b hb =>
   up_ok hM (by rw [hb, nest_at2 _ _ _ _ hin hkn]; exact ⟨fun h => ⟨h, .inr ⟨rfl, Nat.le_refl _⟩⟩, fun h => h.1⟩) (fun i' j' _ _ hne => by constructor; exact fun h => ⟨h.1, by omega⟩; exact fun h => ⟨h.1, by omega⟩)
  conv => whnf
  (refine CodeV.draw tab_ok (tk [0,1,2,3,4,5,6,7,8,9,10,11,12,13,14,15,16,17,18,19,20,21,22,23,24,25,26,27,28,29,30,31,32] (.only 33 .nil)) [0, 0, 3, 7, 0, 16, 0, 0, 192, 448, 0, 1024, 4032, 8128, 16320, 16320, 65472, 131008, 16320, 278464, 1048512, 2097088, 4194240, 8388544, 8388544, 25165760, 67108800, 134217664, 8388544, 536870848, 1073741760, 2147483584, 4294967295, 8589934591] ⟨by kernel_rfl, by kernel_rfl, by kernel_rfl, by kernel_rfl, by kernel_rfl, by kernel_rfl⟩ ?_)
  (repeat' ((conv => whnf); first | refine Sp.t ?_ | refine Sp.f ?_ | refine Sp.n ?_ | refine Sp.d (fun _ => ?_) (fun _ => ?_) | refine Sp.e (fun _ => ?_) (fun _ => ?_) | refine Sp.ne (fun _ => ?_) (fun _ => ?_) | refine Sp.mk (fun _ => ?_) (fun _ => ?_) | refine And.intro (by first | omega | exact Nat.le_of_ble_eq_true rfl | (simp only [List.length_map, rowE_len, List.length_cons, List.length_nil] at *; omega)) ?_ | refine And.intro (Wd.map (fun _ => rfl)) ?_ | refine And.intro (rowE_wd _) ?_ | ((first | refine vix28 ?zb ?zd rfl ?_ | refine vix56 ?zb ?zd rfl ?_ | refine vixI ?zb ?zd rfl ?_); (case zb => first | omega | exact Nat.le_of_ble_eq_true rfl | (simp only [List.length_map, rowE_len, List.length_cons, List.length_nil] at *; omega)); (case zd => first | omega | exact Nat.le_of_ble_eq_true rfl | (simp only [List.length_map, rowE_len, List.length_cons, List.length_nil] at *; omega))) | refine And.intro (by first | omega | (simp only [List.length_map, List.length_range] at *; omega)) ?_ | ((first | refine vTe ?zb rfl ?_ | refine vTb ?zb rfl ?_ | refine vN ?zb ?_); (case zb => first | omega | (simp only [List.length_map, List.length_range] at *; omega))) | ((first | refine vNs ?zb ?zd ?_ | refine vN2 ?zb ?zd ?_); (case zb => first | omega | (simp only [List.length_map, List.length_range] at *; omega)); (case zd => first | omega | (simp only [List.length_map, List.length_range] at *; omega))) | fail))
  ·have c1 : rd w (i : Int) = e1 := by assumption
   have c2 : rd w (k : Int) = e2 := by assumption
   conv => whnf
   refine vWt hw (by omega) rfl ?_
   (repeat' ((conv => whnf); first | refine Sp.t ?_ | refine Sp.f ?_ | refine Sp.n ?_ | refine Sp.d (fun _ => ?_) (fun _ => ?_) | refine Sp.e (fun _ => ?_) (fun _ => ?_) | refine Sp.ne (fun _ => ?_) (fun _ => ?_) | refine Sp.mk (fun _ => ?_) (fun _ => ?_) | refine And.intro (by first | omega | exact Nat.le_of_ble_eq_true rfl | (simp only [List.length_map, rowE_len, List.length_cons, List.length_nil] at *; omega)) ?_ | refine And.intro (Wd.map (fun _ => rfl)) ?_ | refine And.intro (rowE_wd _) ?_ | ((first | refine vix28 ?zb ?zd rfl ?_ | refine vix56 ?zb ?zd rfl ?_ | refine vixI ?zb ?zd rfl ?_); (case zb => first | omega | exact Nat.le_of_ble_eq_true rfl | (simp only [List.length_map, rowE_len, List.length_cons, List.length_nil] at *; omega)); (case zd => first | omega | exact Nat.le_of_ble_eq_true rfl | (simp only [List.length_map, rowE_len, List.length_cons, List.length_nil] at *; omega))) | refine And.intro (by first | omega | (simp only [List.length_map, List.length_range] at *; omega)) ?_ | ((first | refine vTe ?zb rfl ?_ | refine vTb ?zb rfl ?_ | refine vN ?zb ?_); (case zb => first | omega | (simp only [List.length_map, List.length_range] at *; omega))) | ((first | refine vNs ?zb ?zd ?_ | refine vN2 ?zb ?zd ?_); (case zb => first | omega | (simp only [List.length_map, List.length_range] at *; omega)); (case zd => first | omega | (simp only [List.length_map, List.length_range] at *; omega))) | fail))
   conv => whnf
   refine vWi hw (by omega) ?_
   (repeat' ((conv => whnf); first | refine Sp.t ?_ | refine Sp.f ?_ | refine Sp.n ?_ | refine Sp.d (fun _ => ?_) (fun _ => ?_) | refine Sp.e (fun _ => ?_) (fun _ => ?_) | refine Sp.ne (fun _ => ?_) (fun _ => ?_) | refine Sp.mk (fun _ => ?_) (fun _ => ?_) | refine And.intro (by first | omega | exact Nat.le_of_ble_eq_true rfl | (simp only [List.length_map, rowE_len, List.length_cons, List.length_nil] at *; omega)) ?_ | refine And.intro (Wd.map (fun _ => rfl)) ?_ | refine And.intro (rowE_wd _) ?_ | ((first | refine vix28 ?zb ?zd rfl ?_ | refine vix56 ?zb ?zd rfl ?_ | refine vixI ?zb ?zd rfl ?_); (case zb => first | omega | exact Nat.le_of_ble_eq_true rfl | (simp only [List.length_map, rowE_len, List.length_cons, List.length_nil] at *; omega)); (case zd => first | omega | exact Nat.le_of_ble_eq_true rfl | (simp only [List.length_map, rowE_len, List.length_cons, List.length_nil] at *; omega))) | refine And.intro (by first | omega | (simp only [List.length_map, List.length_range] at *; omega)) ?_ | ((first | refine vTe ?zb rfl ?_ | refine vTb ?zb rfl ?_ | refine vN ?zb ?_); (case zb => first | omega | (simp only [List.length_map, List.length_range] at *; omega))) | ((first | refine vNs ?zb ?zd ?_ | refine vN2 ?zb ?zd ?_); (case zb => first | omega | (simp only [List.length_map, List.length_range] at *; omega)); (case zd => first | omega | (simp only [List.length_map, List.length_range] at *; omega))) | fail))
   conv => whnf
   refine vNsW hw (by omega) (by omega) ?_
   (all_goals ((conv => whnf); (try (conv => lhs; whnf))))
   exact ⟨⟨(k + 1, up M i (k + 1) (X (i + 1) k)), by omega, by omega, step _ (by rw [hX (i + 1) k (by omega) (by omega)]; exact ⟨fun h => ⟨c1, c2, h⟩, fun h => h.2.2⟩)⟩, Nat.sub_lt_sub_left (by omega) (Nat.lt_succ_self _), ⟨rfl, congrArg (fun z => AV.i z) (wrapN k (by omega)), trivial⟩, _, rfl⟩
  ·have c2 : ¬ rd w (k : Int) = e2 := by assumption
   conv => whnf
   refine vWi hw (by omega) ?_
   (repeat' ((conv => whnf); first | refine Sp.t ?_ | refine Sp.f ?_ | refine Sp.n ?_ | refine Sp.d (fun _ => ?_) (fun _ => ?_) | refine Sp.e (fun _ => ?_) (fun _ => ?_) | refine Sp.ne (fun _ => ?_) (fun _ => ?_) | refine Sp.mk (fun _ => ?_) (fun _ => ?_) | refine And.intro (by first | omega | exact Nat.le_of_ble_eq_true rfl | (simp only [List.length_map, rowE_len, List.length_cons, List.length_nil] at *; omega)) ?_ | refine And.intro (Wd.map (fun _ => rfl)) ?_ | refine And.intro (rowE_wd _) ?_ | ((first | refine vix28 ?zb ?zd rfl ?_ | refine vix56 ?zb ?zd rfl ?_ | refine vixI ?zb ?zd rfl ?_); (case zb => first | omega | exact Nat.le_of_ble_eq_true rfl | (simp only [List.length_map, rowE_len, List.length_cons, List.length_nil] at *; omega)); (case zd => first | omega | exact Nat.le_of_ble_eq_true rfl | (simp only [List.length_map, rowE_len, List.length_cons, List.length_nil] at *; omega))) | refine And.intro (by first | omega | (simp only [List.length_map, List.length_range] at *; omega)) ?_ | ((first | refine vTe ?zb rfl ?_ | refine vTb ?zb rfl ?_ | refine vN ?zb ?_); (case zb => first | omega | (simp only [List.length_map, List.length_range] at *; omega))) | ((first | refine vNs ?zb ?zd ?_ | refine vN2 ?zb ?zd ?_); (case zb => first | omega | (simp only [List.length_map, List.length_range] at *; omega)); (case zd => first | omega | (simp only [List.length_map, List.length_range] at *; omega))) | fail))
   conv => whnf
   refine vNsW hw (by omega) (by omega) ?_
   (all_goals ((conv => whnf); (try (conv => lhs; whnf))))
   exact ⟨⟨(k + 1, up M i (k + 1) false), by omega, by omega, step _ ⟨(fun h => nomatch h), fun h => absurd h.2.1 c2⟩⟩, Nat.sub_lt_sub_left (by omega) (Nat.lt_succ_self _), ⟨rfl, congrArg (fun z => AV.i z) (wrapN k (by omega)), trivial⟩, _, rfl⟩
  ·have c1 : ¬ rd w (i : Int) = e1 := by assumption
   conv => whnf
   refine vWi hw (by omega) ?_
   (repeat' ((conv => whnf); first | refine Sp.t ?_ | refine Sp.f ?_ | refine Sp.n ?_ | refine Sp.d (fun _ => ?_) (fun _ => ?_) | refine Sp.e (fun _ => ?_) (fun _ => ?_) | refine Sp.ne (fun _ => ?_) (fun _ => ?_) | refine Sp.mk (fun _ => ?_) (fun _ => ?_) | refine And.intro (by first | omega | exact Nat.le_of_ble_eq_true rfl | (simp only [List.length_map, rowE_len, List.length_cons, List.length_nil] at *; omega)) ?_ | refine And.intro (Wd.map (fun _ => rfl)) ?_ | refine And.intro (rowE_wd _) ?_ | ((first | refine vix28 ?zb ?zd rfl ?_ | refine vix56 ?zb ?zd rfl ?_ | refine vixI ?zb ?zd rfl ?_); (case zb => first | omega | exact Nat.le_of_ble_eq_true rfl | (simp only [List.length_map, rowE_len, List.length_cons, List.length_nil] at *; omega)); (case zd => first | omega | exact Nat.le_of_ble_eq_true rfl | (simp only [List.length_map, rowE_len, List.length_cons, List.length_nil] at *; omega))) | refine And.intro (by first | omega | (simp only [List.length_map, List.length_range] at *; omega)) ?_ | ((first | refine vTe ?zb rfl ?_ | refine vTb ?zb rfl ?_ | refine vN ?zb ?_); (case zb => first | omega | (simp only [List.length_map, List.length_range] at *; omega))) | ((first | refine vNs ?zb ?zd ?_ | refine vN2 ?zb ?zd ?_); (case zb => first | omega | (simp only [List.length_map, List.length_range] at *; omega)); (case zd => first | omega | (simp only [List.length_map, List.length_range] at *; omega))) | fail))
   conv => whnf
   refine vNsW hw (by omega) (by omega) ?_
   (all_goals ((conv => whnf); (try (conv => lhs; whnf))))
   exact ⟨⟨(k + 1, up M i (k + 1) false), by omega, by omega, step _ ⟨(fun h => nomatch h), fun h => absurd h.1 c1⟩⟩, Nat.sub_lt_sub_left (by omega) (Nat.lt_succ_self _), ⟨rfl, congrArg (fun z => AV.i z) (wrapN k (by omega)), trivial⟩, _, rfl⟩
 ·exact absurd ‹e0 = 5› ‹¬ e0 = 5›
 ·have hk : e0 = 6 := by assumption
  subst hk
  obtain rfl : i = 0 := by unfold dK at hd; omega
  have hxl : xs.length ≤ 1000000 := by have := len_tsizeL xs; rw [tsize_eq] at hm; simp only at hm; omega
  conv => whnf
  refine CodeV.loop (α := { x : Nat × (Nat → Nat → Bool) // x.1 ≤ xs.length ∧ ∀ i j, i ≤ w.length → j ≤ w.length → (x.2 i j = true ↔ orT w (xs.take x.1) i j) }) tab_ok (fun x => [(6, .rf (2, none) 1 0 (w.length + 1)), (13, .i x.1.1)]) (fun x => [.dead, .dead, .nest 1 1 (tabN x.1.2 w.length)]) [0, 1, 2] 3 (fun x => xs.length - x.1.1)
   ⟨(0, M), Nat.zero_le _, fun i j hi hj => by rw [hM i j hi hj, List.take_zero, orT]; exact ⟨fun h => absurd h.2 (Nat.not_lt_zero _), fun h => h.elim⟩⟩
   ⟨⟨rfl, rfl, trivial⟩, [], rfl⟩ rfl rfl (fun _ => ⟨rfl, rfl⟩) (fun ⟨(p, M), hp, hM⟩ => ?_)
  dsimp only at hp hM ⊢
  (repeat' ((conv => whnf); first | refine Sp.t ?_ | refine Sp.f ?_ | refine Sp.n ?_ | refine Sp.d (fun _ => ?_) (fun _ => ?_) | refine Sp.e (fun _ => ?_) (fun _ => ?_) | refine Sp.ne (fun _ => ?_) (fun _ => ?_) | refine Sp.mk (fun _ => ?_) (fun _ => ?_) | refine And.intro (by first | omega | exact Nat.le_of_ble_eq_true rfl | (simp only [List.length_map, rowE_len, List.length_cons, List.length_nil] at *; omega)) ?_ | refine And.intro (Wd.map (fun _ => rfl)) ?_ | refine And.intro (rowE_wd _) ?_ | ((first | refine vix28 ?zb ?zd rfl ?_ | refine vix56 ?zb ?zd rfl ?_ | refine vixI ?zb ?zd rfl ?_); (case zb => first | omega | exact Nat.le_of_ble_eq_true rfl | (simp only [List.length_map, rowE_len, List.length_cons, List.length_nil] at *; omega)); (case zd => first | omega | exact Nat.le_of_ble_eq_true rfl | (simp only [List.length_map, rowE_len, List.length_cons, List.length_nil] at *; omega))) | refine And.intro (by first | omega | (simp only [List.length_map, List.length_range] at *; omega)) ?_ | ((first | refine vTe ?zb rfl ?_ | refine vTb ?zb rfl ?_ | refine vN ?zb ?_); (case zb => first | omega | (simp only [List.length_map, List.length_range] at *; omega))) | ((first | refine vNs ?zb ?zd ?_ | refine vN2 ?zb ?zd ?_); (case zb => first | omega | (simp only [List.length_map, List.length_range] at *; omega)); (case zd => first | omega | (simp only [List.length_map, List.length_range] at *; omega))) | fail))
  case' refine_2 =>
   have hpl : xs.length ≤ p := by rename_i c; rw [rowE_len] at c; omega
   rw [List.take_of_length_le hpl] at hM
   (all_goals ((conv => whnf); (try (conv => lhs; whnf))))
   exact ⟨[2], _, ⟨by show 0 + (w.length + 1) ≤ (tabN M w.length).length; rw [List.length_map, List.length_range]; omega, trivial⟩, congrArg (fun t => AV.t (.sl t)) (nest_shut M w.length), rfl, M, fun i' j' hi' hj' => by rw [hM i' j' hi' hj', or_at], rfl⟩
  have hpl : p < xs.length := by rename_i c; rw [rowE_len] at c; omega
  have hx := rd_in xs p hpl
  have hxn : tsize (rd_T28 xs (p : Int)) ≤ m := by have := tsize_mem hx; rw [tsize_eq] at hm; simp only at hm; omega
  conv => whnf
  refine CallV.of_MQ (ih _ _ _ _ (by rw [eta28]; exact hxn) (by omega) (by rw [eta28]; exact tformedL_mem hfl hx)) rfl (by repeat' constructor) (fun x ⟨X, hX, hx⟩ => ?_)
  rw [eta28] at hX
  subst hx
  (repeat' ((conv => whnf); first | refine Sp.t ?_ | refine Sp.f ?_ | refine Sp.n ?_ | refine Sp.d (fun _ => ?_) (fun _ => ?_) | refine Sp.e (fun _ => ?_) (fun _ => ?_) | refine Sp.ne (fun _ => ?_) (fun _ => ?_) | refine Sp.mk (fun _ => ?_) (fun _ => ?_) | refine And.intro (by first | omega | exact Nat.le_of_ble_eq_true rfl | (simp only [List.length_map, rowE_len, List.length_cons, List.length_nil] at *; omega)) ?_ | refine And.intro (Wd.map (fun _ => rfl)) ?_ | refine And.intro (rowE_wd _) ?_ | ((first | refine vix28 ?zb ?zd rfl ?_ | refine vix56 ?zb ?zd rfl ?_ | refine vixI ?zb ?zd rfl ?_); (case zb => first | omega | exact Nat.le_of_ble_eq_true rfl | (simp only [List.length_map, rowE_len, List.length_cons, List.length_nil] at *; omega)); (case zd => first | omega | exact Nat.le_of_ble_eq_true rfl | (simp only [List.length_map, rowE_len, List.length_cons, List.length_nil] at *; omega))) | refine And.intro (by first | omega | (simp only [List.length_map, List.length_range] at *; omega)) ?_ | ((first | refine vTe ?zb rfl ?_ | refine vTb ?zb rfl ?_ | refine vN ?zb ?_); (case zb => first | omega | (simp only [List.length_map, List.length_range] at *; omega))) | ((first | refine vNs ?zb ?zd ?_ | refine vN2 ?zb ?zd ?_); (case zb => first | omega | (simp only [List.length_map, List.length_range] at *; omega)); (case zd => first | omega | (simp only [List.length_map, List.length_range] at *; omega))) | fail))
  refine CodeV.loop (α := { x : Nat × (Nat → Nat → Bool) // x.1 ≤ w.length + 1 ∧ ∀ i j, i ≤ w.length → j ≤ w.length → (x.2 i j = true ↔ orT w (xs.take p) i j ∨ (i < x.1 ∧ inT w (rd_T28 xs (p : Int)) i j)) }) tab_ok (fun x => [(6, .rf (2, none) 1 0 (w.length + 1)), (15, .i x.1.1)]) (fun x => [.dead, .dead, .nest 1 1 (tabN x.1.2 w.length)]) [0, 1, 2] 3 (fun x => w.length + 1 - x.1.1)
   ⟨(0, M), Nat.zero_le _, fun i j hi hj => by rw [hM i j hi hj]; exact ⟨.inl, fun h => h.resolve_right fun h => absurd h.1 (Nat.not_lt_zero _)⟩⟩
   ⟨⟨rfl, rfl, trivial⟩, [], rfl⟩ rfl rfl (fun _ => ⟨rfl, rfl⟩) (fun ⟨(i, M), hi, hM⟩ => ?_)
  dsimp only at hi hM ⊢
  have hwl2 : (List.map (fun n => [T.v (.int .i64 n)]) w).length = w.length := List.length_map _
  (repeat' ((conv => whnf); first | refine Sp.t ?_ | refine Sp.f ?_ | refine Sp.n ?_ | refine Sp.d (fun _ => ?_) (fun _ => ?_) | refine Sp.e (fun _ => ?_) (fun _ => ?_) | refine Sp.ne (fun _ => ?_) (fun _ => ?_) | refine Sp.mk (fun _ => ?_) (fun _ => ?_) | refine And.intro (by first | omega | exact Nat.le_of_ble_eq_true rfl | (simp only [List.length_map, rowE_len, List.length_cons, List.length_nil] at *; omega)) ?_ | refine And.intro (Wd.map (fun _ => rfl)) ?_ | refine And.intro (rowE_wd _) ?_ | ((first | refine vix28 ?zb ?zd rfl ?_ | refine vix56 ?zb ?zd rfl ?_ | refine vixI ?zb ?zd rfl ?_); (case zb => first | omega | exact Nat.le_of_ble_eq_true rfl | (simp only [List.length_map, rowE_len, List.length_cons, List.length_nil] at *; omega)); (case zd => first | omega | exact Nat.le_of_ble_eq_true rfl | (simp only [List.length_map, rowE_len, List.length_cons, List.length_nil] at *; omega))) | refine And.intro (by first | omega | (simp only [List.length_map, List.length_range] at *; omega)) ?_ | ((first | refine vTe ?zb rfl ?_ | refine vTb ?zb rfl ?_ | refine vN ?zb ?_); (case zb => first | omega | (simp only [List.length_map, List.length_range] at *; omega))) | ((first | refine vNs ?zb ?zd ?_ | refine vN2 ?zb ?zd ?_); (case zb => first | omega | (simp only [List.length_map, List.length_range] at *; omega)); (case zd => first | omega | (simp only [List.length_map, List.length_range] at *; omega))) | fail))
  case' refine_2 =>
   rename_i c
   rw [hwl2] at c
   (all_goals ((conv => whnf); (try (conv => lhs; whnf))))
   exact ⟨⟨(p + 1, M), hpl, fun i' j' hi' hj' => by show _ ↔ orT w (xs.take (p + 1)) i' j'; rw [hM i' j' hi' hj', take_rd xs p hpl, orT_snoc]; exact or_congr Iff.rfl ⟨fun h => h.2, fun h => ⟨by omega, h⟩⟩⟩, Nat.sub_lt_sub_left (by omega) (Nat.lt_succ_self _), ⟨rfl, congrArg (fun z => AV.i z) (wrapN p (by omega)), trivial⟩, _, rfl⟩
  have hin : i ≤ w.length := by rename_i c; rw [hwl2] at c; omega
  conv => whnf
  refine CodeV.loop (α := { x : Nat × (Nat → Nat → Bool) // i ≤ x.1 ∧ x.1 ≤ w.length + 1 ∧ ∀ i' j', i' ≤ w.length → j' ≤ w.length → (x.2 i' j' = true ↔ orT w (xs.take p) i' j' ∨ ((i' < i ∨ (i' = i ∧ j' < x.1)) ∧ inT w (rd_T28 xs (p : Int)) i' j')) }) tab_ok (fun x => [(6, .rf (2, none) 1 0 (w.length + 1)), (16, .i x.1.1)]) (fun x => [.dead, .dead, .nest 1 1 (tabN x.1.2 w.length)]) [0, 1, 2] 3 (fun x => w.length + 1 - x.1.1)
   ⟨(i, M), Nat.le_refl _, hi, fun i' j' hi' hj' => by
     rw [hM i' j' hi' hj']
     refine or_congr Iff.rfl ⟨fun h => ⟨.inl h.1, h.2⟩, fun h => ⟨?_, h.2⟩⟩
     have := inT_le w _ i' j' hi' h.2
     omega⟩
   ⟨⟨rfl, rfl, trivial⟩, [], rfl⟩ rfl rfl (fun _ => ⟨rfl, rfl⟩) (fun ⟨(k, M), hk1, hk2, hM⟩ => ?_)
  dsimp only at hk1 hk2 hM ⊢
  (repeat' ((conv => whnf); first | refine Sp.t ?_ | refine Sp.f ?_ | refine Sp.n ?_ | refine Sp.d (fun _ => ?_) (fun _ => ?_) | refine Sp.e (fun _ => ?_) (fun _ => ?_) | refine Sp.ne (fun _ => ?_) (fun _ => ?_) | refine Sp.mk (fun _ => ?_) (fun _ => ?_) | refine And.intro (by first | omega | exact Nat.le_of_ble_eq_true rfl | (simp only [List.length_map, rowE_len, List.length_cons, List.length_nil] at *; omega)) ?_ | refine And.intro (Wd.map (fun _ => rfl)) ?_ | refine And.intro (rowE_wd _) ?_ | ((first | refine vix28 ?zb ?zd rfl ?_ | refine vix56 ?zb ?zd rfl ?_ | refine vixI ?zb ?zd rfl ?_); (case zb => first | omega | exact Nat.le_of_ble_eq_true rfl | (simp only [List.length_map, rowE_len, List.length_cons, List.length_nil] at *; omega)); (case zd => first | omega | exact Nat.le_of_ble_eq_true rfl | (simp only [List.length_map, rowE_len, List.length_cons, List.length_nil] at *; omega))) | refine And.intro (by first | omega | (simp only [List.length_map, List.length_range] at *; omega)) ?_ | ((first | refine vTe ?zb rfl ?_ | refine vTb ?zb rfl ?_ | refine vN ?zb ?_); (case zb => first | omega | (simp only [List.length_map, List.length_range] at *; omega))) | ((first | refine vNs ?zb ?zd ?_ | refine vN2 ?zb ?zd ?_); (case zb => first | omega | (simp only [List.length_map, List.length_range] at *; omega)); (case zd => first | omega | (simp only [List.length_map, List.length_range] at *; omega))) | fail))
  case' refine_2 =>
   rename_i c
   rw [hwl2] at c
   (all_goals ((conv => whnf); (try (conv => lhs; whnf))))
   exact ⟨⟨(i + 1, M), Nat.succ_le_succ hin, fun i' j' hi' hj' => by rw [hM i' j' hi' hj']; exact or_congr Iff.rfl ⟨fun h => ⟨by omega, h.2⟩, fun h => ⟨by omega, h.2⟩⟩⟩, Nat.sub_lt_sub_left (Nat.lt_succ_of_le hin) (Nat.lt_succ_self _), ⟨rfl, congrArg (fun z => AV.i z) (wrapN i (by omega)), trivial⟩, _, rfl⟩
  have hkn : k ≤ w.length := by rename_i c; rw [hwl2] at c; omega
  have step : ∀ b : Bool, (b = true ↔ M i k = true ∨ X i k = true) → ∀ i' j', i' ≤ w.length → j' ≤ w.length → (up M i k b i' j' = true ↔ orT w (xs.take p) i' j' ∨ ((i' < i ∨ (i' = i ∧ j' < k + 1)) ∧ inT w (rd_T28 xs (p : Int)) i' j')) := fun b hb =>
   up_ok hM (by
    rw [hb, hM i k hin hkn, hX i k hin hkn]
    constructor
    ·rintro ((h | h) | h)
     ·exact .inl h
     ·exact .inr ⟨.inr ⟨rfl, Nat.lt_succ_self _⟩, h.2⟩
     ·exact .inr ⟨.inr ⟨rfl, Nat.lt_succ_self _⟩, h⟩
    ·rintro (h | h)
     ·exact .inl (.inl h)
     ·exact .inr h.2) (fun i' j' _ _ hne => or_congr Iff.rfl ⟨fun h => ⟨by omega, h.2⟩, fun h => ⟨by omega, h.2⟩⟩)
  conv => whnf
  (refine CodeV.draw tab_ok (tk [0,1,2,3,4,5,6,7,8,9,10,11,12,13,14,15,16,17,18,19,20,21] (.only 22 .nil)) [0, 0, 3, 7, 0, 0, 0, 96, 224, 0, 992, 2016, 4064, 8160, 8160, 32736, 65504, 8160, 262112, 524256, 1048544, 2097151, 4194303] ⟨by kernel_rfl, by kernel_rfl, by kernel_rfl, by kernel_rfl, by kernel_rfl, by kernel_rfl⟩ ?_)
  (repeat' ((conv => whnf); first | refine Sp.t ?_ | refine Sp.f ?_ | refine Sp.n ?_ | refine Sp.d (fun _ => ?_) (fun _ => ?_) | refine Sp.e (fun _ => ?_) (fun _ => ?_) | refine Sp.ne (fun _ => ?_) (fun _ => ?_) | refine Sp.mk (fun _ => ?_) (fun _ => ?_) | refine And.intro (by first | omega | exact Nat.le_of_ble_eq_true rfl | (simp only [List.length_map, rowE_len, List.length_cons, List.length_nil] at *; omega)) ?_ | refine And.intro (Wd.map (fun _ => rfl)) ?_ | refine And.intro (rowE_wd _) ?_ | ((first | refine vix28 ?zb ?zd rfl ?_ | refine vix56 ?zb ?zd rfl ?_ | refine vixI ?zb ?zd rfl ?_); (case zb => first | omega | exact Nat.le_of_ble_eq_true rfl | (simp only [List.length_map, rowE_len, List.length_cons, List.length_nil] at *; omega)); (case zd => first | omega | exact Nat.le_of_ble_eq_true rfl | (simp only [List.length_map, rowE_len, List.length_cons, List.length_nil] at *; omega))) | refine And.intro (by first | omega | (simp only [List.length_map, List.length_range] at *; omega)) ?_ | ((first | refine vTe ?zb rfl ?_ | refine vTb ?zb rfl ?_ | refine vN ?zb ?_); (case zb => first | omega | (simp only [List.length_map, List.length_range] at *; omega))) | ((first | refine vNs ?zb ?zd ?_ | refine vN2 ?zb ?zd ?_); (case zb => first | omega | (simp only [List.length_map, List.length_range] at *; omega)); (case zd => first | omega | (simp only [List.length_map, List.length_range] at *; omega))) | fail))
  ·have c1 : M i k = true := by assumption
   (all_goals ((conv => whnf); (try (conv => lhs; whnf))))
   exact ⟨⟨(k + 1, up M i k true), by omega, Nat.succ_le_succ hkn, step _ (by simp only [c1, true_or])⟩, Nat.sub_lt_sub_left (Nat.lt_succ_of_le hkn) (Nat.lt_succ_self _), ⟨rfl, congrArg (fun z => AV.i z) (wrapN k (by omega)), trivial⟩, _, rfl⟩
  ·have c1 : M i k = false := by assumption
   (all_goals ((conv => whnf); (try (conv => lhs; whnf))))
   exact ⟨⟨(k + 1, up M i k (X i k)), by omega, Nat.succ_le_succ hkn, step _ (by simp only [c1, Bool.false_eq_true, false_or])⟩, Nat.sub_lt_sub_left (Nat.lt_succ_of_le hkn) (Nat.lt_succ_self _), ⟨rfl, congrArg (fun z => AV.i z) (wrapN k (by omega)), trivial⟩, _, rfl⟩
 ·exact absurd ‹e0 = 7› ‹¬ e0 = 7›
 ·obtain rfl : i = 0 := by unfold dK at hd; omega
  (all_goals ((conv => whnf); (try (conv => lhs; whnf))))
  exact ⟨[2], _, ⟨by show 0 + (w.length + 1) ≤ (tabN M w.length).length; rw [List.length_map, List.length_range]; omega, trivial⟩, congrArg (fun t => AV.t (.sl t)) (nest_shut M w.length), rfl, M, fun i' j' hi' hj' => by rw [hM i' j' hi' hj']; exact ⟨fun h => absurd h.2 (Nat.not_lt_zero _), fun h => absurd h (none_at _ _ _ _ _ _ (by assumption) (by assumption) (by assumption) (by assumption) (by assumption) (by assumption))⟩, rfl⟩
 ·exfalso; unfold dK at hd; simp only [List.length_map] at *; omega
 ·exfalso; unfold dK at hd; simp only [List.length_map] at *; omega
 ·have hk : e0 = 5 := by assumption
  subst hk
  have hxl : xs.length ≤ 1000000 := by have := len_tsizeL xs; rw [tsize_eq] at hm; simp only at hm; omega
  have hid : ∀ i' j', i' ≤ w.length → j' ≤ w.length → (M i' j' = true ↔ i' = j') := fun i' j' hi' hj' => by
   rw [hM i' j' hi' hj']
   have c : ¬ ((i : Int) ≤ ((List.map (fun n => [T.v (.int .i64 n)]) w).length : Int)) := (by assumption)
   rw [List.length_map] at c
   exact ⟨fun h => h.1, fun h => ⟨h, by omega⟩⟩
  conv => whnf
  refine CodeV.see (See.close 2 [(6, .t (tabT M w.length))] rfl ⟨congrArg (fun t => AV.t (.sl t)) (nest_shut M w.length), rfl, (by show 0 + (w.length + 1) ≤ (tabN M w.length).length; rw [List.length_map, List.length_range]; omega), trivial⟩) ?_
  refine CodeV.loop (α := { x : Nat × (Nat → Nat → Bool) // x.1 ≤ xs.length ∧ ∀ i j, i ≤ w.length → j ≤ w.length → (x.2 i j = true ↔ catT w (xs.take x.1) i j) }) tab_ok (fun x => [(6, .t (tabT x.1.2 w.length)), (12, .i x.1.1)]) (fun _ => [.dead, .dead, .dead]) [0, 1, 2] 3 (fun x => xs.length - x.1.1)
   ⟨(0, M), Nat.zero_le _, fun i j hi hj => by rw [hid i j hi hj, List.take_zero, catT]⟩
   ⟨⟨rfl, rfl, trivial⟩, [], rfl⟩ rfl rfl (fun _ => ⟨rfl, rfl⟩) (fun ⟨(p, M), hp, hM⟩ => ?_)
  dsimp only at hp hM ⊢
  (repeat' ((conv => whnf); first | refine Sp.t ?_ | refine Sp.f ?_ | refine Sp.n ?_ | refine Sp.d (fun _ => ?_) (fun _ => ?_) | refine Sp.e (fun _ => ?_) (fun _ => ?_) | refine Sp.ne (fun _ => ?_) (fun _ => ?_) | refine Sp.mk (fun _ => ?_) (fun _ => ?_) | refine And.intro (by first | omega | exact Nat.le_of_ble_eq_true rfl | (simp only [List.length_map, rowE_len, List.length_cons, List.length_nil] at *; omega)) ?_ | refine And.intro (Wd.map (fun _ => rfl)) ?_ | refine And.intro (rowE_wd _) ?_ | ((first | refine vix28 ?zb ?zd rfl ?_ | refine vix56 ?zb ?zd rfl ?_ | refine vixI ?zb ?zd rfl ?_); (case zb => first | omega | exact Nat.le_of_ble_eq_true rfl | (simp only [List.length_map, rowE_len, List.length_cons, List.length_nil] at *; omega)); (case zd => first | omega | exact Nat.le_of_ble_eq_true rfl | (simp only [List.length_map, rowE_len, List.length_cons, List.length_nil] at *; omega))) | refine And.intro (by first | omega | (simp only [List.length_map, List.length_range] at *; omega)) ?_ | ((first | refine vTe ?zb rfl ?_ | refine vTb ?zb rfl ?_ | refine vN ?zb ?_); (case zb => first | omega | (simp only [List.length_map, List.length_range] at *; omega))) | ((first | refine vNs ?zb ?zd ?_ | refine vN2 ?zb ?zd ?_); (case zb => first | omega | (simp only [List.length_map, List.length_range] at *; omega)); (case zd => first | omega | (simp only [List.length_map, List.length_range] at *; omega))) | fail))
  case' refine_2 =>
   have hpl : xs.length ≤ p := by rename_i c; rw [rowE_len] at c; omega
   rw [List.take_of_length_le hpl] at hM
   (all_goals ((conv => whnf); (try (conv => lhs; whnf))))
   exact ⟨[], _, ⟨trivial, trivial⟩, rfl, rfl, M, fun i' j' hi' hj' => by rw [hM i' j' hi' hj', hasC_eq], rfl⟩
  have hpl : p < xs.length := by rename_i c; rw [rowE_len] at c; omega
  have hx := rd_in xs p hpl
  have hxn : tsize (rd_T28 xs (p : Int)) ≤ m := by have := tsize_mem hx; rw [tsize_eq] at hm; simp only at hm; omega
  conv => whnf
  refine CallV.of_MQ (ih _ _ _ _ (by rw [eta28]; exact hxn) (by omega) (by rw [eta28]; exact tformedL_mem hfl hx)) rfl (by repeat' constructor) (fun x ⟨X, hX, hx⟩ => ?_)
  rw [eta28] at hX
  subst hx
  (repeat' ((conv => whnf); first | refine Sp.t ?_ | refine Sp.f ?_ | refine Sp.n ?_ | refine Sp.d (fun _ => ?_) (fun _ => ?_) | refine Sp.e (fun _ => ?_) (fun _ => ?_) | refine Sp.ne (fun _ => ?_) (fun _ => ?_) | refine Sp.mk (fun _ => ?_) (fun _ => ?_) | refine And.intro (by first | omega | exact Nat.le_of_ble_eq_true rfl | (simp only [List.length_map, rowE_len, List.length_cons, List.length_nil] at *; omega)) ?_ | refine And.intro (Wd.map (fun _ => rfl)) ?_ | refine And.intro (rowE_wd _) ?_ | ((first | refine vix28 ?zb ?zd rfl ?_ | refine vix56 ?zb ?zd rfl ?_ | refine vixI ?zb ?zd rfl ?_); (case zb => first | omega | exact Nat.le_of_ble_eq_true rfl | (simp only [List.length_map, rowE_len, List.length_cons, List.length_nil] at *; omega)); (case zd => first | omega | exact Nat.le_of_ble_eq_true rfl | (simp only [List.length_map, rowE_len, List.length_cons, List.length_nil] at *; omega))) | refine And.intro (by first | omega | (simp only [List.length_map, List.length_range] at *; omega)) ?_ | ((first | refine vTe ?zb rfl ?_ | refine vTb ?zb rfl ?_ | refine vN ?zb ?_); (case zb => first | omega | (simp only [List.length_map, List.length_range] at *; omega))) | ((first | refine vNs ?zb ?zd ?_ | refine vN2 ?zb ?zd ?_); (case zb => first | omega | (simp only [List.length_map, List.length_range] at *; omega)); (case zd => first | omega | (simp only [List.length_map, List.length_range] at *; omega))) | fail))
  conv => whnf
  refine CallV.of_MQ (behindV M X w.length hw) rfl (by repeat' constructor) (fun x ⟨R, hR, hx⟩ => ?_)
  subst hx
  (repeat' ((conv => whnf); first | refine Sp.t ?_ | refine Sp.f ?_ | refine Sp.n ?_ | refine Sp.d (fun _ => ?_) (fun _ => ?_) | refine Sp.e (fun _ => ?_) (fun _ => ?_) | refine Sp.ne (fun _ => ?_) (fun _ => ?_) | refine Sp.mk (fun _ => ?_) (fun _ => ?_) | refine And.intro (by first | omega | exact Nat.le_of_ble_eq_true rfl | (simp only [List.length_map, rowE_len, List.length_cons, List.length_nil] at *; omega)) ?_ | refine And.intro (Wd.map (fun _ => rfl)) ?_ | refine And.intro (rowE_wd _) ?_ | ((first | refine vix28 ?zb ?zd rfl ?_ | refine vix56 ?zb ?zd rfl ?_ | refine vixI ?zb ?zd rfl ?_); (case zb => first | omega | exact Nat.le_of_ble_eq_true rfl | (simp only [List.length_map, rowE_len, List.length_cons, List.length_nil] at *; omega)); (case zd => first | omega | exact Nat.le_of_ble_eq_true rfl | (simp only [List.length_map, rowE_len, List.length_cons, List.length_nil] at *; omega))) | refine And.intro (by first | omega | (simp only [List.length_map, List.length_range] at *; omega)) ?_ | ((first | refine vTe ?zb rfl ?_ | refine vTb ?zb rfl ?_ | refine vN ?zb ?_); (case zb => first | omega | (simp only [List.length_map, List.length_range] at *; omega))) | ((first | refine vNs ?zb ?zd ?_ | refine vN2 ?zb ?zd ?_); (case zb => first | omega | (simp only [List.length_map, List.length_range] at *; omega)); (case zd => first | omega | (simp only [List.length_map, List.length_range] at *; omega))) | fail))
  (all_goals ((conv => whnf); (try (conv => lhs; whnf))))
  exact ⟨⟨(p + 1, R), hpl, fun i' j' hi' hj' => by
   show _ ↔ catT w (xs.take (p + 1)) i' j'
   rw [hR i' j' hi' hj', take_rd xs p hpl, catT_snoc]
   constructor
   ·rintro ⟨k, h1, h2, h3, h4, _⟩
    exact ⟨k, (hM i' k hi' (by omega)).1 h3, (hX k j' (by omega) hj').1 h4⟩
   ·rintro ⟨k, h3, h4⟩
    have l1 := catT_le w _ i' k hi' h3
    have l2 := inT_le w _ k j' l1.2 h4
    exact ⟨k, l1.1, l2.1, (hM i' k hi' l1.2).2 h3, (hX k j' l1.2 hj').2 h4, trivial⟩⟩, Nat.sub_lt_sub_left (by omega) (Nat.lt_succ_self _), ⟨rfl, congrArg (fun z => AV.i z) (wrapN p (by omega)), trivial⟩, _, rfl⟩
 ·exfalso; unfold dK at hd; simp only [List.length_map] at *; omega
 ·have hk : e0 = 7 := by assumption
  subst hk
  have hid : ∀ i' j', i' ≤ w.length → j' ≤ w.length → (M i' j' = true ↔ i' = j') := fun i' j' hi' hj' => by
   rw [hM i' j' hi' hj']
   have c : ¬ ((i : Int) ≤ ((List.map (fun n => [T.v (.int .i64 n)]) w).length : Int)) := (by assumption)
   rw [List.length_map] at c
   exact ⟨fun h => h.1, fun h => ⟨h, by omega⟩⟩
  obtain ⟨x0, x1, x2, xl, rfl⟩ := sh_one hs (.inr rfl)
  rw [tsize_eq] at hm
  rw [tformedL, tformedL, Bool.and_true] at hfl
  have hx : tsize ⟨x0, x1, x2, xl⟩ ≤ m := by simp only [tsizeL] at hm; omega
  conv => whnf
  refine And.intro (by rw [rowE_len]; exact Int.one_pos) (vix28 (Int.le_refl _) Int.one_pos rfl ?_)
  (repeat' ((conv => whnf); first | refine Sp.t ?_ | refine Sp.f ?_ | refine Sp.n ?_ | refine Sp.d (fun _ => ?_) (fun _ => ?_) | refine Sp.e (fun _ => ?_) (fun _ => ?_) | refine Sp.ne (fun _ => ?_) (fun _ => ?_) | refine Sp.mk (fun _ => ?_) (fun _ => ?_) | refine And.intro (by first | omega | exact Nat.le_of_ble_eq_true rfl | (simp only [List.length_map, rowE_len, List.length_cons, List.length_nil] at *; omega)) ?_ | refine And.intro (Wd.map (fun _ => rfl)) ?_ | refine And.intro (rowE_wd _) ?_ | ((first | refine vix28 ?zb ?zd rfl ?_ | refine vix56 ?zb ?zd rfl ?_ | refine vixI ?zb ?zd rfl ?_); (case zb => first | omega | exact Nat.le_of_ble_eq_true rfl | (simp only [List.length_map, rowE_len, List.length_cons, List.length_nil] at *; omega)); (case zd => first | omega | exact Nat.le_of_ble_eq_true rfl | (simp only [List.length_map, rowE_len, List.length_cons, List.length_nil] at *; omega))) | refine And.intro (by first | omega | (simp only [List.length_map, List.length_range] at *; omega)) ?_ | ((first | refine vTe ?zb rfl ?_ | refine vTb ?zb rfl ?_ | refine vN ?zb ?_); (case zb => first | omega | (simp only [List.length_map, List.length_range] at *; omega))) | ((first | refine vNs ?zb ?zd ?_ | refine vN2 ?zb ?zd ?_); (case zb => first | omega | (simp only [List.length_map, List.length_range] at *; omega)); (case zd => first | omega | (simp only [List.length_map, List.length_range] at *; omega))) | fail))
  conv => whnf
  refine CallV.of_MQ (ih x0 x1 x2 xl hx (by omega) hfl) rfl (by repeat' constructor) (fun x ⟨X, hX, hx⟩ => ?_)
  subst hx
  (repeat' ((conv => whnf); first | refine Sp.t ?_ | refine Sp.f ?_ | refine Sp.n ?_ | refine Sp.d (fun _ => ?_) (fun _ => ?_) | refine Sp.e (fun _ => ?_) (fun _ => ?_) | refine Sp.ne (fun _ => ?_) (fun _ => ?_) | refine Sp.mk (fun _ => ?_) (fun _ => ?_) | refine And.intro (by first | omega | exact Nat.le_of_ble_eq_true rfl | (simp only [List.length_map, rowE_len, List.length_cons, List.length_nil] at *; omega)) ?_ | refine And.intro (Wd.map (fun _ => rfl)) ?_ | refine And.intro (rowE_wd _) ?_ | ((first | refine vix28 ?zb ?zd rfl ?_ | refine vix56 ?zb ?zd rfl ?_ | refine vixI ?zb ?zd rfl ?_); (case zb => first | omega | exact Nat.le_of_ble_eq_true rfl | (simp only [List.length_map, rowE_len, List.length_cons, List.length_nil] at *; omega)); (case zd => first | omega | exact Nat.le_of_ble_eq_true rfl | (simp only [List.length_map, rowE_len, List.length_cons, List.length_nil] at *; omega))) | refine And.intro (by first | omega | (simp only [List.length_map, List.length_range] at *; omega)) ?_ | ((first | refine vTe ?zb rfl ?_ | refine vTb ?zb rfl ?_ | refine vN ?zb ?_); (case zb => first | omega | (simp only [List.length_map, List.length_range] at *; omega))) | ((first | refine vNs ?zb ?zd ?_ | refine vN2 ?zb ?zd ?_); (case zb => first | omega | (simp only [List.length_map, List.length_range] at *; omega)); (case zd => first | omega | (simp only [List.length_map, List.length_range] at *; omega))) | fail))
  refine CodeV.see (See.close 2 [(6, .t (tabT M w.length))] rfl ⟨congrArg (fun t => AV.t (.sl t)) (nest_shut M w.length), rfl, (by show 0 + (w.length + 1) ≤ (tabN M w.length).length; rw [List.length_map, List.length_range]; omega), trivial⟩) ?_
  refine CodeV.loop (α := { x : Nat × (Nat → Nat → Bool) // x.1 ≤ w.length ∧ ∀ i j, i ≤ w.length → j ≤ w.length → (x.2 i j = true ↔ Ch (orT w [⟨x0, x1, x2, xl⟩]) x.1 i j) }) tab_ok (fun x => [(6, .t (tabT x.1.2 w.length)), (18, .i x.1.1)]) (fun _ => [.dead, .dead, .dead]) [0, 1, 2] 3 (fun x => w.length - x.1.1)
   ⟨(0, M), Nat.zero_le _, fun i j hi hj => by rw [hid i j hi hj]; exact Iff.rfl⟩
   ⟨⟨rfl, rfl, trivial⟩, [], rfl⟩ rfl rfl (fun _ => ⟨rfl, rfl⟩) (fun ⟨(p, M), hp, hM⟩ => ?_)
  dsimp only at hp hM ⊢
  have hwl2 : (List.map (fun n => [T.v (.int .i64 n)]) w).length = w.length := List.length_map _
  (repeat' ((conv => whnf); first | refine Sp.t ?_ | refine Sp.f ?_ | refine Sp.n ?_ | refine Sp.d (fun _ => ?_) (fun _ => ?_) | refine Sp.e (fun _ => ?_) (fun _ => ?_) | refine Sp.ne (fun _ => ?_) (fun _ => ?_) | refine Sp.mk (fun _ => ?_) (fun _ => ?_) | refine And.intro (by first | omega | exact Nat.le_of_ble_eq_true rfl | (simp only [List.length_map, rowE_len, List.length_cons, List.length_nil] at *; omega)) ?_ | refine And.intro (Wd.map (fun _ => rfl)) ?_ | refine And.intro (rowE_wd _) ?_ | ((first | refine vix28 ?zb ?zd rfl ?_ | refine vix56 ?zb ?zd rfl ?_ | refine vixI ?zb ?zd rfl ?_); (case zb => first | omega | exact Nat.le_of_ble_eq_true rfl | (simp only [List.length_map, rowE_len, List.length_cons, List.length_nil] at *; omega)); (case zd => first | omega | exact Nat.le_of_ble_eq_true rfl | (simp only [List.length_map, rowE_len, List.length_cons, List.length_nil] at *; omega))) | refine And.intro (by first | omega | (simp only [List.length_map, List.length_range] at *; omega)) ?_ | ((first | refine vTe ?zb rfl ?_ | refine vTb ?zb rfl ?_ | refine vN ?zb ?_); (case zb => first | omega | (simp only [List.length_map, List.length_range] at *; omega))) | ((first | refine vNs ?zb ?zd ?_ | refine vN2 ?zb ?zd ?_); (case zb => first | omega | (simp only [List.length_map, List.length_range] at *; omega)); (case zd => first | omega | (simp only [List.length_map, List.length_range] at *; omega))) | fail))
  case' refine_2 =>
   obtain rfl : p = w.length := by rename_i c; rw [hwl2] at c; omega
   (all_goals ((conv => whnf); (try (conv => lhs; whnf))))
   exact ⟨[], _, ⟨trivial, trivial⟩, rfl, rfl, M, fun i' j' hi' hj' => by rw [hM i' j' hi' hj', star_eq]; exact ch_star (fun i j hi h => orT_le w _ i j hi h) hi', rfl⟩
  have hpl : p < w.length := by rename_i c; rw [hwl2] at c; omega
  conv => whnf
  refine CallV.of_MQ (starV M X w.length hw) rfl (by repeat' constructor) (fun x ⟨R, hR, hx⟩ => ?_)
  subst hx
  (repeat' ((conv => whnf); first | refine Sp.t ?_ | refine Sp.f ?_ | refine Sp.n ?_ | refine Sp.d (fun _ => ?_) (fun _ => ?_) | refine Sp.e (fun _ => ?_) (fun _ => ?_) | refine Sp.ne (fun _ => ?_) (fun _ => ?_) | refine Sp.mk (fun _ => ?_) (fun _ => ?_) | refine And.intro (by first | omega | exact Nat.le_of_ble_eq_true rfl | (simp only [List.length_map, rowE_len, List.length_cons, List.length_nil] at *; omega)) ?_ | refine And.intro (Wd.map (fun _ => rfl)) ?_ | refine And.intro (rowE_wd _) ?_ | ((first | refine vix28 ?zb ?zd rfl ?_ | refine vix56 ?zb ?zd rfl ?_ | refine vixI ?zb ?zd rfl ?_); (case zb => first | omega | exact Nat.le_of_ble_eq_true rfl | (simp only [List.length_map, rowE_len, List.length_cons, List.length_nil] at *; omega)); (case zd => first | omega | exact Nat.le_of_ble_eq_true rfl | (simp only [List.length_map, rowE_len, List.length_cons, List.length_nil] at *; omega))) | refine And.intro (by first | omega | (simp only [List.length_map, List.length_range] at *; omega)) ?_ | ((first | refine vTe ?zb rfl ?_ | refine vTb ?zb rfl ?_ | refine vN ?zb ?_); (case zb => first | omega | (simp only [List.length_map, List.length_range] at *; omega))) | ((first | refine vNs ?zb ?zd ?_ | refine vN2 ?zb ?zd ?_); (case zb => first | omega | (simp only [List.length_map, List.length_range] at *; omega)); (case zd => first | omega | (simp only [List.length_map, List.length_range] at *; omega))) | fail))
  (all_goals ((conv => whnf); (try (conv => lhs; whnf))))
  exact ⟨⟨(p + 1, R), hpl, fun i' j' hi' hj' => by
   rw [hR i' j' hi' hj']
   show _ ↔ Ch _ p i' j' ∨ ∃ k, Ch _ p i' k ∧ orT w [_] k j'
   constructor
   ·rintro (⟨k, h1, h2, h3, h4⟩ | rfl | ⟨h1, h2⟩)
    ·exact .inr ⟨k, (hM i' k hi' (by omega)).1 h3, (orT_one _ _ _ _).2 ((hX k j' (by omega) hj').1 h4)⟩
    ·exact .inl (Ch.refl _ _ _)
    ·exact .inl ((hM i' j' hi' hj').1 h2)
   ·rintro (h | ⟨k, h3, h4⟩)
    ·have l1 := star_le (orT_le w _) hi' h.star
     exact .inr (.inr ⟨l1.1, (hM i' j' hi' hj').2 h⟩)
    ·have l1 := star_le (orT_le w _) hi' h3.star
     have h5 := (orT_one _ _ _ _).1 h4
     have l2 := inT_le w _ k j' l1.2 h5
     exact .inl ⟨k, l1.1, l2.1, (hM i' k hi' l1.2).2 h3, (hX k j' l1.2 hj').2 h5⟩⟩, Nat.sub_lt_sub_left (by omega) (Nat.lt_succ_self _), ⟨rfl, congrArg (fun z => AV.i z) (wrapN p (by omega)), trivial⟩, _, rfl⟩
 ·have hk : e0 = 2 := by unfold dK at hd; simp only [List.length_map] at *; omega
  subst hk
  have hid : ∀ i' j', i' ≤ w.length → j' ≤ w.length → (M i' j' = true ↔ i' = j') := fun i' j' hi' hj' => by
   rw [hM i' j' hi' hj']
   have c : ¬ ((i : Int) ≤ ((List.map (fun n => [T.v (.int .i64 n)]) w).length : Int)) := (by assumption)
   rw [List.length_map] at c
   exact ⟨fun h => h.1, fun h => ⟨h, by omega⟩⟩
  (all_goals ((conv => whnf); (try (conv => lhs; whnf))))
  exact ⟨[2], _, ⟨by show 0 + (w.length + 1) ≤ (tabN M w.length).length; rw [List.length_map, List.length_range]; omega, trivial⟩, congrArg (fun t => AV.t (.sl t)) (nest_shut M w.length), rfl, M, fun i' j' hi' hj' => by rw [hid i' j' hi' hj', void_at], rfl⟩
theorem rHasT {e : S28} {w : List Int} (hw : w.length ≤ 1000000) (hf : tformed e = true) (ht : tsize e ≤ 1000000) : MV Try.prog 28 [treeA e.f0 e.f1 e.f2 e.f3, .t (intsE w)] (.b (hasB e w)) := by
 obtain ⟨e0, e1, e2, xs⟩ := e
 refine M.enter tab_ok Try.func28 rfl (by kernel_rfl) (Nat.le_of_ble_eq_true rfl) ?_
 have h2 : True := trivial
 (repeat' ((conv => whnf); first | refine Sp.t ?_ | refine Sp.f ?_ | refine Sp.n ?_ | refine Sp.d (fun _ => ?_) (fun _ => ?_) | refine Sp.e (fun _ => ?_) (fun _ => ?_) | refine Sp.ne (fun _ => ?_) (fun _ => ?_) | refine Sp.mk (fun _ => ?_) (fun _ => ?_) | refine And.intro (by first | omega | exact Nat.le_of_ble_eq_true rfl | (simp only [List.length_map, rowE_len, List.length_cons, List.length_nil] at *; omega)) ?_ | refine And.intro (Wd.map (fun _ => rfl)) ?_ | refine And.intro (rowE_wd _) ?_ | ((first | refine vix28 ?zb ?zd rfl ?_ | refine vix56 ?zb ?zd rfl ?_ | refine vixI ?zb ?zd rfl ?_); (case zb => first | omega | exact Nat.le_of_ble_eq_true rfl | (simp only [List.length_map, rowE_len, List.length_cons, List.length_nil] at *; omega)); (case zd => first | omega | exact Nat.le_of_ble_eq_true rfl | (simp only [List.length_map, rowE_len, List.length_cons, List.length_nil] at *; omega))) | fail))
 conv => whnf
 refine CallV.of_MQ (has50 w hw _ e0 e1 e2 xs (Nat.le_refl _) ht hf) rfl (by repeat' constructor) (fun x ⟨R, hR, hx⟩ => ?_)
 subst hx
 (repeat' ((conv => whnf); first | refine Sp.t ?_ | refine Sp.f ?_ | refine Sp.n ?_ | refine Sp.d (fun _ => ?_) (fun _ => ?_) | refine Sp.e (fun _ => ?_) (fun _ => ?_) | refine Sp.ne (fun _ => ?_) (fun _ => ?_) | refine Sp.mk (fun _ => ?_) (fun _ => ?_) | refine And.intro (by first | omega | exact Nat.le_of_ble_eq_true rfl | (simp only [List.length_map, rowE_len, List.length_cons, List.length_nil] at *; omega)) ?_ | refine And.intro (Wd.map (fun _ => rfl)) ?_ | refine And.intro (rowE_wd _) ?_ | ((first | refine vix28 ?zb ?zd rfl ?_ | refine vix56 ?zb ?zd rfl ?_ | refine vixI ?zb ?zd rfl ?_); (case zb => first | omega | exact Nat.le_of_ble_eq_true rfl | (simp only [List.length_map, rowE_len, List.length_cons, List.length_nil] at *; omega)); (case zd => first | omega | exact Nat.le_of_ble_eq_true rfl | (simp only [List.length_map, rowE_len, List.length_cons, List.length_nil] at *; omega))) | fail))
 conv => whnf
 refine And.intro (by rw [tab_len]; omega) (vTe (i := 0) (Nat.zero_le _) rfl ?_)
 (repeat' ((conv => whnf); first | refine Sp.t ?_ | refine Sp.f ?_ | refine Sp.n ?_ | refine Sp.d (fun _ => ?_) (fun _ => ?_) | refine Sp.e (fun _ => ?_) (fun _ => ?_) | refine Sp.ne (fun _ => ?_) (fun _ => ?_) | refine Sp.mk (fun _ => ?_) (fun _ => ?_) | refine And.intro (by first | omega | exact Nat.le_of_ble_eq_true rfl | (simp only [List.length_map, rowE_len, List.length_cons, List.length_nil] at *; omega)) ?_ | refine And.intro (Wd.map (fun _ => rfl)) ?_ | refine And.intro (rowE_wd _) ?_ | ((first | refine vix28 ?zb ?zd rfl ?_ | refine vix56 ?zb ?zd rfl ?_ | refine vixI ?zb ?zd rfl ?_); (case zb => first | omega | exact Nat.le_of_ble_eq_true rfl | (simp only [List.length_map, rowE_len, List.length_cons, List.length_nil] at *; omega)); (case zd => first | omega | exact Nat.le_of_ble_eq_true rfl | (simp only [List.length_map, rowE_len, List.length_cons, List.length_nil] at *; omega))) | fail))
 conv => whnf
 have hwl : ((List.map (fun n => [T.v (.int .i64 n)]) w).length : Int) = (w.length : Int) := by rw [List.length_map]
 rw [hwl]
 refine And.intro (by rw [bR_len]; omega) (vTb (Nat.le_refl _) rfl ?_)
 (repeat' ((conv => whnf); first | refine Sp.t ?_ | refine Sp.f ?_ | refine Sp.n ?_ | refine Sp.d (fun _ => ?_) (fun _ => ?_) | refine Sp.e (fun _ => ?_) (fun _ => ?_) | refine Sp.ne (fun _ => ?_) (fun _ => ?_) | refine Sp.mk (fun _ => ?_) (fun _ => ?_) | refine And.intro (by first | omega | exact Nat.le_of_ble_eq_true rfl | (simp only [List.length_map, rowE_len, List.length_cons, List.length_nil] at *; omega)) ?_ | refine And.intro (Wd.map (fun _ => rfl)) ?_ | refine And.intro (rowE_wd _) ?_ | ((first | refine vix28 ?zb ?zd rfl ?_ | refine vix56 ?zb ?zd rfl ?_ | refine vixI ?zb ?zd rfl ?_); (case zb => first | omega | exact Nat.le_of_ble_eq_true rfl | (simp only [List.length_map, rowE_len, List.length_cons, List.length_nil] at *; omega)); (case zd => first | omega | exact Nat.le_of_ble_eq_true rfl | (simp only [List.length_map, rowE_len, List.length_cons, List.length_nil] at *; omega))) | fail))
 (all_goals ((conv => whnf); (try (conv => lhs; whnf))))
 exact congrArg AV.b (by rw [Bool.eq_iff_iff, hasB_iff]; exact hR 0 w.length (Nat.zero_le _) (Nat.le_refl _))
end Go.V.S

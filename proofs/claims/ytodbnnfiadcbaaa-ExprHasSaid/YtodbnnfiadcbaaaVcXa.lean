import Derived.Test.YtodbnnfiadcbaaaVcWb
import Derived.Test.YtodbnnfiadcbaaaVcP4
set_option linter.unusedVariables false
set_option linter.unusedSimpArgs false
set_option linter.unusedSectionVars false
namespace Go.V.S
open Go.Proofs Go.RowKit Go.Proofs.Ytodbnnfiadcbaaa.P Go.Proofs.YtodbnnfiadcbaaaW.PrintWords Go.Proofs.YtodbnnfiadcbaaaL
set_option maxRecDepth 10000
theorem withinT (a n : Int) (h0 : 0 < n) (h1 : n ≤ 1000000) : MV Try.prog 22 [.i a, .i n] (.i (a % n)) := within22 (within_eq a n h0 h1)
theorem wrap_id {x : Int} (h : -9223372036854775808 ≤ x) (h2 : x ≤ 9223372036854775807) : IntKind.i64.wrap x = x := by rw [wrap64_eq, wrap64]; omega
abbrev mk0 (ns : List Int) (a : Nat) : List AV := [.t (intsE ns), .i a]
theorem next68 (ns : List Int) (a : Nat) (n : Int) (hn : 0 < n) (hn2 : n ≤ 1000000) (ha : a ≤ ns.length) (hl : ns.length ≤ 17592186043904) : MR Try.prog 68 (mk0 ns a) [.pt 0 0, .i n] fun cs' r => ∃ (a' : Nat) (k : Int), cs' = mk0 ns a' ∧ a' ≤ ns.length ∧ r = .i k ∧ 0 ≤ k ∧ k < n := by
  refine MR.shut ?_
  refine M.enter tab_ok Try.func68 rfl (by kernel_rfl) (Nat.le_of_ble_eq_true rfl) ?_
  have h2 : True := trivial
  (all_goals ((conv => whnf); (try (conv => lhs; whnf))))
  (refine CodeV.draw tab_ok (tk [0,1,2,3,4,5,6,7,8,9] .nil) [] ⟨by kernel_rfl, by kernel_rfl, by kernel_rfl, by kernel_rfl, by kernel_rfl, by kernel_rfl⟩ ?_)
  (repeat' ((conv => whnf); first | refine Sp.t ?_ | refine Sp.f ?_ | refine Sp.n ?_ | refine Sp.d (fun _ => ?_) (fun _ => ?_) | refine Sp.e (fun _ => ?_) (fun _ => ?_) | refine Sp.ne (fun _ => ?_) (fun _ => ?_) | refine Sp.mk (fun _ => ?_) (fun _ => ?_) | refine And.intro (by first | omega | exact Nat.le_of_ble_eq_true rfl | (simp only [List.length_map, rowE_len, List.length_cons, List.length_nil] at *; omega)) ?_ | refine And.intro (Wd.map (fun _ => rfl)) ?_ | refine And.intro (rowE_wd _) ?_ | ((first | refine vix28 ?zb ?zd rfl ?_ | refine vix56 ?zb ?zd rfl ?_ | refine vixI ?zb ?zd rfl ?_); (case zb => first | omega | exact Nat.le_of_ble_eq_true rfl | (simp only [List.length_map, rowE_len, List.length_cons, List.length_nil] at *; omega)); (case zd => first | omega | exact Nat.le_of_ble_eq_true rfl | (simp only [List.length_map, rowE_len, List.length_cons, List.length_nil] at *; omega))) | fail))
  · (all_goals ((conv => whnf); (try (conv => lhs; whnf))))
    exact ⟨_, [], [], _, rfl, rfl, (by repeat' constructor), rfl, rfl, a, 0, rfl, ha, rfl, Int.le_refl _, hn⟩
  · rename_i c
    have hw : IntKind.i64.wrap ((a : Int) + 1) = ((a + 1 : Nat) : Int) := by rw [wrap_id (by omega) (by omega)]; rfl
    have hw2 : IntKind.i64.wrap (((a + 1 : Nat) : Int) - 1) = (a : Int) := by rw [wrap_id (by omega) (by omega)]; omega
    (all_goals ((conv => whnf); (try (conv => lhs; whnf))))
    rw [hw]
    (refine CodeV.draw tab_ok (tk [0,1,2,3,4,5,6,7,8,9,10,11] (.only 12 (tk [13] .nil))) [0, 1, 3, 7, 0, 16, 48, 112, 240, 511, 1023, 0, 4095, 8191] ⟨by kernel_rfl, by kernel_rfl, by kernel_rfl, by kernel_rfl, by kernel_rfl, by kernel_rfl⟩ ?_)
    (repeat' ((conv => whnf); first | refine Sp.t ?_ | refine Sp.f ?_ | refine Sp.n ?_ | refine Sp.d (fun _ => ?_) (fun _ => ?_) | refine Sp.e (fun _ => ?_) (fun _ => ?_) | refine Sp.ne (fun _ => ?_) (fun _ => ?_) | refine Sp.mk (fun _ => ?_) (fun _ => ?_) | refine And.intro (by first | omega | exact Nat.le_of_ble_eq_true rfl | (simp only [List.length_map, rowE_len, List.length_cons, List.length_nil] at *; omega)) ?_ | refine And.intro (Wd.map (fun _ => rfl)) ?_ | refine And.intro (rowE_wd _) ?_ | ((first | refine vix28 ?zb ?zd rfl ?_ | refine vix56 ?zb ?zd rfl ?_ | refine vixI ?zb ?zd rfl ?_); (case zb => first | omega | exact Nat.le_of_ble_eq_true rfl | (simp only [List.length_map, rowE_len, List.length_cons, List.length_nil] at *; omega)); (case zd => first | omega | exact Nat.le_of_ble_eq_true rfl | (simp only [List.length_map, rowE_len, List.length_cons, List.length_nil] at *; omega))) | refine CallV.of_MV (withinT _ n hn hn2) rfl (by repeat' constructor) rfl ?_ | fail))
    (all_goals ((conv => whnf); (try (conv => lhs; whnf))))
    exact ⟨_, [], [], _, rfl, rfl, (by repeat' constructor), rfl, rfl, a + 1, _, rfl, by simp only [List.length_map] at c; omega, rfl, Int.emod_nonneg _ (by omega), Int.emod_lt_of_pos _ hn⟩
theorem within1T (a n : Int) (h0 : 0 < n) (h1 : n ≤ 1000000) : MV Try.prog 29 [.i a, .i n] (.i (a % n)) := within29 (within1_eq a n h0 h1)
abbrev iR (l : List Int) : List (List T) := l.map fun n => [T.v (.int .i64 n)]
theorem appI (l : List Int) (z : Int) : List.take l.length (iR l) ++ List.take 1 (List.drop 0 [[T.v (.int .i64 z)]]) = iR (l ++ [z]) := by
  rw [List.take_of_length_le (by rw [List.length_map]; exact Nat.le_refl _)]; unfold iR; rw [List.map_append]; rfl
theorem takeI (l : List Int) : List.take l.length (List.drop 0 (iR l)) = iR l := List.take_of_length_le (by rw [List.drop_zero, List.length_map]; exact Nat.le_refl _)
theorem Word25 (y : List S56) (ns : List Int) (d : Int) (hy : 0 < y.length) (hy2 : y.length ≤ 1000) (hl : ns.length ≤ 17592186043904) (hd : d ≤ 1000) : MQ Try.prog 25 [.t (symsE y), .t (intsE ns), .i d] fun x => ∃ w : List Int, x = .t (intsE w) ∧ (w.length : Int) ≤ max 0 d := by
  refine MQ.shut ?_
  refine M.enter tab_ok Try.func25 rfl (by kernel_rfl) (Nat.le_of_ble_eq_true rfl) ?_
  have h2 : True := trivial
  (all_goals ((conv => whnf); (try (conv => lhs; whnf))))
  refine CodeV.see (See.open 7 1 rfl rfl) ?_
  refine CodeV.loop (α := { x : Nat × Nat × List (List T) × List Int // (x.2.1 = x.2.2.2.length ∧ x.2.2.1 = x.2.2.2.map fun n => [T.v (.int .i64 n)]) ∧ x.2.2.2.length = x.1 ∧ (x.1 : Int) ≤ max 0 d }) tab_ok
    (fun x => [(7, .rf (0, none) 1 0 x.1.2.1), (8, .i x.1.1)]) (fun x => [.row 1 x.1.2.2.1]) [0] 1 (fun x => ns.length + 1 - x.1.1) ⟨(0, 0, [], []), ⟨rfl, rfl⟩, rfl, by omega⟩
    ⟨⟨rfl, rfl, trivial⟩, _, rfl⟩ rfl rfl (fun _ => ⟨rfl, rfl⟩) (fun ⟨(j, n, els, l), ⟨hn, he⟩, hj, hm⟩ => ?_)
  dsimp only at hn he hj hm ⊢
  subst hn he
  (repeat' ((conv => whnf); first | refine Sp.t ?_ | refine Sp.f ?_ | refine Sp.n ?_ | refine Sp.d (fun _ => ?_) (fun _ => ?_) | refine Sp.e (fun _ => ?_) (fun _ => ?_) | refine Sp.ne (fun _ => ?_) (fun _ => ?_) | refine Sp.mk (fun _ => ?_) (fun _ => ?_) | refine And.intro (by first | omega | exact Nat.le_of_ble_eq_true rfl | (simp only [List.length_map, rowE_len, List.length_cons, List.length_nil] at *; omega)) ?_ | refine And.intro (Wd.map (fun _ => rfl)) ?_ | refine And.intro (rowE_wd _) ?_ | ((first | refine vix28 ?zb ?zd rfl ?_ | refine vix56 ?zb ?zd rfl ?_ | refine vixI ?zb ?zd rfl ?_); (case zb => first | omega | exact Nat.le_of_ble_eq_true rfl | (simp only [List.length_map, rowE_len, List.length_cons, List.length_nil] at *; omega)); (case zd => first | omega | exact Nat.le_of_ble_eq_true rfl | (simp only [List.length_map, rowE_len, List.length_cons, List.length_nil] at *; omega))) | refine CallV.of_MV (within1T _ _ (by simp only [List.length_map]; omega) (by simp only [List.length_map]; omega)) rfl (by repeat' constructor) rfl ?_ | fail))
  · refine And.intro (by show _ * 8 ≤ 140737488355328; omega) (mv_row (appI l _) ?_)
    (all_goals ((conv => whnf); (try (conv => lhs; whnf))))
    exact ⟨⟨(j + 1, _, _, l ++ [_]), ⟨len1 _ _, rfl⟩, by rw [← hj, len1], by omega⟩, Nat.sub_lt_sub_left (by simp only [List.length_map] at *; omega) (Nat.lt_succ_self _), ⟨rfl, congrArg (fun z => AV.i z) (wrap_nat j 1000 (by omega) (by decide)), trivial⟩, _, rfl⟩
  all_goals
    (all_goals ((conv => whnf); (try (conv => lhs; whnf))))
    exact ⟨[0], _, ⟨by show 0 + l.length ≤ (iR l).length; rw [List.length_map]; omega, trivial⟩, congrArg (fun t => AV.t (.sl t)) (takeI l), rfl, l, rfl, by omega⟩
theorem appI2 (l : List Int) (z : Int) {n : Nat} (h : n = l.length) : List.take n (iR l) ++ List.take 1 (List.drop 0 [[T.v (.int .i64 z)]]) = iR (l ++ [z]) := h ▸ appI l z
theorem takeI2 (l : List Int) {n : Nat} (h : n = l.length) : List.take n (List.drop 0 (iR l)) = iR l := h ▸ takeI l
theorem eta28 (x : S28) : (⟨x.f0, x.f1, x.f2, x.f3⟩ : S28) = x := by cases x; rfl
theorem take_rd (xs : List S28) (j : Nat) (h : j < xs.length) : xs.take (j + 1) = xs.take j ++ [rd_T28 xs (j : Int)] := by
  rw [List.take_add, rd_drop xs j h]; rfl
theorem take_sz : ∀ (xs : List S28) (j : Nat), tsizeL (xs.take j) ≤ tsizeL xs
  | [], j => by rw [List.take_nil]; exact Nat.le_refl _
  | x :: xs, 0 => Nat.zero_le _
  | x :: xs, j + 1 => by rw [List.take_succ_cons, tsizeL, tsizeL]; have := take_sz xs j; omega
theorem appW (l w : List Int) : List.take l.length (iR l) ++ iR w = iR (l ++ w) := by
  rw [List.take_of_length_le (by rw [List.length_map]; exact Nat.le_refl _)]; unfold iR; rw [List.map_append]
theorem wbnd {n t d : Nat} (h : n ≤ 2 * t * 4 ^ d) (ht : t ≤ 10000) (hd : d ≤ 3) : n ≤ 2000000 := by
  have : 4 ^ d ≤ 64 := Nat.le_trans (Nat.pow_le_pow_right (by decide) hd) (by decide)
  have := Nat.mul_le_mul (show 2 * t ≤ 20000 by omega) this
  omega
theorem badd {n m t u d : Nat} (h : n ≤ 2 * t * 4 ^ d) (h2 : m ≤ 2 * u * 4 ^ d) : n + m ≤ 2 * (t + u) * 4 ^ d := by
  rw [Nat.mul_add, Nat.add_mul]; omega
theorem bmono {n t u d : Nat} (h : n ≤ 2 * t * 4 ^ d) (h2 : t ≤ u) : n ≤ 2 * u * 4 ^ d := Nat.le_trans h (Nat.mul_le_mul_right _ (Nat.mul_le_mul_left 2 h2))
theorem sb {l w j t d : Nat} (h : l * 4 ≤ j * (2 * t * 4 ^ (d + 1))) (h5 : w ≤ 2 * t * 4 ^ d) : (l + w) * 4 ≤ (j + 1) * (2 * t * 4 ^ (d + 1)) := by
  have e : 2 * t * 4 ^ (d + 1) = (2 * t * 4 ^ d) * 4 := by rw [Nat.pow_succ, Nat.mul_assoc, Nat.mul_assoc, Nat.mul_assoc]
  rw [Nat.add_mul, Nat.succ_mul]
  rw [e] at h ⊢
  omega
theorem sfin {l j t u d : Nat} (h : l * 4 ≤ j * (2 * t * 4 ^ d)) (hj : j ≤ 2) (hu : u = t + 1) : l ≤ 2 * u * 4 ^ d := by
  subst hu
  have := Nat.le_trans h (Nat.mul_le_mul_right _ hj)
  have e : 2 * (t + 1) * 4 ^ d = 2 * t * 4 ^ d + 2 * 4 ^ d := by rw [← Nat.add_mul]; rfl
  omega
theorem pow_pos4 (d : Nat) : 1 ≤ 4 ^ d := Nat.one_le_pow _ _ (by decide)
theorem nb {n t t' d : Nat} (h : t' = t + 1) (h5 : n ≤ 2 * t * 4 ^ d) : n + 2 ≤ 2 * t' * 4 ^ d := by
  have := pow_pos4 d
  rw [h, show 2 * (t + 1) * 4 ^ d = 2 * t * 4 ^ d + 2 * 4 ^ d by rw [← Nat.add_mul]; rfl]
  omega
theorem no_all {xs : List S28} {K j : Nat} (hl : 0 < xs.length) (h : ∀ i, i < j → NoW (rd_T28 xs (((K + i) % xs.length : Nat) : Int))) (hj : xs.length ≤ j) : ∀ x ∈ xs, NoW x := fun x hx => by
  obtain ⟨p, hp, rfl⟩ := List.getElem_of_mem hx
  have e : (K + (p + xs.length - K % xs.length) % xs.length) % xs.length = p := by
    have h1 := Nat.mod_lt K hl
    rw [Nat.add_mod, Nat.mod_mod]
    rcases Nat.lt_or_ge p (K % xs.length) with h2 | h2
    · rw [Nat.mod_eq_of_lt (show p + xs.length - K % xs.length < xs.length by omega), show K % xs.length + (p + xs.length - K % xs.length) = p + xs.length by omega, Nat.add_mod_right, Nat.mod_eq_of_lt hp]
    · rw [show p + xs.length - K % xs.length = (p - K % xs.length) + xs.length by omega, Nat.add_mod_right, Nat.mod_eq_of_lt (show p - K % xs.length < xs.length by omega), show K % xs.length + (p - K % xs.length) = p by omega, Nat.mod_eq_of_lt hp]
  have := h _ (Nat.lt_of_lt_of_le (Nat.mod_lt (p + xs.length - K % xs.length) hl) hj)
  rw [e] at this
  have e2 : rd_T28 xs (p : Int) = xs[p] := by simp only [rd_T28, Int.toNat_natCast, List.getD_eq_getElem?_getD, List.getElem?_eq_getElem hp, Option.getD_some]
  rwa [e2] at this
def wQ (ns : List Int) (e : S28) (d : Nat) (cs' : List AV) (r : AV) : Prop := ∃ (a' : Nat) (w : List Int) (is : Bool), cs' = mk0 ns a' ∧ a' ≤ ns.length ∧ r = .tup [.t (intsE w), .b is] ∧ w.length ≤ 2 * tsize e * 4 ^ d ∧ WP e w is
theorem sh_one {a b c : Int} {xs : List S28} (h : shF ⟨a, b, c, xs⟩ = true) (ha : a = 4 ∨ a = 7) : ∃ x0 x1 x2 xl, xs = [⟨x0, x1, x2, xl⟩] := by
  rcases ha with rfl | rfl
  · simp [shF] at h
    match xs, h with
    | [⟨_, _, _, _⟩], _ => exact ⟨_, _, _, _, rfl⟩
  · simp [shF] at h
    match xs, h with
    | [⟨_, _, _, _⟩], _ => exact ⟨_, _, _, _, rfl⟩
set_option maxHeartbeats 4000000 in
theorem Word48 (ns : List Int) (hl : ns.length ≤ 17592186043904) : ∀ (n : Nat) (e0 e1 e2 : Int) (xs : List S28) (a d : Nat), tsize ⟨e0, e1, e2, xs⟩ ≤ n → n ≤ 10000 → tformed ⟨e0, e1, e2, xs⟩ = true → a ≤ ns.length → d ≤ 3 →
    MR Try.prog 48 (mk0 ns a) [treeA e0 e1 e2 xs, .pt 0 0, .i d] (wQ ns ⟨e0, e1, e2, xs⟩ d) := by
  intro n
  induction n with
  | zero => intro e0 e1 e2 xs a d h; rw [tsize_eq] at h; omega
  | succ n ih =>
  intro e0 e1 e2 xs a d hnn hn2 hf ha hd
  rw [tformed_eq, Bool.and_eq_true] at hf
  obtain ⟨hs, hfl⟩ := hf
  refine MR.shut ?_
  refine M.enter tab_ok Try.func48 rfl (by kernel_rfl) (Nat.le_of_ble_eq_true rfl) ?_
  have h2 : True := trivial
  (all_goals ((conv => whnf); (try (conv => lhs; whnf))))
  (repeat' ((conv => whnf); first | refine Sp.t ?_ | refine Sp.f ?_ | refine Sp.n ?_ | refine Sp.d (fun _ => ?_) (fun _ => ?_) | refine Sp.e (fun _ => ?_) (fun _ => ?_) | refine Sp.ne (fun _ => ?_) (fun _ => ?_) | refine Sp.mk (fun _ => ?_) (fun _ => ?_) | refine And.intro (by first | omega | exact Nat.le_of_ble_eq_true rfl | (simp only [List.length_map, rowE_len, List.length_cons, List.length_nil] at *; omega)) ?_ | refine And.intro (Wd.map (fun _ => rfl)) ?_ | refine And.intro (rowE_wd _) ?_ | ((first | refine vix28 ?zb ?zd rfl ?_ | refine vix56 ?zb ?zd rfl ?_ | refine vixI ?zb ?zd rfl ?_); (case zb => first | omega | exact Nat.le_of_ble_eq_true rfl | (simp only [List.length_map, rowE_len, List.length_cons, List.length_nil] at *; omega)); (case zd => first | omega | exact Nat.le_of_ble_eq_true rfl | (simp only [List.length_map, rowE_len, List.length_cons, List.length_nil] at *; omega))) | fail))
  · rename_i c
    subst c
    (all_goals ((conv => whnf); (try (conv => lhs; whnf))))
    exact ⟨_, _, [], _, rfl, rfl, (by repeat' constructor), rfl, rfl, a, [], true, rfl, ha, rfl, Nat.zero_le _, wp_void _ _ _⟩
  · rename_i c
    subst c
    (all_goals ((conv => whnf); (try (conv => lhs; whnf))))
    exact ⟨_, _, [2], _, rfl, rfl, (by repeat' constructor), rfl, rfl, a, [e1], true, rfl, ha, rfl, Nat.le_trans (Nat.le_add_left 1 1) (nb (tsize_eq _) (Nat.zero_le _)), wp_sym _ _ _⟩
  · rename_i c
    subst c
    obtain ⟨x0, x1, x2, xl, rfl⟩ := sh_one hs (.inl rfl)
    rw [tsize_eq] at hnn
    rw [tformedL, tformedL, Bool.and_true] at hfl
    have hx : tsize ⟨x0, x1, x2, xl⟩ ≤ n := by simp only [tsizeL] at hnn; omega
    have hs5 : tsize ⟨4, e1, e2, [⟨x0, x1, x2, xl⟩]⟩ = tsize ⟨x0, x1, x2, xl⟩ + 1 := by rw [tsize_eq, tsizeL, tsizeL]
    refine And.intro (by rw [rowE_len]; exact Int.one_pos) (vix28 (Int.le_refl _) Int.one_pos rfl ?_)
    (repeat' ((conv => whnf); first | refine Sp.t ?_ | refine Sp.f ?_ | refine Sp.n ?_ | refine Sp.d (fun _ => ?_) (fun _ => ?_) | refine Sp.e (fun _ => ?_) (fun _ => ?_) | refine Sp.ne (fun _ => ?_) (fun _ => ?_) | refine Sp.mk (fun _ => ?_) (fun _ => ?_) | refine And.intro (by first | omega | exact Nat.le_of_ble_eq_true rfl | (simp only [List.length_map, rowE_len, List.length_cons, List.length_nil] at *; omega)) ?_ | refine And.intro (Wd.map (fun _ => rfl)) ?_ | refine And.intro (rowE_wd _) ?_ | ((first | refine vix28 ?zb ?zd rfl ?_ | refine vix56 ?zb ?zd rfl ?_ | refine vixI ?zb ?zd rfl ?_); (case zb => first | omega | exact Nat.le_of_ble_eq_true rfl | (simp only [List.length_map, rowE_len, List.length_cons, List.length_nil] at *; omega)); (case zd => first | omega | exact Nat.le_of_ble_eq_true rfl | (simp only [List.length_map, rowE_len, List.length_cons, List.length_nil] at *; omega))) | fail))
    refine CallV.of_MR 0 (ih x0 x1 x2 xl a d hx (by omega) hfl ha hd) rfl rfl rfl (by repeat' constructor) (fun cs' r ⟨a', w, is, h1, h3, h4, h5, h6⟩ => ?_)
    subst h1 h4
    have hB := wbnd h5 (by omega) hd
    (all_goals ((conv => whnf); (try (conv => lhs; whnf))))
    refine CodeV.see (See.cl 1 (by rfl)) ?_
    (refine CodeV.draw tab_ok (tk [0,1,3,5,6,9] (.alt (.only 2 (.alt (.only 4 (.only 7 (.only 8 (tk [10,11] .nil)))) (.only 7 (.only 4 (.only 8 (tk [10,11] .nil)))))) (.only 7 (.only 2 (.only 4 (.only 8 (tk [10,11] .nil))))))) [0, 1, 3, 0, 15, 0, 32, 96, 255, 0, 511, 2047] ⟨by kernel_rfl, by kernel_rfl, by kernel_rfl, by kernel_rfl, by kernel_rfl, by kernel_rfl⟩ ?_)
    (all_goals ((conv => whnf); (try (conv => lhs; whnf))))
    refine And.intro ?_ ?_
    · (repeat' ((conv => whnf); first | refine Sp.t ?_ | refine Sp.f ?_ | refine Sp.n ?_ | refine Sp.d (fun _ => ?_) (fun _ => ?_) | refine Sp.e (fun _ => ?_) (fun _ => ?_) | refine Sp.ne (fun _ => ?_) (fun _ => ?_) | refine Sp.mk (fun _ => ?_) (fun _ => ?_) | refine And.intro (by first | omega | exact Nat.le_of_ble_eq_true rfl | (simp only [List.length_map, rowE_len, List.length_cons, List.length_nil] at *; omega)) ?_ | refine And.intro (Wd.map (fun _ => rfl)) ?_ | refine And.intro (rowE_wd _) ?_ | ((first | refine vix28 ?zb ?zd rfl ?_ | refine vix56 ?zb ?zd rfl ?_ | refine vixI ?zb ?zd rfl ?_); (case zb => first | omega | exact Nat.le_of_ble_eq_true rfl | (simp only [List.length_map, rowE_len, List.length_cons, List.length_nil] at *; omega)); (case zd => first | omega | exact Nat.le_of_ble_eq_true rfl | (simp only [List.length_map, rowE_len, List.length_cons, List.length_nil] at *; omega))) | fail))
      conv => whnf
      refine And.intro ?_ ?_
      all_goals
        (repeat' ((conv => whnf); first | refine Sp.t ?_ | refine Sp.f ?_ | refine Sp.n ?_ | refine Sp.d (fun _ => ?_) (fun _ => ?_) | refine Sp.e (fun _ => ?_) (fun _ => ?_) | refine Sp.ne (fun _ => ?_) (fun _ => ?_) | refine Sp.mk (fun _ => ?_) (fun _ => ?_) | refine And.intro (by first | omega | exact Nat.le_of_ble_eq_true rfl | (simp only [List.length_map, rowE_len, List.length_cons, List.length_nil] at *; omega)) ?_ | refine And.intro (Wd.map (fun _ => rfl)) ?_ | refine And.intro (rowE_wd _) ?_ | ((first | refine vix28 ?zb ?zd rfl ?_ | refine vix56 ?zb ?zd rfl ?_ | refine vixI ?zb ?zd rfl ?_); (case zb => first | omega | exact Nat.le_of_ble_eq_true rfl | (simp only [List.length_map, rowE_len, List.length_cons, List.length_nil] at *; omega)); (case zd => first | omega | exact Nat.le_of_ble_eq_true rfl | (simp only [List.length_map, rowE_len, List.length_cons, List.length_nil] at *; omega))) | fail))
        conv => whnf
        refine And.intro (by show (1 + (iR w).length) * 8 ≤ 140737488355328; rw [List.length_map]; omega) (mv_row (els' := iR (e1 :: w)) rfl ?_)
        (repeat' ((conv => whnf); first | refine Sp.t ?_ | refine Sp.f ?_ | refine Sp.n ?_ | refine Sp.d (fun _ => ?_) (fun _ => ?_) | refine Sp.e (fun _ => ?_) (fun _ => ?_) | refine Sp.ne (fun _ => ?_) (fun _ => ?_) | refine Sp.mk (fun _ => ?_) (fun _ => ?_) | refine And.intro (by first | omega | exact Nat.le_of_ble_eq_true rfl | (simp only [List.length_map, rowE_len, List.length_cons, List.length_nil] at *; omega)) ?_ | refine And.intro (Wd.map (fun _ => rfl)) ?_ | refine And.intro (rowE_wd _) ?_ | ((first | refine vix28 ?zb ?zd rfl ?_ | refine vix56 ?zb ?zd rfl ?_ | refine vixI ?zb ?zd rfl ?_); (case zb => first | omega | exact Nat.le_of_ble_eq_true rfl | (simp only [List.length_map, rowE_len, List.length_cons, List.length_nil] at *; omega)); (case zd => first | omega | exact Nat.le_of_ble_eq_true rfl | (simp only [List.length_map, rowE_len, List.length_cons, List.length_nil] at *; omega))) | fail))
        conv => whnf
        refine And.intro (by show (1 + (iR w).length + 1) * 8 ≤ 140737488355328; rw [List.length_map]; omega) (mv_row (appI2 (e1 :: w) _ (by rw [List.length_map, List.length_cons, Nat.add_comm])) ?_)
        (all_goals ((conv => whnf); (try (conv => lhs; whnf))))
        exact ⟨_, _, [2], _, rfl, rfl, ⟨⟨by show 0 + (1 + (iR w).length + 1) ≤ (iR (e1 :: w ++ [e2])).length; simp only [List.length_map, List.length_cons, List.length_append, List.length_nil]; omega, trivial, trivial⟩, trivial⟩, congrArg (fun t => AV.tup [.t (.sl t), .b is]) (takeI2 (e1 :: w ++ [e2]) (by simp only [List.length_map, List.length_cons, List.length_append, List.length_nil]; omega)), rfl, a', e1 :: w ++ [e2], is, rfl, h3, rfl, (by show (w ++ [e2]).length + 1 ≤ _; rw [List.length_append]; exact nb hs5 h5), wp_nest h6⟩
    (repeat' ((conv => whnf); first | refine Sp.t ?_ | refine Sp.f ?_ | refine Sp.n ?_ | refine Sp.d (fun _ => ?_) (fun _ => ?_) | refine Sp.e (fun _ => ?_) (fun _ => ?_) | refine Sp.ne (fun _ => ?_) (fun _ => ?_) | refine Sp.mk (fun _ => ?_) (fun _ => ?_) | refine And.intro (by first | omega | exact Nat.le_of_ble_eq_true rfl | (simp only [List.length_map, rowE_len, List.length_cons, List.length_nil] at *; omega)) ?_ | refine And.intro (Wd.map (fun _ => rfl)) ?_ | refine And.intro (rowE_wd _) ?_ | ((first | refine vix28 ?zb ?zd rfl ?_ | refine vix56 ?zb ?zd rfl ?_ | refine vixI ?zb ?zd rfl ?_); (case zb => first | omega | exact Nat.le_of_ble_eq_true rfl | (simp only [List.length_map, rowE_len, List.length_cons, List.length_nil] at *; omega)); (case zd => first | omega | exact Nat.le_of_ble_eq_true rfl | (simp only [List.length_map, rowE_len, List.length_cons, List.length_nil] at *; omega))) | fail))
    conv => whnf
    refine And.intro (by show (1 + (iR w).length) * 8 ≤ 140737488355328; rw [List.length_map]; omega) (mv_row (els' := iR (e1 :: w)) rfl ?_)
    (repeat' ((conv => whnf); first | refine Sp.t ?_ | refine Sp.f ?_ | refine Sp.n ?_ | refine Sp.d (fun _ => ?_) (fun _ => ?_) | refine Sp.e (fun _ => ?_) (fun _ => ?_) | refine Sp.ne (fun _ => ?_) (fun _ => ?_) | refine Sp.mk (fun _ => ?_) (fun _ => ?_) | refine And.intro (by first | omega | exact Nat.le_of_ble_eq_true rfl | (simp only [List.length_map, rowE_len, List.length_cons, List.length_nil] at *; omega)) ?_ | refine And.intro (Wd.map (fun _ => rfl)) ?_ | refine And.intro (rowE_wd _) ?_ | ((first | refine vix28 ?zb ?zd rfl ?_ | refine vix56 ?zb ?zd rfl ?_ | refine vixI ?zb ?zd rfl ?_); (case zb => first | omega | exact Nat.le_of_ble_eq_true rfl | (simp only [List.length_map, rowE_len, List.length_cons, List.length_nil] at *; omega)); (case zd => first | omega | exact Nat.le_of_ble_eq_true rfl | (simp only [List.length_map, rowE_len, List.length_cons, List.length_nil] at *; omega))) | fail))
    conv => whnf
    refine And.intro (by show (1 + (iR w).length + 1) * 8 ≤ 140737488355328; rw [List.length_map]; omega) (mv_row (appI2 (e1 :: w) _ (by rw [List.length_map, List.length_cons, Nat.add_comm])) ?_)
    (all_goals ((conv => whnf); (try (conv => lhs; whnf))))
    exact ⟨_, _, [3], _, rfl, rfl, ⟨⟨by show 0 + (1 + (iR w).length + 1) ≤ (iR (e1 :: w ++ [e2])).length; simp only [List.length_map, List.length_cons, List.length_append, List.length_nil]; omega, trivial, trivial⟩, trivial⟩, congrArg (fun t => AV.tup [.t (.sl t), .b is]) (takeI2 (e1 :: w ++ [e2]) (by simp only [List.length_map, List.length_cons, List.length_append, List.length_nil]; omega)), rfl, a', e1 :: w ++ [e2], is, rfl, h3, rfl, (by show (w ++ [e2]).length + 1 ≤ _; rw [List.length_append]; exact nb hs5 h5), wp_nest h6⟩
  · rename_i c
    subst c
    refine CodeV.see (See.cl 1 (by rfl)) ?_
    refine CodeV.see (See.open 10 1 (by rfl) (by rfl)) ?_
    refine CodeV.loop (α := { x : Nat × Nat × Nat × List (List T) × List Int // (x.2.2.1 = x.2.2.2.2.length ∧ x.2.2.2.1 = iR x.2.2.2.2) ∧ x.1 ≤ xs.length ∧ x.2.1 ≤ ns.length ∧ x.2.2.2.2.length ≤ 2 * tsizeL (xs.take x.1) * 4 ^ d ∧ CP e1 e2 (xs.take x.1) x.2.2.2.2 }) tab_ok
      (fun x => [(1, .pt 0 0), (10, .rf (2, none) 1 0 x.1.2.2.1), (11, .i x.1.1)]) (fun x => [.st (mk0 ns x.1.2.1), .dead, .row 1 x.1.2.2.2.1]) [1, 2] 3 (fun x => xs.length - x.1.1)
      ⟨(0, a, 0, [], []), ⟨rfl, rfl⟩, Nat.zero_le _, ha, Nat.zero_le _, cp_nil _ _⟩
      ⟨⟨rfl, rfl, rfl, trivial⟩, _, rfl⟩ rfl rfl (fun _ => ⟨rfl, rfl⟩) (fun ⟨(j, a, n, els, l), ⟨hn, he⟩, hj, ha, hln, hw⟩ => ?_)
    dsimp only at hn he hj ha hln hw ⊢
    subst hn he
    (repeat' ((conv => whnf); first | refine Sp.t ?_ | refine Sp.f ?_ | refine Sp.n ?_ | refine Sp.d (fun _ => ?_) (fun _ => ?_) | refine Sp.e (fun _ => ?_) (fun _ => ?_) | refine Sp.ne (fun _ => ?_) (fun _ => ?_) | refine Sp.mk (fun _ => ?_) (fun _ => ?_) | refine And.intro (by first | omega | exact Nat.le_of_ble_eq_true rfl | (simp only [List.length_map, rowE_len, List.length_cons, List.length_nil] at *; omega)) ?_ | refine And.intro (Wd.map (fun _ => rfl)) ?_ | refine And.intro (rowE_wd _) ?_ | ((first | refine vix28 ?zb ?zd rfl ?_ | refine vix56 ?zb ?zd rfl ?_ | refine vixI ?zb ?zd rfl ?_); (case zb => first | omega | exact Nat.le_of_ble_eq_true rfl | (simp only [List.length_map, rowE_len, List.length_cons, List.length_nil] at *; omega)); (case zd => first | omega | exact Nat.le_of_ble_eq_true rfl | (simp only [List.length_map, rowE_len, List.length_cons, List.length_nil] at *; omega))) | fail))
    · rename_i c
      have hlt : j < xs.length := by simp only [rowE_len] at c; omega
      have hx := rd_in xs j hlt
      have hxn : tsize (rd_T28 xs (j : Int)) ≤ n := by have := tsize_mem hx; rw [tsize_eq] at hnn; simp only at hnn; omega
      refine CallV.of_MR 0 (ih _ _ _ _ a d (by rw [eta28]; exact hxn) (by omega) (by rw [eta28]; exact tformedL_mem hfl hx) ha hd) rfl rfl rfl (by repeat' constructor) (fun cs' r ⟨a', w, is, h1, h3, h4, h5, h6⟩ => ?_)
      rw [eta28] at h5 h6
      subst h1 h4
      have hB := wbnd h5 (by omega) hd
      have hB2 := wbnd hln (by have := take_sz xs j; rw [tsize_eq] at hnn; simp only at hnn; omega) hd
      (repeat' ((conv => whnf); first | refine Sp.t ?_ | refine Sp.f ?_ | refine Sp.n ?_ | refine Sp.d (fun _ => ?_) (fun _ => ?_) | refine Sp.e (fun _ => ?_) (fun _ => ?_) | refine Sp.ne (fun _ => ?_) (fun _ => ?_) | refine Sp.mk (fun _ => ?_) (fun _ => ?_) | refine And.intro (by first | omega | exact Nat.le_of_ble_eq_true rfl | (simp only [List.length_map, rowE_len, List.length_cons, List.length_nil] at *; omega)) ?_ | refine And.intro (Wd.map (fun _ => rfl)) ?_ | refine And.intro (rowE_wd _) ?_ | ((first | refine vix28 ?zb ?zd rfl ?_ | refine vix56 ?zb ?zd rfl ?_ | refine vixI ?zb ?zd rfl ?_); (case zb => first | omega | exact Nat.le_of_ble_eq_true rfl | (simp only [List.length_map, rowE_len, List.length_cons, List.length_nil] at *; omega)); (case zd => first | omega | exact Nat.le_of_ble_eq_true rfl | (simp only [List.length_map, rowE_len, List.length_cons, List.length_nil] at *; omega))) | fail))
      · conv => whnf
        refine And.intro (by show (l.length + (iR w).length) * 8 ≤ 140737488355328; rw [List.length_map]; omega) (mv_row (appW l w) ?_)
        (all_goals ((conv => whnf); (try (conv => lhs; whnf))))
        exact ⟨⟨(j + 1, a', _, _, l ++ w), ⟨by rw [List.length_append, List.length_map], rfl⟩, hlt, h3, by show (l ++ w).length ≤ 2 * tsizeL (xs.take (j + 1)) * 4 ^ d; rw [take_rd xs j hlt, tsizeL_snoc, List.length_append]; exact badd hln h5, by show CP e1 e2 (xs.take (j + 1)) (l ++ w); rw [take_rd xs j hlt]; rename_i c9; rw [c9] at h6; exact cp_snoc hw h6⟩, Nat.sub_lt_sub_left hlt (Nat.lt_succ_self _), ⟨rfl, rfl, congrArg (fun z => AV.i z) (wrap_nat j 10000 (by have := len_tsizeL xs; rw [tsize_eq] at hnn; simp only at hnn; omega) (by decide)), trivial⟩, _, rfl⟩
      · (all_goals ((conv => whnf); (try (conv => lhs; whnf))))
        exact ⟨_, _, [], _, rfl, rfl, (by repeat' constructor), rfl, rfl, a', [], false, rfl, h3, rfl, Nat.zero_le _, (by rename_i c9; rw [c9] at h6; exact wp_cat0 hx (h6.2.2 rfl))⟩
    · rename_i c
      (all_goals ((conv => whnf); (try (conv => lhs; whnf))))
      have hle : xs.length ≤ j := by simp only [rowE_len] at c; omega
      rw [List.take_of_length_le hle] at hln hw
      exact ⟨_, _, [2], _, rfl, rfl, ⟨⟨by show 0 + l.length ≤ (iR l).length; rw [List.length_map]; omega, trivial, trivial⟩, trivial⟩, congrArg (fun t => AV.tup [.t (.sl t), .b true]) (takeI l), rfl, a, l, true, rfl, ha, rfl, bmono hln (by rw [tsize_eq]; exact Nat.le_succ _), wp_cat hw⟩
  · rename_i c
    subst c
    have h2l : 2 ≤ xs.length := by simp [shF] at hs; omega
    have hln : xs.length ≤ 10000 := by have := len_tsizeL xs; rw [tsize_eq] at hnn; simp only at hnn; omega
    refine CallV.of_MR 0 (next68 ns a (xs.length : Int) (by omega) (by omega) ha hl) rfl rfl (by show [AV.pt 0 0, AV.i ((rowE xs).length : Int)] = _; rw [rowE_len]) (by repeat' constructor) (fun cs' r ⟨a1, k, h1, ha1, h3, h4, h5⟩ => ?_)
    subst h1 h3
    (repeat' ((conv => whnf); first | refine Sp.t ?_ | refine Sp.f ?_ | refine Sp.n ?_ | refine Sp.d (fun _ => ?_) (fun _ => ?_) | refine Sp.e (fun _ => ?_) (fun _ => ?_) | refine Sp.ne (fun _ => ?_) (fun _ => ?_) | refine Sp.mk (fun _ => ?_) (fun _ => ?_) | refine And.intro (by first | omega | exact Nat.le_of_ble_eq_true rfl | (simp only [List.length_map, rowE_len, List.length_cons, List.length_nil] at *; omega)) ?_ | refine And.intro (Wd.map (fun _ => rfl)) ?_ | refine And.intro (rowE_wd _) ?_ | ((first | refine vix28 ?zb ?zd rfl ?_ | refine vix56 ?zb ?zd rfl ?_ | refine vixI ?zb ?zd rfl ?_); (case zb => first | omega | exact Nat.le_of_ble_eq_true rfl | (simp only [List.length_map, rowE_len, List.length_cons, List.length_nil] at *; omega)); (case zd => first | omega | exact Nat.le_of_ble_eq_true rfl | (simp only [List.length_map, rowE_len, List.length_cons, List.length_nil] at *; omega))) | fail))
    (all_goals ((conv => whnf); (try (conv => lhs; whnf))))
    refine CodeV.see (See.cl 1 (by rfl)) ?_
    refine CodeV.loop (α := { x : Nat × Nat // x.1 ≤ xs.length ∧ x.2 ≤ ns.length ∧ ∀ i, i < x.1 → NoW (rd_T28 xs (((k.toNat + i) % xs.length : Nat) : Int)) }) tab_ok
      (fun x => [(1, .pt 0 0), (15, .i x.1.1)]) (fun x => [.st (mk0 ns x.1.2), .dead]) [1] 2 (fun x => xs.length - x.1.1)
      ⟨(0, a1), Nat.zero_le _, ha1, fun i hi => absurd hi (Nat.not_lt_zero _)⟩
      ⟨⟨rfl, rfl, trivial⟩, _, rfl⟩ rfl rfl (fun _ => ⟨rfl, rfl⟩) (fun ⟨(j, a), hj, ha, hno⟩ => ?_)
    dsimp only at hj ha hno ⊢
    (repeat' ((conv => whnf); first | refine Sp.t ?_ | refine Sp.f ?_ | refine Sp.n ?_ | refine Sp.d (fun _ => ?_) (fun _ => ?_) | refine Sp.e (fun _ => ?_) (fun _ => ?_) | refine Sp.ne (fun _ => ?_) (fun _ => ?_) | refine Sp.mk (fun _ => ?_) (fun _ => ?_) | refine And.intro (by first | omega | exact Nat.le_of_ble_eq_true rfl | (simp only [List.length_map, rowE_len, List.length_cons, List.length_nil] at *; omega)) ?_ | refine And.intro (Wd.map (fun _ => rfl)) ?_ | refine And.intro (rowE_wd _) ?_ | ((first | refine vix28 ?zb ?zd rfl ?_ | refine vix56 ?zb ?zd rfl ?_ | refine vixI ?zb ?zd rfl ?_); (case zb => first | omega | exact Nat.le_of_ble_eq_true rfl | (simp only [List.length_map, rowE_len, List.length_cons, List.length_nil] at *; omega)); (case zd => first | omega | exact Nat.le_of_ble_eq_true rfl | (simp only [List.length_map, rowE_len, List.length_cons, List.length_nil] at *; omega))) | fail))
    · rename_i c
      have hlt : j < xs.length := by simp only [rowE_len] at c; omega
      (refine CodeV.draw tab_ok (tk [0,1,2,3,4,5,6,7,8,9,10,11,12] (.only 13 (tk [14,15,16,17,18] .nil))) [0, 1, 0, 0, 12, 0, 32, 96, 252, 511, 1023, 0, 0, 8191, 16383, 32767, 32767, 65535, 262143] ⟨by kernel_rfl, by kernel_rfl, by kernel_rfl, by kernel_rfl, by kernel_rfl, by kernel_rfl⟩ ?_)
      (repeat' ((conv => whnf); first | refine Sp.t ?_ | refine Sp.f ?_ | refine Sp.n ?_ | refine Sp.d (fun _ => ?_) (fun _ => ?_) | refine Sp.e (fun _ => ?_) (fun _ => ?_) | refine Sp.ne (fun _ => ?_) (fun _ => ?_) | refine Sp.mk (fun _ => ?_) (fun _ => ?_) | refine And.intro (by first | omega | exact Nat.le_of_ble_eq_true rfl | (simp only [List.length_map, rowE_len, List.length_cons, List.length_nil] at *; omega)) ?_ | refine And.intro (Wd.map (fun _ => rfl)) ?_ | refine And.intro (rowE_wd _) ?_ | ((first | refine vix28 ?zb ?zd rfl ?_ | refine vix56 ?zb ?zd rfl ?_ | refine vixI ?zb ?zd rfl ?_); (case zb => first | omega | exact Nat.le_of_ble_eq_true rfl | (simp only [List.length_map, rowE_len, List.length_cons, List.length_nil] at *; omega)); (case zd => first | omega | exact Nat.le_of_ble_eq_true rfl | (simp only [List.length_map, rowE_len, List.length_cons, List.length_nil] at *; omega))) | fail))
      conv => whnf
      obtain ⟨q, hq, hql, hqe⟩ : ∃ q : Nat, (IntKind.i64.wrap (k + (j : Int))).tmod ((rowE xs).length : Int) = (q : Int) ∧ q < xs.length ∧ q = (k.toNat + j) % xs.length := by
        rw [wrap_id (by omega) (by omega), rowE_len, Int.tmod_eq_emod_of_nonneg (by omega)]
        have a1 := Int.emod_nonneg (k + (j : Int)) (show (xs.length : Int) ≠ 0 by omega)
        have a2 := Int.emod_lt_of_pos (k + (j : Int)) (show (0 : Int) < xs.length by omega)
        exact ⟨((k + (j : Int)) % (xs.length : Int)).toNat, by omega, by omega, by rw [show k + (j : Int) = ((k.toNat + j : Nat) : Int) by omega, ← Int.natCast_emod, Int.toNat_natCast]⟩
      rw [hq]
      refine And.intro (Int.natCast_nonneg _) (And.intro (by rw [rowE_len]; omega) (vix28 (Int.natCast_nonneg _) (by omega) rfl ?_))
      have hx := rd_in xs q hql
      have hxn : tsize (rd_T28 xs (q : Int)) ≤ n := by have := tsize_mem hx; rw [tsize_eq] at hnn; simp only at hnn; omega
      (repeat' ((conv => whnf); first | refine Sp.t ?_ | refine Sp.f ?_ | refine Sp.n ?_ | refine Sp.d (fun _ => ?_) (fun _ => ?_) | refine Sp.e (fun _ => ?_) (fun _ => ?_) | refine Sp.ne (fun _ => ?_) (fun _ => ?_) | refine Sp.mk (fun _ => ?_) (fun _ => ?_) | refine And.intro (by first | omega | exact Nat.le_of_ble_eq_true rfl | (simp only [List.length_map, rowE_len, List.length_cons, List.length_nil] at *; omega)) ?_ | refine And.intro (Wd.map (fun _ => rfl)) ?_ | refine And.intro (rowE_wd _) ?_ | ((first | refine vix28 ?zb ?zd rfl ?_ | refine vix56 ?zb ?zd rfl ?_ | refine vixI ?zb ?zd rfl ?_); (case zb => first | omega | exact Nat.le_of_ble_eq_true rfl | (simp only [List.length_map, rowE_len, List.length_cons, List.length_nil] at *; omega)); (case zd => first | omega | exact Nat.le_of_ble_eq_true rfl | (simp only [List.length_map, rowE_len, List.length_cons, List.length_nil] at *; omega))) | fail))
      refine CallV.of_MR 0 (ih _ _ _ _ a d (by rw [eta28]; exact hxn) (by omega) (by rw [eta28]; exact tformedL_mem hfl hx) ha hd) rfl rfl rfl (by repeat' constructor) (fun cs' r ⟨a', w, is, h1, h3, h4, h5, h6⟩ => ?_)
      rw [eta28] at h5 h6
      subst h1 h4
      (repeat' ((conv => whnf); first | refine Sp.t ?_ | refine Sp.f ?_ | refine Sp.n ?_ | refine Sp.d (fun _ => ?_) (fun _ => ?_) | refine Sp.e (fun _ => ?_) (fun _ => ?_) | refine Sp.ne (fun _ => ?_) (fun _ => ?_) | refine Sp.mk (fun _ => ?_) (fun _ => ?_) | refine And.intro (by first | omega | exact Nat.le_of_ble_eq_true rfl | (simp only [List.length_map, rowE_len, List.length_cons, List.length_nil] at *; omega)) ?_ | refine And.intro (Wd.map (fun _ => rfl)) ?_ | refine And.intro (rowE_wd _) ?_ | ((first | refine vix28 ?zb ?zd rfl ?_ | refine vix56 ?zb ?zd rfl ?_ | refine vixI ?zb ?zd rfl ?_); (case zb => first | omega | exact Nat.le_of_ble_eq_true rfl | (simp only [List.length_map, rowE_len, List.length_cons, List.length_nil] at *; omega)); (case zd => first | omega | exact Nat.le_of_ble_eq_true rfl | (simp only [List.length_map, rowE_len, List.length_cons, List.length_nil] at *; omega))) | fail))
      · (all_goals ((conv => whnf); (try (conv => lhs; whnf))))
        exact ⟨_, _, [], _, rfl, rfl, (by repeat' constructor), rfl, rfl, a', w, true, rfl, h3, rfl, bmono h5 (by have := tsize_mem hx; rw [tsize_eq ⟨_, _, _, xs⟩]; show _ ≤ tsizeL xs + 1; omega), (by rename_i c9; rw [c9] at h6; exact wp_or hx h6)⟩
      · (all_goals ((conv => whnf); (try (conv => lhs; whnf))))
        exact ⟨⟨(j + 1, a'), hlt, h3, by rename_i c9; rw [c9] at h6; intro i hi; rcases Nat.lt_succ_iff_lt_or_eq.1 hi with h | rfl; exact hno i h; rw [← hqe]; exact h6.2.2 rfl⟩, Nat.sub_lt_sub_left hlt (Nat.lt_succ_self _), ⟨rfl, congrArg (fun z => AV.i z) (wrap_nat j 10000 (by omega) (by decide)), trivial⟩, _, rfl⟩
    (all_goals ((conv => whnf); (try (conv => lhs; whnf))))
    rename_i c9
    exact ⟨_, _, [], _, rfl, rfl, (by repeat' constructor), rfl, rfl, a, [], false, rfl, ha, rfl, Nat.zero_le _, wp_or0 (no_all (by omega) hno (by simp only [rowE_len] at c9; omega))⟩
  · rename_i c
    subst c
    obtain ⟨x0, x1, x2, xl, rfl⟩ := sh_one hs (.inr rfl)
    rw [tsize_eq] at hnn
    rw [tformedL, tformedL, Bool.and_true] at hfl
    have hx : tsize ⟨x0, x1, x2, xl⟩ ≤ n := by simp only [tsizeL] at hnn; omega
    refine CallV.of_MR 0 (next68 ns a 3 (by decide) (by decide) ha hl) rfl rfl rfl (by repeat' constructor) (fun cs' r ⟨a1, k, h1, ha1, h3, h4, h5⟩ => ?_)
    subst h1 h3
    (repeat' ((conv => whnf); first | refine Sp.t ?_ | refine Sp.f ?_ | refine Sp.n ?_ | refine Sp.d (fun _ => ?_) (fun _ => ?_) | refine Sp.e (fun _ => ?_) (fun _ => ?_) | refine Sp.ne (fun _ => ?_) (fun _ => ?_) | refine Sp.mk (fun _ => ?_) (fun _ => ?_) | refine And.intro (by first | omega | exact Nat.le_of_ble_eq_true rfl | (simp only [List.length_map, rowE_len, List.length_cons, List.length_nil] at *; omega)) ?_ | refine And.intro (Wd.map (fun _ => rfl)) ?_ | refine And.intro (rowE_wd _) ?_ | ((first | refine vix28 ?zb ?zd rfl ?_ | refine vix56 ?zb ?zd rfl ?_ | refine vixI ?zb ?zd rfl ?_); (case zb => first | omega | exact Nat.le_of_ble_eq_true rfl | (simp only [List.length_map, rowE_len, List.length_cons, List.length_nil] at *; omega)); (case zd => first | omega | exact Nat.le_of_ble_eq_true rfl | (simp only [List.length_map, rowE_len, List.length_cons, List.length_nil] at *; omega))) | fail))
    (all_goals ((conv => whnf); (try (conv => lhs; whnf))))
    refine CodeV.see (See.cl 1 (by rfl)) ?_
    refine CodeV.see (See.open 18 1 (by rfl) (by rfl)) ?_
    refine CodeV.loop (α := { x : Nat × Nat × Int × Nat × List (List T) × List Int // (x.2.2.2.1 = x.2.2.2.2.2.length ∧ x.2.2.2.2.1 = iR x.2.2.2.2.2) ∧ x.1 ≤ 2 ∧ x.2.1 ≤ ns.length ∧ x.2.2.1 ≤ 2 - x.1 ∧ x.2.2.2.2.2.length * 4 ≤ x.1 * (2 * tsize ⟨x0, x1, x2, xl⟩ * 4 ^ d) ∧ SP e1 e2 ⟨x0, x1, x2, xl⟩ x.1 x.2.2.2.2.2 }) tab_ok
      (fun x => [(1, .pt 0 0), (18, .rf (2, none) 1 0 x.1.2.2.2.1), (19, .i x.1.2.2.1)]) (fun x => [.st (mk0 ns x.1.2.1), .dead, .row 1 x.1.2.2.2.2.1]) [1, 2] 3 (fun x => 2 - x.1.1)
      ⟨(0, a1, k, 0, [], []), ⟨rfl, rfl⟩, Nat.zero_le _, ha1, by show k ≤ 2 - 0; omega, Nat.zero_le _, sp_nil _ _ _⟩
      ⟨⟨rfl, rfl, rfl, trivial⟩, _, rfl⟩ rfl rfl (fun _ => ⟨rfl, rfl⟩) (fun ⟨(j, a, k, n, els, l), ⟨hn, he⟩, hj, ha, hk, hln, hw⟩ => ?_)
    dsimp only at hn he hj ha hk hln hw ⊢
    subst hn he
    have hu : tsize ⟨7, e1, e2, [⟨x0, x1, x2, xl⟩]⟩ = tsize ⟨x0, x1, x2, xl⟩ + 1 := by rw [tsize_eq, tsizeL, tsizeL]
    have hB2 := wbnd (sfin hln hj hu) (by omega) hd
    (repeat' ((conv => whnf); first | refine Sp.t ?_ | refine Sp.f ?_ | refine Sp.n ?_ | refine Sp.d (fun _ => ?_) (fun _ => ?_) | refine Sp.e (fun _ => ?_) (fun _ => ?_) | refine Sp.ne (fun _ => ?_) (fun _ => ?_) | refine Sp.mk (fun _ => ?_) (fun _ => ?_) | refine And.intro (by first | omega | exact Nat.le_of_ble_eq_true rfl | (simp only [List.length_map, rowE_len, List.length_cons, List.length_nil] at *; omega)) ?_ | refine And.intro (Wd.map (fun _ => rfl)) ?_ | refine And.intro (rowE_wd _) ?_ | ((first | refine vix28 ?zb ?zd rfl ?_ | refine vix56 ?zb ?zd rfl ?_ | refine vixI ?zb ?zd rfl ?_); (case zb => first | omega | exact Nat.le_of_ble_eq_true rfl | (simp only [List.length_map, rowE_len, List.length_cons, List.length_nil] at *; omega)); (case zd => first | omega | exact Nat.le_of_ble_eq_true rfl | (simp only [List.length_map, rowE_len, List.length_cons, List.length_nil] at *; omega))) | fail))
    · cases d with
      | zero => exfalso; omega
      | succ d =>
      have hd1 : IntKind.i64.wrap (((d + 1 : Nat) : Int) - 1) = (d : Int) := by rw [wrap_id (by omega) (by omega)]; omega
      refine CallV.of_MR 0 (ih x0 x1 x2 xl a d hx (by omega) hfl ha (by omega)) rfl rfl (congrArg (fun z => [treeA x0 x1 x2 xl, .pt 0 0, .i z]) hd1) (by repeat' constructor) (fun cs' r ⟨a', w, is, h1, h3, h4, h5, h6⟩ => ?_)
      subst h1 h4
      have hB := wbnd h5 (by omega) (by omega)
      (repeat' ((conv => whnf); first | refine Sp.t ?_ | refine Sp.f ?_ | refine Sp.n ?_ | refine Sp.d (fun _ => ?_) (fun _ => ?_) | refine Sp.e (fun _ => ?_) (fun _ => ?_) | refine Sp.ne (fun _ => ?_) (fun _ => ?_) | refine Sp.mk (fun _ => ?_) (fun _ => ?_) | refine And.intro (by first | omega | exact Nat.le_of_ble_eq_true rfl | (simp only [List.length_map, rowE_len, List.length_cons, List.length_nil] at *; omega)) ?_ | refine And.intro (Wd.map (fun _ => rfl)) ?_ | refine And.intro (rowE_wd _) ?_ | ((first | refine vix28 ?zb ?zd rfl ?_ | refine vix56 ?zb ?zd rfl ?_ | refine vixI ?zb ?zd rfl ?_); (case zb => first | omega | exact Nat.le_of_ble_eq_true rfl | (simp only [List.length_map, rowE_len, List.length_cons, List.length_nil] at *; omega)); (case zd => first | omega | exact Nat.le_of_ble_eq_true rfl | (simp only [List.length_map, rowE_len, List.length_cons, List.length_nil] at *; omega))) | fail))
      · conv => whnf
        refine And.intro (by show (l.length + (iR w).length) * 8 ≤ 140737488355328; rw [List.length_map]; omega) (mv_row (appW l w) ?_)
        (all_goals ((conv => whnf); (try (conv => lhs; whnf))))
        exact ⟨⟨(j + 1, a', _, _, _, l ++ w), ⟨by rw [List.length_append, List.length_map], rfl⟩, by show j + 1 ≤ 2; omega, h3, by show IntKind.i64.wrap (k - 1) ≤ 2 - ((j + 1 : Nat) : Int); rw [wrap_id (by omega) (by omega)]; omega, by show (l ++ w).length * 4 ≤ (j + 1) * _; rw [List.length_append]; exact sb hln h5, (by rename_i c9; rw [c9] at h6; exact sp_snoc hw h6)⟩, Nat.sub_lt_sub_left (show j < 2 by omega) (Nat.lt_succ_self _), ⟨rfl, rfl, rfl, trivial⟩, _, rfl⟩
      · (all_goals ((conv => whnf); (try (conv => lhs; whnf))))
        exact ⟨_, _, [2], _, rfl, rfl, ⟨⟨by show 0 + l.length ≤ (iR l).length; rw [List.length_map]; omega, trivial, trivial⟩, trivial⟩, congrArg (fun t => AV.tup [.t (.sl t), .b true]) (takeI l), rfl, a', l, true, rfl, h3, rfl, sfin hln hj hu, wp_star hw hj⟩
    all_goals
      (all_goals ((conv => whnf); (try (conv => lhs; whnf))))
      exact ⟨_, _, [2], _, rfl, rfl, ⟨⟨by show 0 + l.length ≤ (iR l).length; rw [List.length_map]; omega, trivial, trivial⟩, trivial⟩, congrArg (fun t => AV.tup [.t (.sl t), .b true]) (takeI l), rfl, a, l, true, rfl, ha, rfl, sfin hln hj hu, wp_star hw hj⟩
  · (all_goals ((conv => whnf); (try (conv => lhs; whnf))))
    exact ⟨_, _, [], _, rfl, rfl, (by repeat' constructor), rfl, rfl, a, [], false, rfl, ha, rfl, Nat.zero_le _, wp_none (by assumption) (by assumption) (by assumption) (by assumption) (by assumption) (by assumption)⟩
theorem Some26 (ns : List Int) (hl : ns.length ≤ 17592186043904) (e0 e1 e2 : Int) (xs : List S28) (ht : tsize ⟨e0, e1, e2, xs⟩ ≤ 10000) (hf : tformed ⟨e0, e1, e2, xs⟩ = true) :
    MQ Try.prog 26 [treeA e0 e1 e2 xs, .t (intsE ns)] fun x => ∃ (w : List Int) (is : Bool), x = .tup [.t (intsE w), .b is] ∧ w.length ≤ 2 * tsize ⟨e0, e1, e2, xs⟩ * 64 ∧ (is = true → w.length ≤ 24 ∧ HasW ⟨e0, e1, e2, xs⟩ w) ∧ (is = false → Lv 3 ⟨e0, e1, e2, xs⟩ → ∀ u, HasW ⟨e0, e1, e2, xs⟩ u → 20 < u.length) := by
  refine MQ.shut ?_
  refine M.enter tab_ok Try.func26 rfl (by kernel_rfl) (Nat.le_of_ble_eq_true rfl) ?_
  have h2 : True := trivial
  (all_goals ((conv => whnf); (try (conv => lhs; whnf))))
  refine CallV.of_MR 1 (Word48 ns hl 10000 e0 e1 e2 xs 0 3 ht (Nat.le_refl _) hf (Nat.zero_le _) (Nat.le_refl _)) rfl rfl rfl (by repeat' constructor) (fun cs' r ⟨a', w, is, h1, h3, h4, h5, h6⟩ => ?_)
  subst h1 h4
  (repeat' ((conv => whnf); first | refine Sp.t ?_ | refine Sp.f ?_ | refine Sp.n ?_ | refine Sp.d (fun _ => ?_) (fun _ => ?_) | refine Sp.e (fun _ => ?_) (fun _ => ?_) | refine Sp.ne (fun _ => ?_) (fun _ => ?_) | refine Sp.mk (fun _ => ?_) (fun _ => ?_) | refine And.intro (by first | omega | exact Nat.le_of_ble_eq_true rfl | (simp only [List.length_map, rowE_len, List.length_cons, List.length_nil] at *; omega)) ?_ | refine And.intro (Wd.map (fun _ => rfl)) ?_ | refine And.intro (rowE_wd _) ?_ | ((first | refine vix28 ?zb ?zd rfl ?_ | refine vix56 ?zb ?zd rfl ?_ | refine vixI ?zb ?zd rfl ?_); (case zb => first | omega | exact Nat.le_of_ble_eq_true rfl | (simp only [List.length_map, rowE_len, List.length_cons, List.length_nil] at *; omega)); (case zd => first | omega | exact Nat.le_of_ble_eq_true rfl | (simp only [List.length_map, rowE_len, List.length_cons, List.length_nil] at *; omega))) | fail))
  · (all_goals ((conv => whnf); (try (conv => lhs; whnf))))
    exact ⟨[], _, (by repeat' constructor), rfl, rfl, w, _, rfl, h5, (fun h => ⟨by have := of_decide_eq_true h; simp only [List.length_map] at this; omega, h6.1 (by assumption)⟩), fun h hl u hu => (by have c9 : is = true := (by assumption); rw [c9] at h6; have := of_decide_eq_false h; simp only [List.length_map] at this; exact wp_long h6 hl (by omega) u hu)⟩
  · (all_goals ((conv => whnf); (try (conv => lhs; whnf))))
    exact ⟨[], _, (by repeat' constructor), rfl, rfl, w, false, rfl, h5, (fun h => nomatch h), fun _ hl u hu => absurd hu (h6.2.2 ‹is = false› 3 hl u)⟩
end Go.V.S

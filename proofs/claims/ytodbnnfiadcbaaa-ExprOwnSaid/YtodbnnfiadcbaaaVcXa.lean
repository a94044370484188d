import Derived.Test.YtodbnnfiadcbaaaVcWb
import Derived.Test.YtodbnnfiadcbaaaVcP5
set_option linter.unusedVariables false
set_option linter.unusedSimpArgs false
set_option linter.unusedSectionVars false
namespace Go.V.S
open Go.Proofs Go.RowKit Go.Proofs.Ytodbnnfiadcbaaa.P Go.Proofs.YtodbnnfiadcbaaaW.PrintWords Go.Proofs.YtodbnnfiadcbaaaL
set_option maxRecDepth 10000
theorem within1T (a n : Int) (h0 : 0 < n) (h1 : n ≤ 1000000) : MV Try.prog 29 [.i a, .i n] (.i (a % n)) := within29 (within1_eq a n h0 h1)
abbrev iR (l : List Int) : List (List T) := l.map fun n => [T.v (.int .i64 n)]
theorem appI (l : List Int) (z : Int) : List.take l.length (iR l) ++ List.take 1 (List.drop 0 [[T.v (.int .i64 z)]]) = iR (l ++ [z]) := by
 rw [List.take_of_length_le (by rw [List.length_map]; exact Nat.le_refl _)]; unfold iR; rw [List.map_append]; rfl
theorem takeI (l : List Int) : List.take l.length (List.drop 0 (iR l)) = iR l := List.take_of_length_le (by rw [List.drop_zero, List.length_map]; exact Nat.le_refl _)
theorem Word25 (y : List S56) (ns : List Int) (d : Int) (hy : 0 < y.length) (hy2 : y.length ≤ 1000) (hl : ns.length ≤ 17592186043904) (hd : d ≤ 1000) : MQ Try.prog 25 [.t (symsE y), .t (intsE ns), .i d] fun x => ∃ w : List Int, x = .t (intsE w) ∧ (w.length : Int) ≤ max 0 d := by
 refine MQ.shut ?_
 refine M.enter tab_ok Try.func25 rfl (by kernel_rfl) (Nat.le_of_ble_eq_true rfl) ?_
 have h2 : True := trivial
 (all_goals ((conv => whnf); (try (conv => lhs; whnf))))
 refine CodeV.see (See.open 7 1 rfl rfl) ?_
 refine CodeV.loop (α := { x : Nat × Nat × List (List T) × List Int // (x.2.1 = x.2.2.2.length ∧ x.2.2.1 = x.2.2.2.map fun n => [T.v (.int .i64 n)]) ∧ x.2.2.2.length = x.1 ∧ (x.1 : Int) ≤ max 0 d }) tab_ok
  (fun x => [(7, .rf (0, none) 1 0 x.1.2.1), (8, .i x.1.1)]) (fun x => [.row 1 x.1.2.2.1]) [0] 1 (fun x => ns.length + 1 - x.1.1) ⟨(0, 0, [], []), ⟨rfl, rfl⟩, rfl, by omega⟩
  ⟨⟨rfl, rfl, trivial⟩, _, rfl⟩ rfl rfl (fun _ => ⟨rfl, rfl⟩) (fun ⟨(j, n, els, l), ⟨hn, he⟩, hj, hm⟩ => ?_)
 dsimp only at hn he hj hm ⊢
 subst hn he
 (repeat' ((conv => whnf); first | refine Sp.t ?_ | refine Sp.f ?_ | refine Sp.n ?_ | refine Sp.d (fun _ => ?_) (fun _ => ?_) | refine Sp.e (fun _ => ?_) (fun _ => ?_) | refine Sp.ne (fun _ => ?_) (fun _ => ?_) | refine Sp.mk (fun _ => ?_) (fun _ => ?_) | refine And.intro (by first | omega | exact Nat.le_of_ble_eq_true rfl | (simp only [List.length_map, rowE_len, List.length_cons, List.length_nil] at *; omega)) ?_ | refine And.intro (Wd.map (fun _ => rfl)) ?_ | refine And.intro (rowE_wd _) ?_ | ((first | refine vix28 ?zb ?zd rfl ?_ | refine vix56 ?zb ?zd rfl ?_ | refine vixI ?zb ?zd rfl ?_); (case zb => first | omega | exact Nat.le_of_ble_eq_true rfl | (simp only [List.length_map, rowE_len, List.length_cons, List.length_nil] at *; omega)); (case zd => first | omega | exact Nat.le_of_ble_eq_true rfl | (simp only [List.length_map, rowE_len, List.length_cons, List.length_nil] at *; omega))) | refine CallV.of_MV (within1T _ _ (by simp only [List.length_map]; omega) (by simp only [List.length_map]; omega)) rfl (by repeat' constructor) rfl ?_ | fail))
 ·refine And.intro (by show _ * 8 ≤ 140737488355328; omega) (mv_row (appI l _) ?_)
  (all_goals ((conv => whnf); (try (conv => lhs; whnf))))
  exact ⟨⟨(j + 1, _, _, l ++ [_]), ⟨len1 _ _, rfl⟩, by rw [← hj, len1], by omega⟩, Nat.sub_lt_sub_left (by simp only [List.length_map] at *; omega) (Nat.lt_succ_self _), ⟨rfl, congrArg (fun z => AV.i z) (wrap_nat j 1000 (by omega) (by decide)), trivial⟩, _, rfl⟩
 all_goals
  (all_goals ((conv => whnf); (try (conv => lhs; whnf))))
  exact ⟨[0], _, ⟨by show 0 + l.length ≤ (iR l).length; rw [List.length_map]; omega, trivial⟩, congrArg (fun t => AV.t (.sl t)) (takeI l), rfl, l, rfl, by omega⟩
theorem eta28 (x : S28) : (⟨x.f0, x.f1, x.f2, x.f3⟩ : S28) = x := by cases x; rfl
theorem take_rd (xs : List S28) (j : Nat) (h : j < xs.length) : xs.take (j + 1) = xs.take j ++ [rd_T28 xs (j : Int)] := by
 rw [List.take_add, rd_drop xs j h]; rfl
theorem pow_pos4 (d : Nat) : 1 ≤ 4 ^ d := Nat.one_le_pow _ _ (by decide)
theorem nb {n t t' d : Nat} (h : t' = t + 1) (h5 : n ≤ 2 * t * 4 ^ d) : n + 2 ≤ 2 * t' * 4 ^ d := by
 have := pow_pos4 d
 rw [h, show 2 * (t + 1) * 4 ^ d = 2 * t * 4 ^ d + 2 * 4 ^ d by rw [← Nat.add_mul]; rfl]
 omega
theorem sh_one {a b c : Int} {xs : List S28} (h : shF ⟨a, b, c, xs⟩ = true) (ha : a = 4 ∨ a = 7) : ∃ x0 x1 x2 xl, xs = [⟨x0, x1, x2, xl⟩] := by
 rcases ha with rfl | rfl
 ·simp [shF] at h
  match xs, h with
  | [⟨_, _, _, _⟩], _ => exact ⟨_, _, _, _, rfl⟩
 ·simp [shF] at h
  match xs, h with
  | [⟨_, _, _, _⟩], _ => exact ⟨_, _, _, _, rfl⟩
end Go.V.S

import Derived.Test.YtodbnnfiadcbaaaVcXc
import Derived.Test.YtodbnnfiadcbaaaVcP5
set_option linter.unusedVariables false
set_option linter.unusedSimpArgs false
set_option linter.unusedSectionVars false
namespace Go.V.S
open Go.Proofs Go.RowKit Go.Proofs.Ytodbnnfiadcbaaa.P
set_option maxRecDepth 10000
theorem table71 (n : Nat) (hn : n ≤ 1000000) : M Try.prog 71 [] [.i n] [] fun h r => h = [.dead, .nest 1 1 (tabN (fun _ _ => false) n)] ∧ r = .rf (1, none) 1 0 (n + 1) := by
 refine M.enter tab_ok Try.func71 rfl (by kernel_rfl) (Nat.le_of_ble_eq_true rfl) ?_
 have h2 : True := trivial
 have hw := wrapN n (by omega)
 (repeat' ((conv => whnf); first | refine Sp.t ?_ | refine Sp.f ?_ | refine Sp.n ?_ | refine Sp.d (fun _ => ?_) (fun _ => ?_) | refine Sp.e (fun _ => ?_) (fun _ => ?_) | refine Sp.ne (fun _ => ?_) (fun _ => ?_) | refine Sp.mk (fun _ => ?_) (fun _ => ?_) | refine And.intro (by first | omega | exact Nat.le_of_ble_eq_true rfl | (simp only [List.length_map, rowE_len, List.length_cons, List.length_nil] at *; omega)) ?_ | refine And.intro (Wd.map (fun _ => rfl)) ?_ | refine And.intro (rowE_wd _) ?_ | ((first | refine vix28 ?zb ?zd rfl ?_ | refine vix56 ?zb ?zd rfl ?_ | refine vixI ?zb ?zd rfl ?_); (case zb => first | omega | exact Nat.le_of_ble_eq_true rfl | (simp only [List.length_map, rowE_len, List.length_cons, List.length_nil] at *; omega)); (case zd => first | omega | exact Nat.le_of_ble_eq_true rfl | (simp only [List.length_map, rowE_len, List.length_cons, List.length_nil] at *; omega))) | fail))
 conv => whnf
 rw [hw, Int.toNat_natCast]
 refine And.intro (by show ((n + 1 : Nat) : Int) * 24 ≤ _; omega) (And.intro (by omega) ?_)
 (repeat' ((conv => whnf); first | refine Sp.t ?_ | refine Sp.f ?_ | refine Sp.n ?_ | refine Sp.d (fun _ => ?_) (fun _ => ?_) | refine Sp.e (fun _ => ?_) (fun _ => ?_) | refine Sp.ne (fun _ => ?_) (fun _ => ?_) | refine Sp.mk (fun _ => ?_) (fun _ => ?_) | refine And.intro (by first | omega | exact Nat.le_of_ble_eq_true rfl | (simp only [List.length_map, rowE_len, List.length_cons, List.length_nil] at *; omega)) ?_ | refine And.intro (Wd.map (fun _ => rfl)) ?_ | refine And.intro (rowE_wd _) ?_ | ((first | refine vix28 ?zb ?zd rfl ?_ | refine vix56 ?zb ?zd rfl ?_ | refine vixI ?zb ?zd rfl ?_); (case zb => first | omega | exact Nat.le_of_ble_eq_true rfl | (simp only [List.length_map, rowE_len, List.length_cons, List.length_nil] at *; omega)); (case zd => first | omega | exact Nat.le_of_ble_eq_true rfl | (simp only [List.length_map, rowE_len, List.length_cons, List.length_nil] at *; omega))) | fail))
 refine CodeV.see (See.nest 0 1 (els := List.replicate (n + 1) [T.sl []]) rfl (fun el h => List.eq_of_mem_replicate h)) ?_
 refine CodeV.loop (α := { x : Nat // x ≤ n + 1 }) tab_ok (fun x => [(3, .rf (1, none) 1 0 (n + 1)), (4, .i x.1)]) (fun x => [.dead, .nest 1 1 (pt x.1 n)]) [0, 1, 2] 2 (fun x => n + 1 - x.1) ⟨0, Nat.zero_le _⟩
  ⟨⟨rfl, rfl, trivial⟩, [], congrArg (fun e => [AO.dead, AO.nest 1 1 e]) (pt0 n)⟩ rfl rfl (fun _ => ⟨rfl, rfl⟩) (fun ⟨i, hi⟩ => ?_)
 dsimp only at hi ⊢
 (repeat' ((conv => whnf); first | refine Sp.t ?_ | refine Sp.f ?_ | refine Sp.n ?_ | refine Sp.d (fun _ => ?_) (fun _ => ?_) | refine Sp.e (fun _ => ?_) (fun _ => ?_) | refine Sp.ne (fun _ => ?_) (fun _ => ?_) | refine Sp.mk (fun _ => ?_) (fun _ => ?_) | refine And.intro (by first | omega | exact Nat.le_of_ble_eq_true rfl | (simp only [List.length_map, rowE_len, List.length_cons, List.length_nil] at *; omega)) ?_ | refine And.intro (Wd.map (fun _ => rfl)) ?_ | refine And.intro (rowE_wd _) ?_ | ((first | refine vix28 ?zb ?zd rfl ?_ | refine vix56 ?zb ?zd rfl ?_ | refine vixI ?zb ?zd rfl ?_); (case zb => first | omega | exact Nat.le_of_ble_eq_true rfl | (simp only [List.length_map, rowE_len, List.length_cons, List.length_nil] at *; omega)); (case zd => first | omega | exact Nat.le_of_ble_eq_true rfl | (simp only [List.length_map, rowE_len, List.length_cons, List.length_nil] at *; omega))) | fail))
 ·rename_i c
  have hin : i ≤ n := by omega
  conv => whnf
  rw [hw, Int.toNat_natCast]
  refine And.intro (by show ((n + 1 : Nat) : Int) * 1 ≤ _; omega) (And.intro (by omega) ?_)
  (repeat' ((conv => whnf); first | refine Sp.t ?_ | refine Sp.f ?_ | refine Sp.n ?_ | refine Sp.d (fun _ => ?_) (fun _ => ?_) | refine Sp.e (fun _ => ?_) (fun _ => ?_) | refine Sp.ne (fun _ => ?_) (fun _ => ?_) | refine Sp.mk (fun _ => ?_) (fun _ => ?_) | refine And.intro (by first | omega | exact Nat.le_of_ble_eq_true rfl | (simp only [List.length_map, rowE_len, List.length_cons, List.length_nil] at *; omega)) ?_ | refine And.intro (Wd.map (fun _ => rfl)) ?_ | refine And.intro (rowE_wd _) ?_ | ((first | refine vix28 ?zb ?zd rfl ?_ | refine vix56 ?zb ?zd rfl ?_ | refine vixI ?zb ?zd rfl ?_); (case zb => first | omega | exact Nat.le_of_ble_eq_true rfl | (simp only [List.length_map, rowE_len, List.length_cons, List.length_nil] at *; omega)); (case zd => first | omega | exact Nat.le_of_ble_eq_true rfl | (simp only [List.length_map, rowE_len, List.length_cons, List.length_nil] at *; omega))) | fail))
  conv => whnf
  refine vLay hin (by omega) rfl ?_
  (all_goals ((conv => whnf); (try (conv => lhs; whnf))))
  exact ⟨⟨i + 1, by omega⟩, Nat.sub_lt_sub_left (by show i < n + 1; omega) (Nat.lt_succ_self _), ⟨rfl, congrArg (fun z => AV.i z) (wrapN i (by omega)), trivial⟩, _, rfl⟩
 ·rename_i c
  obtain rfl : i = n + 1 := by omega
  rw [ptn]
  (all_goals ((conv => whnf); (try (conv => lhs; whnf))))
  exact ⟨rfl, rfl⟩
set_option maxHeartbeats 2000000 in
theorem behind72 (A B : Nat → Nat → Bool) (n : Nat) (hn : n ≤ 1000000) : M Try.prog 72 [] [.t (tabT A n), .t (tabT B n)] [] fun h r => ∃ R, Beh A B n (fun _ _ _ => True) R ∧ h = [.dead, .nest 1 1 (tabN R n)] ∧ r = .rf (1, none) 1 0 (n + 1) := by
 refine M.enter tab_ok Try.func72 rfl (by kernel_rfl) (Nat.le_of_ble_eq_true rfl) ?_
 have h2 : True := trivial
 have hl : IntKind.i64.wrap (((tabR A n).length : Int) - 1) = (n : Int) := by rw [tab_len, wrap64_eq, wrap64]; omega
 have hl2 : ((tabR A n).length : Int) = ((n + 1 : Nat) : Int) := by rw [tab_len]
 (repeat' ((conv => whnf); first | refine Sp.t ?_ | refine Sp.f ?_ | refine Sp.n ?_ | refine Sp.d (fun _ => ?_) (fun _ => ?_) | refine Sp.e (fun _ => ?_) (fun _ => ?_) | refine Sp.ne (fun _ => ?_) (fun _ => ?_) | refine Sp.mk (fun _ => ?_) (fun _ => ?_) | refine And.intro (by first | omega | exact Nat.le_of_ble_eq_true rfl | (simp only [List.length_map, rowE_len, List.length_cons, List.length_nil] at *; omega)) ?_ | refine And.intro (Wd.map (fun _ => rfl)) ?_ | refine And.intro (rowE_wd _) ?_ | ((first | refine vix28 ?zb ?zd rfl ?_ | refine vix56 ?zb ?zd rfl ?_ | refine vixI ?zb ?zd rfl ?_); (case zb => first | omega | exact Nat.le_of_ble_eq_true rfl | (simp only [List.length_map, rowE_len, List.length_cons, List.length_nil] at *; omega)); (case zd => first | omega | exact Nat.le_of_ble_eq_true rfl | (simp only [List.length_map, rowE_len, List.length_cons, List.length_nil] at *; omega))) | fail))
 conv => whnf
 refine CallV.of_M [] [] [] (table71 n hn) rfl rfl (congrArg (fun z => [AV.i z]) hl) (by repeat' constructor) (fun h' r ⟨hh, hr⟩ => ?_)
 subst hh hr
 (repeat' ((conv => whnf); first | refine Sp.t ?_ | refine Sp.f ?_ | refine Sp.n ?_ | refine Sp.d (fun _ => ?_) (fun _ => ?_) | refine Sp.e (fun _ => ?_) (fun _ => ?_) | refine Sp.ne (fun _ => ?_) (fun _ => ?_) | refine Sp.mk (fun _ => ?_) (fun _ => ?_) | refine And.intro (by first | omega | exact Nat.le_of_ble_eq_true rfl | (simp only [List.length_map, rowE_len, List.length_cons, List.length_nil] at *; omega)) ?_ | refine And.intro (Wd.map (fun _ => rfl)) ?_ | refine And.intro (rowE_wd _) ?_ | ((first | refine vix28 ?zb ?zd rfl ?_ | refine vix56 ?zb ?zd rfl ?_ | refine vixI ?zb ?zd rfl ?_); (case zb => first | omega | exact Nat.le_of_ble_eq_true rfl | (simp only [List.length_map, rowE_len, List.length_cons, List.length_nil] at *; omega)); (case zd => first | omega | exact Nat.le_of_ble_eq_true rfl | (simp only [List.length_map, rowE_len, List.length_cons, List.length_nil] at *; omega))) | fail))
 refine CodeV.loop (α := { x : Nat × (Nat → Nat → Bool) // x.1 ≤ n + 1 ∧ Beh A B n (lexJ x.1 0 0) x.2 }) tab_ok (fun x => [(5, .rf (1, none) 1 0 (n + 1)), (6, .i x.1.1)]) (fun x => [.dead, .nest 1 1 (tabN x.1.2 n)]) [1] 2 (fun x => n + 1 - x.1.1)
  ⟨(0, fun _ _ => false), Nat.zero_le _, fun i j hi hj => by simp only [Bool.false_eq_true, false_iff]; rintro ⟨k, _, _, _, _, h⟩; unfold lexJ at h; omega⟩
  ⟨⟨rfl, rfl, trivial⟩, [], rfl⟩ rfl rfl (fun _ => ⟨rfl, rfl⟩) (fun ⟨(i, M), hi, hM⟩ => ?_)
 dsimp only at hi hM ⊢
 (repeat' ((conv => whnf); first | refine Sp.t ?_ | refine Sp.f ?_ | refine Sp.n ?_ | refine Sp.d (fun _ => ?_) (fun _ => ?_) | refine Sp.e (fun _ => ?_) (fun _ => ?_) | refine Sp.ne (fun _ => ?_) (fun _ => ?_) | refine Sp.mk (fun _ => ?_) (fun _ => ?_) | refine And.intro (by first | omega | exact Nat.le_of_ble_eq_true rfl | (simp only [List.length_map, rowE_len, List.length_cons, List.length_nil] at *; omega)) ?_ | refine And.intro (Wd.map (fun _ => rfl)) ?_ | refine And.intro (rowE_wd _) ?_ | ((first | refine vix28 ?zb ?zd rfl ?_ | refine vix56 ?zb ?zd rfl ?_ | refine vixI ?zb ?zd rfl ?_); (case zb => first | omega | exact Nat.le_of_ble_eq_true rfl | (simp only [List.length_map, rowE_len, List.length_cons, List.length_nil] at *; omega)); (case zd => first | omega | exact Nat.le_of_ble_eq_true rfl | (simp only [List.length_map, rowE_len, List.length_cons, List.length_nil] at *; omega))) | fail))
 case' refine_2 =>
  rename_i c
  obtain rfl : i = n + 1 := by rw [hl2] at c; omega
  (all_goals ((conv => whnf); (try (conv => lhs; whnf))))
  exact ⟨M, hM.iff (fun i k j h1 h2 h3 _ => by unfold lexJ; simp only [iff_true]; omega), rfl, rfl⟩
 have hin : i ≤ n := by rename_i c; rw [hl2] at c; omega
 conv => whnf
 refine CodeV.loop (α := { x : Nat × (Nat → Nat → Bool) // i ≤ x.1 ∧ x.1 ≤ n + 1 ∧ Beh A B n (lexJ i x.1 0) x.2 }) tab_ok (fun x => [(5, .rf (1, none) 1 0 (n + 1)), (7, .i x.1.1)]) (fun x => [.dead, .nest 1 1 (tabN x.1.2 n)]) [1] 2 (fun x => n + 1 - x.1.1)
  ⟨(i, M), Nat.le_refl _, hi, hM.iff (fun i k j h1 h2 h3 _ => by unfold lexJ; omega)⟩
  ⟨⟨rfl, rfl, trivial⟩, [], rfl⟩ rfl rfl (fun _ => ⟨rfl, rfl⟩) (fun ⟨(k, M), hik, hk, hM⟩ => ?_)
 dsimp only at hik hk hM ⊢
 (repeat' ((conv => whnf); first | refine Sp.t ?_ | refine Sp.f ?_ | refine Sp.n ?_ | refine Sp.d (fun _ => ?_) (fun _ => ?_) | refine Sp.e (fun _ => ?_) (fun _ => ?_) | refine Sp.ne (fun _ => ?_) (fun _ => ?_) | refine Sp.mk (fun _ => ?_) (fun _ => ?_) | refine And.intro (by first | omega | exact Nat.le_of_ble_eq_true rfl | (simp only [List.length_map, rowE_len, List.length_cons, List.length_nil] at *; omega)) ?_ | refine And.intro (Wd.map (fun _ => rfl)) ?_ | refine And.intro (rowE_wd _) ?_ | ((first | refine vix28 ?zb ?zd rfl ?_ | refine vix56 ?zb ?zd rfl ?_ | refine vixI ?zb ?zd rfl ?_); (case zb => first | omega | exact Nat.le_of_ble_eq_true rfl | (simp only [List.length_map, rowE_len, List.length_cons, List.length_nil] at *; omega)); (case zd => first | omega | exact Nat.le_of_ble_eq_true rfl | (simp only [List.length_map, rowE_len, List.length_cons, List.length_nil] at *; omega))) | fail))
 case' refine_2 =>
  rename_i c
  obtain rfl : k = n + 1 := by rw [hl2] at c; omega
  (all_goals ((conv => whnf); (try (conv => lhs; whnf))))
  exact ⟨⟨(i + 1, M), Nat.succ_le_succ hin, hM.iff (fun i k j h1 h2 h3 _ => by unfold lexJ; omega)⟩, Nat.sub_lt_sub_left (Nat.lt_succ_of_le hin) (Nat.lt_succ_self _), ⟨rfl, congrArg (fun z => AV.i z) (wrapN i (by omega)), trivial⟩, _, rfl⟩
 have hkn : k ≤ n := by rename_i c; rw [hl2] at c; omega
 conv => whnf
 refine CodeV.loop (α := { x : Nat × (Nat → Nat → Bool) // k ≤ x.1 ∧ x.1 ≤ n + 1 ∧ Beh A B n (lexJ i k x.1) x.2 }) tab_ok (fun x => [(5, .rf (1, none) 1 0 (n + 1)), (8, .i x.1.1)]) (fun x => [.dead, .nest 1 1 (tabN x.1.2 n)]) [1] 2 (fun x => n + 1 - x.1.1)
  ⟨(k, M), Nat.le_refl _, hk, hM.iff (fun i k j h1 h2 h3 _ => by unfold lexJ; omega)⟩
  ⟨⟨rfl, rfl, trivial⟩, [], rfl⟩ rfl rfl (fun _ => ⟨rfl, rfl⟩) (fun ⟨(j, M), hkj, hj, hM⟩ => ?_)
 dsimp only at hkj hj hM ⊢
 (repeat' ((conv => whnf); first | refine Sp.t ?_ | refine Sp.f ?_ | refine Sp.n ?_ | refine Sp.d (fun _ => ?_) (fun _ => ?_) | refine Sp.e (fun _ => ?_) (fun _ => ?_) | refine Sp.ne (fun _ => ?_) (fun _ => ?_) | refine Sp.mk (fun _ => ?_) (fun _ => ?_) | refine And.intro (by first | omega | exact Nat.le_of_ble_eq_true rfl | (simp only [List.length_map, rowE_len, List.length_cons, List.length_nil] at *; omega)) ?_ | refine And.intro (Wd.map (fun _ => rfl)) ?_ | refine And.intro (rowE_wd _) ?_ | ((first | refine vix28 ?zb ?zd rfl ?_ | refine vix56 ?zb ?zd rfl ?_ | refine vixI ?zb ?zd rfl ?_); (case zb => first | omega | exact Nat.le_of_ble_eq_true rfl | (simp only [List.length_map, rowE_len, List.length_cons, List.length_nil] at *; omega)); (case zd => first | omega | exact Nat.le_of_ble_eq_true rfl | (simp only [List.length_map, rowE_len, List.length_cons, List.length_nil] at *; omega))) | refine And.intro (by first | omega | (simp only [List.length_map, List.length_range] at *; omega)) ?_ | ((first | refine vTe ?zb rfl ?_ | refine vTb ?zb rfl ?_ | refine vN ?zb ?_); (case zb => first | omega | (simp only [List.length_map, List.length_range] at *; omega))) | ((first | refine vNs ?zb ?zd ?_ | refine vN2 ?zb ?zd ?_); (case zb => first | omega | (simp only [List.length_map, List.length_range] at *; omega)); (case zd => first | omega | (simp only [List.length_map, List.length_range] at *; omega))) | fail))
 case' refine_1.refine_2 =>
  have hA : A i k = false := by assumption
  (all_goals ((conv => whnf); (try (conv => lhs; whnf))))
  exact ⟨⟨(k + 1, M), by omega, Nat.succ_le_succ hkn, hM.iff (fun i' k' j' h1 h2 h3 h4 => by
   have : ¬ (i' = i ∧ k' = k) := fun ⟨e1, e2⟩ => by subst e1; subst e2; rw [hA] at h4; cases h4
   unfold lexJ; omega)⟩, Nat.sub_lt_sub_left (Nat.lt_succ_of_le hkn) (Nat.lt_succ_self _), ⟨rfl, congrArg (fun z => AV.i z) (wrapN k (by omega)), trivial⟩, _, rfl⟩
 case' refine_2 =>
  rename_i c
  obtain rfl : j = n + 1 := by rw [hl2] at c; omega
  (all_goals ((conv => whnf); (try (conv => lhs; whnf))))
  exact ⟨⟨(k + 1, M), by omega, Nat.succ_le_succ hkn, hM.iff (fun i' k' j' h1 h2 h3 h4 => by unfold lexJ; omega)⟩, Nat.sub_lt_sub_left (Nat.lt_succ_of_le hkn) (Nat.lt_succ_self _), ⟨rfl, congrArg (fun z => AV.i z) (wrapN k (by omega)), trivial⟩, _, rfl⟩
 have hA : A i k = true := by assumption
 have hjn : j ≤ n := by have c : (j : Int) < ((tabR A n).length : Int) := (by assumption); rw [hl2] at c; omega
 conv => whnf
 (refine CodeV.draw tab_ok (tk [0,1,2,3,4,5,6,7,8,9,10,11,12,13,14,15,16,17,18,19,20,21] (.only 22 .nil)) [0, 0, 3, 7, 0, 0, 0, 96, 224, 0, 992, 2016, 4064, 8160, 8160, 32736, 65504, 8160, 262112, 524256, 1048544, 2097151, 4194303] ⟨by kernel_rfl, by kernel_rfl, by kernel_rfl, by kernel_rfl, by kernel_rfl, by kernel_rfl⟩ ?_)
 (repeat' ((conv => whnf); first | refine Sp.t ?_ | refine Sp.f ?_ | refine Sp.n ?_ | refine Sp.d (fun _ => ?_) (fun _ => ?_) | refine Sp.e (fun _ => ?_) (fun _ => ?_) | refine Sp.ne (fun _ => ?_) (fun _ => ?_) | refine Sp.mk (fun _ => ?_) (fun _ => ?_) | refine And.intro (by first | omega | exact Nat.le_of_ble_eq_true rfl | (simp only [List.length_map, rowE_len, List.length_cons, List.length_nil] at *; omega)) ?_ | refine And.intro (Wd.map (fun _ => rfl)) ?_ | refine And.intro (rowE_wd _) ?_ | ((first | refine vix28 ?zb ?zd rfl ?_ | refine vix56 ?zb ?zd rfl ?_ | refine vixI ?zb ?zd rfl ?_); (case zb => first | omega | exact Nat.le_of_ble_eq_true rfl | (simp only [List.length_map, rowE_len, List.length_cons, List.length_nil] at *; omega)); (case zd => first | omega | exact Nat.le_of_ble_eq_true rfl | (simp only [List.length_map, rowE_len, List.length_cons, List.length_nil] at *; omega))) | refine And.intro (by first | omega | (simp only [List.length_map, List.length_range] at *; omega)) ?_ | ((first | refine vTe ?zb rfl ?_ | refine vTb ?zb rfl ?_ | refine vN ?zb ?_); (case zb => first | omega | (simp only [List.length_map, List.length_range] at *; omega))) | ((first | refine vNs ?zb ?zd ?_ | refine vN2 ?zb ?zd ?_); (case zb => first | omega | (simp only [List.length_map, List.length_range] at *; omega)); (case zd => first | omega | (simp only [List.length_map, List.length_range] at *; omega))) | fail))
 ·have hM1 : M i j = true := by assumption
  (all_goals ((conv => whnf); (try (conv => lhs; whnf))))
  exact ⟨⟨(j + 1, up M i j true), by omega, Nat.succ_le_succ hjn, hM.step hik hkj hA (by rw [hM1, Bool.true_or]) (fun i' k' j' => by unfold lexJ; omega)⟩, Nat.sub_lt_sub_left (Nat.lt_succ_of_le hjn) (Nat.lt_succ_self _), ⟨rfl, congrArg (fun z => AV.i z) (wrapN j (by omega)), trivial⟩, _, rfl⟩
 ·have hM1 : M i j = false := by assumption
  (all_goals ((conv => whnf); (try (conv => lhs; whnf))))
  exact ⟨⟨(j + 1, up M i j (B k j)), by omega, Nat.succ_le_succ hjn, hM.step hik hkj hA (by rw [hM1, Bool.false_or]) (fun i' k' j' => by unfold lexJ; omega)⟩, Nat.sub_lt_sub_left (Nat.lt_succ_of_le hjn) (Nat.lt_succ_self _), ⟨rfl, congrArg (fun z => AV.i z) (wrapN j (by omega)), trivial⟩, _, rfl⟩
theorem nest_shut (M : Nat → Nat → Bool) (n : Nat) : List.take (n + 1) (List.drop 0 ((tabN M n).map nestT)) = tabR M n := by
 rw [List.drop_zero, tab_nestT]; exact List.take_of_length_le (by rw [tab_len]; exact Nat.le_refl _)
theorem behindV (A B : Nat → Nat → Bool) (n : Nat) (hn : n ≤ 1000000) : MQ Try.prog 72 [.t (tabT A n), .t (tabT B n)] fun x => ∃ R, Beh A B n (fun _ _ _ => True) R ∧ x = .t (tabT R n) := by
 refine MQ.shut ((behind72 A B n hn).mono fun h r ⟨R, hR, h1, h2⟩ => ?_)
 subst h1 h2
 exact ⟨[1], _, ⟨by show 0 + (n + 1) ≤ (tabN R n).length; rw [List.length_map, List.length_range]; omega, trivial⟩, congrArg (fun t => AV.t (.sl t)) (nest_shut R n), rfl, R, hR, rfl⟩
def StP (A : Nat → Nat → Bool) (Y : Nat → Nat → Prop) (n : Nat) (lex : Nat → Nat → Prop) (dia : Nat → Prop) (M : Nat → Nat → Bool) : Prop := ∀ i j, i ≤ n → j ≤ n → (M i j = true ↔ Y i j ∨ (i = j ∧ dia i) ∨ (i ≤ j ∧ A i j = true ∧ lex i j))
theorem StP.iff {A M : Nat → Nat → Bool} {Y : Nat → Nat → Prop} {n : Nat} {p q : Nat → Nat → Prop} {d e : Nat → Prop} (h : StP A Y n p d M) (hp : ∀ i j, i ≤ j → j ≤ n → (p i j ↔ q i j)) (hd : ∀ i, i ≤ n → (d i ↔ e i)) : StP A Y n q e M := fun i j hi hj => by
 rw [h i j hi hj, hd i hi]
 constructor
 ·rintro (h | h | ⟨h1, h2, h3⟩)
  ·exact .inl h
  ·exact .inr (.inl h)
  ·exact .inr (.inr ⟨h1, h2, (hp i j h1 hj).1 h3⟩)
 ·rintro (h | h | ⟨h1, h2, h3⟩)
  ·exact .inl h
  ·exact .inr (.inl h)
  ·exact .inr (.inr ⟨h1, h2, (hp i j h1 hj).2 h3⟩)
theorem StP.dia {A M : Nat → Nat → Bool} {Y : Nat → Nat → Prop} {n i : Nat} {p : Nat → Nat → Prop} {d e : Nat → Prop} (h : StP A Y n p d M) (he : ∀ i', e i' ↔ d i' ∨ i' = i) : StP A Y n p e (up M i i true) := fun i' j' hi hj => by
 unfold up
 by_cases q : i' = i ∧ j' = i
 ·obtain ⟨rfl, rfl⟩ := q
  rw [if_pos ⟨rfl, rfl⟩]
  exact ⟨fun _ => .inr (.inl ⟨rfl, (he _).2 (.inr rfl)⟩), fun _ => rfl⟩
 ·rw [if_neg q, h i' j' hi hj, he]
  constructor
  ·rintro (h | ⟨h1, h2⟩ | h)
   ·exact .inl h
   ·exact .inr (.inl ⟨h1, .inl h2⟩)
   ·exact .inr (.inr h)
  ·rintro (h | ⟨h1, h2 | h2⟩ | h)
   ·exact .inl h
   ·exact .inr (.inl ⟨h1, h2⟩)
   ·exact absurd ⟨h2, by omega⟩ q
   ·exact .inr (.inr h)
theorem StP.step {A M : Nat → Nat → Bool} {Y : Nat → Nat → Prop} {n i j : Nat} {p q : Nat → Nat → Prop} {d : Nat → Prop} {b : Bool} (h : StP A Y n p d M) (hij : i ≤ j) (hb : b = (M i j || A i j)) (hq : ∀ i' j', q i' j' ↔ p i' j' ∨ (i' = i ∧ j' = j)) :
 StP A Y n q d (up M i j b) := fun i' j' hi hj => by
 unfold up
 by_cases e : i' = i ∧ j' = j
 ·obtain ⟨rfl, rfl⟩ := e
  rw [if_pos ⟨rfl, rfl⟩, hb, Bool.or_eq_true, h i' j' hi hj]
  constructor
  ·rintro ((h | h | ⟨h1, h2, h3⟩) | g)
   ·exact .inl h
   ·exact .inr (.inl h)
   ·exact .inr (.inr ⟨h1, h2, (hq _ _).2 (.inl h3)⟩)
   ·exact .inr (.inr ⟨hij, g, (hq _ _).2 (.inr ⟨rfl, rfl⟩)⟩)
  ·rintro (h | h | ⟨h1, h2, h3⟩)
   ·exact .inl (.inl h)
   ·exact .inl (.inr (.inl h))
   ·exact .inr h2
 ·rw [if_neg e, h i' j' hi hj]
  constructor
  ·rintro (h | h | ⟨h1, h2, h3⟩)
   ·exact .inl h
   ·exact .inr (.inl h)
   ·exact .inr (.inr ⟨h1, h2, (hq _ _).2 (.inl h3)⟩)
  ·rintro (h | h | ⟨h1, h2, h3⟩)
   ·exact .inl h
   ·exact .inr (.inl h)
   ·rcases (hq _ _).1 h3 with h3 | h3
    ·exact .inr (.inr ⟨h1, h2, h3⟩)
    ·exact absurd h3 e
set_option maxHeartbeats 2000000 in
theorem starV (A B : Nat → Nat → Bool) (n : Nat) (hn : n ≤ 1000000) : MQ Try.prog 73 [.t (tabT A n), .t (tabT B n)] fun x => ∃ R, (∀ i j, i ≤ n → j ≤ n → (R i j = true ↔ (∃ k, i ≤ k ∧ k ≤ j ∧ A i k = true ∧ B k j = true) ∨ i = j ∨ (i ≤ j ∧ A i j = true))) ∧ x = .t (tabT R n) := by
 refine MQ.shut ?_
 refine M.enter tab_ok Try.func73 rfl (by kernel_rfl) (Nat.le_of_ble_eq_true rfl) ?_
 have h2 : True := trivial
 have hl2 : ((tabR A n).length : Int) = ((n + 1 : Nat) : Int) := by rw [tab_len]
 (repeat' ((conv => whnf); first | refine Sp.t ?_ | refine Sp.f ?_ | refine Sp.n ?_ | refine Sp.d (fun _ => ?_) (fun _ => ?_) | refine Sp.e (fun _ => ?_) (fun _ => ?_) | refine Sp.ne (fun _ => ?_) (fun _ => ?_) | refine Sp.mk (fun _ => ?_) (fun _ => ?_) | refine And.intro (by first | omega | exact Nat.le_of_ble_eq_true rfl | (simp only [List.length_map, rowE_len, List.length_cons, List.length_nil] at *; omega)) ?_ | refine And.intro (Wd.map (fun _ => rfl)) ?_ | refine And.intro (rowE_wd _) ?_ | ((first | refine vix28 ?zb ?zd rfl ?_ | refine vix56 ?zb ?zd rfl ?_ | refine vixI ?zb ?zd rfl ?_); (case zb => first | omega | exact Nat.le_of_ble_eq_true rfl | (simp only [List.length_map, rowE_len, List.length_cons, List.length_nil] at *; omega)); (case zd => first | omega | exact Nat.le_of_ble_eq_true rfl | (simp only [List.length_map, rowE_len, List.length_cons, List.length_nil] at *; omega))) | fail))
 conv => whnf
 refine CallV.of_M [] [] [] (behind72 A B n hn) rfl rfl rfl (by repeat' constructor) (fun h' r ⟨R, hR, hh, hr⟩ => ?_)
 subst hh hr
 (repeat' ((conv => whnf); first | refine Sp.t ?_ | refine Sp.f ?_ | refine Sp.n ?_ | refine Sp.d (fun _ => ?_) (fun _ => ?_) | refine Sp.e (fun _ => ?_) (fun _ => ?_) | refine Sp.ne (fun _ => ?_) (fun _ => ?_) | refine Sp.mk (fun _ => ?_) (fun _ => ?_) | refine And.intro (by first | omega | exact Nat.le_of_ble_eq_true rfl | (simp only [List.length_map, rowE_len, List.length_cons, List.length_nil] at *; omega)) ?_ | refine And.intro (Wd.map (fun _ => rfl)) ?_ | refine And.intro (rowE_wd _) ?_ | ((first | refine vix28 ?zb ?zd rfl ?_ | refine vix56 ?zb ?zd rfl ?_ | refine vixI ?zb ?zd rfl ?_); (case zb => first | omega | exact Nat.le_of_ble_eq_true rfl | (simp only [List.length_map, rowE_len, List.length_cons, List.length_nil] at *; omega)); (case zd => first | omega | exact Nat.le_of_ble_eq_true rfl | (simp only [List.length_map, rowE_len, List.length_cons, List.length_nil] at *; omega))) | fail))
 refine CodeV.loop (α := { x : Nat × (Nat → Nat → Bool) // x.1 ≤ n + 1 ∧ StP A (fun i j => ∃ k, i ≤ k ∧ k ≤ j ∧ A i k = true ∧ B k j = true) n (fun i' _ => i' < x.1) (fun i' => i' < x.1) x.2 }) tab_ok (fun x => [(5, .rf (1, none) 1 0 (n + 1)), (6, .i x.1.1)]) (fun x => [.dead, .nest 1 1 (tabN x.1.2 n)]) [1] 2 (fun x => n + 1 - x.1.1)
  ⟨(0, R), Nat.zero_le _, fun i j hi hj => by
    rw [hR i j hi hj]
    constructor
    ·rintro ⟨k, h1, h2, h3, h4, _⟩; exact .inl ⟨k, h1, h2, h3, h4⟩
    ·rintro (⟨k, h1, h2, h3, h4⟩ | ⟨_, h⟩ | ⟨_, _, h⟩)
     ·exact ⟨k, h1, h2, h3, h4, trivial⟩
     ·exact absurd h (Nat.not_lt_zero _)
     ·exact absurd h (Nat.not_lt_zero _)⟩
  ⟨⟨rfl, rfl, trivial⟩, [], rfl⟩ rfl rfl (fun _ => ⟨rfl, rfl⟩) (fun ⟨(i, M), hi, hM⟩ => ?_)
 dsimp only at hi hM ⊢
 (repeat' ((conv => whnf); first | refine Sp.t ?_ | refine Sp.f ?_ | refine Sp.n ?_ | refine Sp.d (fun _ => ?_) (fun _ => ?_) | refine Sp.e (fun _ => ?_) (fun _ => ?_) | refine Sp.ne (fun _ => ?_) (fun _ => ?_) | refine Sp.mk (fun _ => ?_) (fun _ => ?_) | refine And.intro (by first | omega | exact Nat.le_of_ble_eq_true rfl | (simp only [List.length_map, rowE_len, List.length_cons, List.length_nil] at *; omega)) ?_ | refine And.intro (Wd.map (fun _ => rfl)) ?_ | refine And.intro (rowE_wd _) ?_ | ((first | refine vix28 ?zb ?zd rfl ?_ | refine vix56 ?zb ?zd rfl ?_ | refine vixI ?zb ?zd rfl ?_); (case zb => first | omega | exact Nat.le_of_ble_eq_true rfl | (simp only [List.length_map, rowE_len, List.length_cons, List.length_nil] at *; omega)); (case zd => first | omega | exact Nat.le_of_ble_eq_true rfl | (simp only [List.length_map, rowE_len, List.length_cons, List.length_nil] at *; omega))) | fail))
 case' refine_2 =>
  rename_i c
  obtain rfl : i = n + 1 := by rw [hl2] at c; omega
  (all_goals ((conv => whnf); (try (conv => lhs; whnf))))
  refine ⟨[1], _, ⟨by show 0 + (n + 1) ≤ (tabN M n).length; rw [List.length_map, List.length_range]; omega, trivial⟩, congrArg (fun t => AV.t (.sl t)) (nest_shut M n), rfl, M, fun i j hi hj => ?_, rfl⟩
  rw [hM i j hi hj]
  simp only [show i < n + 1 by omega, and_true]
 have hin : i ≤ n := by rename_i c; rw [hl2] at c; omega
 (repeat' ((conv => whnf); first | refine Sp.t ?_ | refine Sp.f ?_ | refine Sp.n ?_ | refine Sp.d (fun _ => ?_) (fun _ => ?_) | refine Sp.e (fun _ => ?_) (fun _ => ?_) | refine Sp.ne (fun _ => ?_) (fun _ => ?_) | refine Sp.mk (fun _ => ?_) (fun _ => ?_) | refine And.intro (by first | omega | exact Nat.le_of_ble_eq_true rfl | (simp only [List.length_map, rowE_len, List.length_cons, List.length_nil] at *; omega)) ?_ | refine And.intro (Wd.map (fun _ => rfl)) ?_ | refine And.intro (rowE_wd _) ?_ | ((first | refine vix28 ?zb ?zd rfl ?_ | refine vix56 ?zb ?zd rfl ?_ | refine vixI ?zb ?zd rfl ?_); (case zb => first | omega | exact Nat.le_of_ble_eq_true rfl | (simp only [List.length_map, rowE_len, List.length_cons, List.length_nil] at *; omega)); (case zd => first | omega | exact Nat.le_of_ble_eq_true rfl | (simp only [List.length_map, rowE_len, List.length_cons, List.length_nil] at *; omega))) | refine And.intro (by first | omega | (simp only [List.length_map, List.length_range] at *; omega)) ?_ | ((first | refine vTe ?zb rfl ?_ | refine vTb ?zb rfl ?_ | refine vN ?zb ?_); (case zb => first | omega | (simp only [List.length_map, List.length_range] at *; omega))) | ((first | refine vNs ?zb ?zd ?_ | refine vN2 ?zb ?zd ?_); (case zb => first | omega | (simp only [List.length_map, List.length_range] at *; omega)); (case zd => first | omega | (simp only [List.length_map, List.length_range] at *; omega))) | fail))
 refine CodeV.loop (α := { x : Nat × (Nat → Nat → Bool) // i ≤ x.1 ∧ x.1 ≤ n + 1 ∧ StP A (fun i j => ∃ k, i ≤ k ∧ k ≤ j ∧ A i k = true ∧ B k j = true) n (fun i' j' => i' < i ∨ (i' = i ∧ j' < x.1)) (fun i' => i' < i + 1) x.2 }) tab_ok (fun x => [(5, .rf (1, none) 1 0 (n + 1)), (7, .i x.1.1)]) (fun x => [.dead, .nest 1 1 (tabN x.1.2 n)]) [1] 2 (fun x => n + 1 - x.1.1)
  ⟨(i, up M i i true), Nat.le_refl _, hi, (hM.iff (fun i j h1 h2 => by omega) (fun i h1 => Iff.rfl)).dia (fun i' => by omega)⟩
  ⟨⟨rfl, rfl, trivial⟩, [], rfl⟩ rfl rfl (fun _ => ⟨rfl, rfl⟩) (fun ⟨(j, M), hij, hj, hM⟩ => ?_)
 dsimp only at hij hj hM ⊢
 (repeat' ((conv => whnf); first | refine Sp.t ?_ | refine Sp.f ?_ | refine Sp.n ?_ | refine Sp.d (fun _ => ?_) (fun _ => ?_) | refine Sp.e (fun _ => ?_) (fun _ => ?_) | refine Sp.ne (fun _ => ?_) (fun _ => ?_) | refine Sp.mk (fun _ => ?_) (fun _ => ?_) | refine And.intro (by first | omega | exact Nat.le_of_ble_eq_true rfl | (simp only [List.length_map, rowE_len, List.length_cons, List.length_nil] at *; omega)) ?_ | refine And.intro (Wd.map (fun _ => rfl)) ?_ | refine And.intro (rowE_wd _) ?_ | ((first | refine vix28 ?zb ?zd rfl ?_ | refine vix56 ?zb ?zd rfl ?_ | refine vixI ?zb ?zd rfl ?_); (case zb => first | omega | exact Nat.le_of_ble_eq_true rfl | (simp only [List.length_map, rowE_len, List.length_cons, List.length_nil] at *; omega)); (case zd => first | omega | exact Nat.le_of_ble_eq_true rfl | (simp only [List.length_map, rowE_len, List.length_cons, List.length_nil] at *; omega))) | fail))
 case' refine_2 =>
  rename_i c
  obtain rfl : j = n + 1 := by rw [hl2] at c; omega
  (all_goals ((conv => whnf); (try (conv => lhs; whnf))))
  exact ⟨⟨(i + 1, M), Nat.succ_le_succ hin, hM.iff (fun i j h1 h2 => by omega) (fun i h1 => Iff.rfl)⟩, Nat.sub_lt_sub_left (Nat.lt_succ_of_le hin) (Nat.lt_succ_self _), ⟨rfl, congrArg (fun z => AV.i z) (wrapN i (by omega)), trivial⟩, _, rfl⟩
 have hjn : j ≤ n := by rename_i c; rw [hl2] at c; omega
 conv => whnf
 (refine CodeV.draw tab_ok (tk [0,1,2,3,4,5,6,7,8,9,10,11,12,13,14,15,16,17,18,19,20,21] (.only 22 .nil)) [0, 0, 3, 7, 0, 0, 0, 96, 224, 0, 992, 2016, 4064, 8160, 8160, 32736, 65504, 8160, 262112, 524256, 1048544, 2097151, 4194303] ⟨by kernel_rfl, by kernel_rfl, by kernel_rfl, by kernel_rfl, by kernel_rfl, by kernel_rfl⟩ ?_)
 (repeat' ((conv => whnf); first | refine Sp.t ?_ | refine Sp.f ?_ | refine Sp.n ?_ | refine Sp.d (fun _ => ?_) (fun _ => ?_) | refine Sp.e (fun _ => ?_) (fun _ => ?_) | refine Sp.ne (fun _ => ?_) (fun _ => ?_) | refine Sp.mk (fun _ => ?_) (fun _ => ?_) | refine And.intro (by first | omega | exact Nat.le_of_ble_eq_true rfl | (simp only [List.length_map, rowE_len, List.length_cons, List.length_nil] at *; omega)) ?_ | refine And.intro (Wd.map (fun _ => rfl)) ?_ | refine And.intro (rowE_wd _) ?_ | ((first | refine vix28 ?zb ?zd rfl ?_ | refine vix56 ?zb ?zd rfl ?_ | refine vixI ?zb ?zd rfl ?_); (case zb => first | omega | exact Nat.le_of_ble_eq_true rfl | (simp only [List.length_map, rowE_len, List.length_cons, List.length_nil] at *; omega)); (case zd => first | omega | exact Nat.le_of_ble_eq_true rfl | (simp only [List.length_map, rowE_len, List.length_cons, List.length_nil] at *; omega))) | refine And.intro (by first | omega | (simp only [List.length_map, List.length_range] at *; omega)) ?_ | ((first | refine vTe ?zb rfl ?_ | refine vTb ?zb rfl ?_ | refine vN ?zb ?_); (case zb => first | omega | (simp only [List.length_map, List.length_range] at *; omega))) | ((first | refine vNs ?zb ?zd ?_ | refine vN2 ?zb ?zd ?_); (case zb => first | omega | (simp only [List.length_map, List.length_range] at *; omega)); (case zd => first | omega | (simp only [List.length_map, List.length_range] at *; omega))) | fail))
 ·have hM1 : M i j = true := by assumption
  (all_goals ((conv => whnf); (try (conv => lhs; whnf))))
  exact ⟨⟨(j + 1, up M i j true), by omega, Nat.succ_le_succ hjn, hM.step hij (by rw [hM1, Bool.true_or]) (fun i' j' => by omega)⟩, Nat.sub_lt_sub_left (Nat.lt_succ_of_le hjn) (Nat.lt_succ_self _), ⟨rfl, congrArg (fun z => AV.i z) (wrapN j (by omega)), trivial⟩, _, rfl⟩
 ·have hM1 : M i j = false := by assumption
  (all_goals ((conv => whnf); (try (conv => lhs; whnf))))
  exact ⟨⟨(j + 1, up M i j (A i j)), by omega, Nat.succ_le_succ hjn, hM.step hij (by rw [hM1, Bool.false_or]) (fun i' j' => by omega)⟩, Nat.sub_lt_sub_left (Nat.lt_succ_of_le hjn) (Nat.lt_succ_self _), ⟨rfl, congrArg (fun z => AV.i z) (wrapN j (by omega)), trivial⟩, _, rfl⟩
end Go.V.S

import Derived.Test.YtodbnnfiadcbaaaVcXe
import Derived.Test.YtodbnnfiadcbaaaVcP5
set_option linter.unusedVariables false
set_option linter.unusedSimpArgs false
set_option linter.unusedSectionVars false
namespace Go.V.S
open Go.Proofs Go.RowKit Go.Proofs.Ytodbnnfiadcbaaa.P Go.Proofs.YtodbnnfiadcbaaaW.PrintWords Go.Proofs.YtodbnnfiadcbaaaL
set_option maxRecDepth 10000
theorem vSt4 {σ : AS} {k i : Nat} {l : List (List T)} {t : T} {K : AS → Prop} (hi : i < l.length) (hK : (σ.upd k (.row 4 (l.set i (setAt l[i] 0 [t])))).frc K) :
 ∃ el, l[0 + ((i : Nat) : Int).toNat]? = some el ∧ (σ.upd k (.row 4 (l.set (0 + ((i : Nat) : Int).toNat) (setAt el 0 [t])))).frc K := by
 rw [iz]
 exact ⟨l[i], List.getElem?_eq_getElem hi, hK⟩
theorem symsE_wd (y : List S56) : Wd 2 (y.map symE) := Wd.map fun _ => rfl
theorem symsE_scal (y : List S56) : scalE (y.map symE) := fun i el j t hi hj => by
 obtain ⟨s, _, rfl⟩ := getElem?_map_some hi
 match j, hj with
 | 0, rfl => exact ⟨_, rfl⟩
 | 1, rfl => exact ⟨_, rfl⟩
set_option maxHeartbeats 4000000 in
theorem Own12 (n : Int) (ns ws : List Int) (h8 : ns.length * 8 ≤ 140737488351232) (w8 : ws.length * 8 ≤ 140737488351232) : MV Try.prog 12 [.i n, .t (intsE ns), .t (intsE ws)] (.b true) := by
 obtain ⟨y, hl, hg⟩ := syms_good n ns
 have hgl := good_len hg
 have hk := good_kinds hg
 obtain ⟨⟨e0, e1, e2, el⟩, ⟨he, hfit⟩, hE⟩ := Make_ev y ns hgl.1 (by omega) hk (by omega) 4 (by decide)
 obtain ⟨k1, hk1⟩ := hE.rounds
 obtain ⟨k2, hk2⟩ := known_ev.rounds
 have he64 : tsize ⟨e0, e1, e2, el⟩ ≤ 256 := he
 refine M.enter tab_ok Try.func12 rfl (by kernel_rfl) (Nat.le_of_ble_eq_true rfl) ?_
 have h2 : True := trivial
 (repeat' ((conv => whnf); first | refine Sp.t ?_ | refine Sp.f ?_ | refine Sp.n ?_ | refine Sp.d (fun _ => ?_) (fun _ => ?_) | refine Sp.e (fun _ => ?_) (fun _ => ?_) | refine Sp.ne (fun _ => ?_) (fun _ => ?_) | refine Sp.mk (fun _ => ?_) (fun _ => ?_) | refine And.intro (by first | omega | exact Nat.le_of_ble_eq_true rfl | (simp only [List.length_map, rowE_len, List.length_cons, List.length_nil] at *; omega)) ?_ | refine And.intro (Wd.map (fun _ => rfl)) ?_ | refine And.intro (rowE_wd _) ?_ | ((first | refine vix28 ?zb ?zd rfl ?_ | refine vix56 ?zb ?zd rfl ?_ | refine vixI ?zb ?zd rfl ?_); (case zb => first | omega | exact Nat.le_of_ble_eq_true rfl | (simp only [List.length_map, rowE_len, List.length_cons, List.length_nil] at *; omega)); (case zd => first | omega | exact Nat.le_of_ble_eq_true rfl | (simp only [List.length_map, rowE_len, List.length_cons, List.length_nil] at *; omega))) | refine CallV.of_MV (known13 hk2) rfl (by repeat' constructor) rfl ?_ | refine CallV.of_MV (Syms14 hl) rfl (by repeat' constructor) rfl ?_ | refine CallV.of_MV (Make15 hk1) rfl (by repeat' constructor) rfl ?_ | refine CallV.of_MV (rCheckT hk (e := ⟨e0, e1, e2, el⟩) (by omega)) rfl (by repeat' constructor) rfl ?_ | fail))
 case' refine_2 => (all_goals ((conv => whnf); (try (conv => lhs; whnf))))
 rename_i h0
 obtain ⟨k3, hk3⟩ := (text_ev hg _ ⟨e0, e1, e2, el⟩ (Nat.le_refl _) (by omega) hfit).rounds
 have fT := (Text_group k3).2.2 hk3
 obtain ⟨k5, hk5⟩ := (same_ev _ ⟨e0, e1, e2, el⟩ (Nat.le_refl _) (by omega)).rounds
 have fS := Same21 k5 hk5
 conv => whnf
 refine CallV.cl 0 (by rfl) (CallV.cl 1 (by rfl) ?_)
 refine CallV.of_MV fT rfl (by repeat' constructor) rfl ?_
 by_cases hz : 2000 < (B (textT y ⟨e0, e1, e2, el⟩)).size
 ·have fP := Parse19 (parse_long (l := y) hz 0)
  (repeat' ((conv => whnf); first | refine Sp.t ?_ | refine Sp.f ?_ | refine Sp.n ?_ | refine Sp.d (fun _ => ?_) (fun _ => ?_) | refine Sp.e (fun _ => ?_) (fun _ => ?_) | refine Sp.ne (fun _ => ?_) (fun _ => ?_) | refine Sp.mk (fun _ => ?_) (fun _ => ?_) | refine And.intro (by first | omega | exact Nat.le_of_ble_eq_true rfl | (simp only [List.length_map, rowE_len, List.length_cons, List.length_nil] at *; omega)) ?_ | refine And.intro (Wd.map (fun _ => rfl)) ?_ | refine And.intro (rowE_wd _) ?_ | ((first | refine vix28 ?zb ?zd rfl ?_ | refine vix56 ?zb ?zd rfl ?_ | refine vixI ?zb ?zd rfl ?_); (case zb => first | omega | exact Nat.le_of_ble_eq_true rfl | (simp only [List.length_map, rowE_len, List.length_cons, List.length_nil] at *; omega)); (case zd => first | omega | exact Nat.le_of_ble_eq_true rfl | (simp only [List.length_map, rowE_len, List.length_cons, List.length_nil] at *; omega))) | refine CallV.of_MV (fP) rfl (by repeat' constructor) rfl ?_ | fail))
  (all_goals ((conv => whnf); (try (conv => lhs; whnf))))
  rfl
 have hpb := parse_back hg h0 hz
 obtain ⟨k4, hk4⟩ := hpb.rounds
 have fP := Parse19 hk4
 generalize B (textT y ⟨e0, e1, e2, el⟩) = tx at fP
 (repeat' ((conv => whnf); first | refine Sp.t ?_ | refine Sp.f ?_ | refine Sp.n ?_ | refine Sp.d (fun _ => ?_) (fun _ => ?_) | refine Sp.e (fun _ => ?_) (fun _ => ?_) | refine Sp.ne (fun _ => ?_) (fun _ => ?_) | refine Sp.mk (fun _ => ?_) (fun _ => ?_) | refine And.intro (by first | omega | exact Nat.le_of_ble_eq_true rfl | (simp only [List.length_map, rowE_len, List.length_cons, List.length_nil] at *; omega)) ?_ | refine And.intro (Wd.map (fun _ => rfl)) ?_ | refine And.intro (rowE_wd _) ?_ | ((first | refine vix28 ?zb ?zd rfl ?_ | refine vix56 ?zb ?zd rfl ?_ | refine vixI ?zb ?zd rfl ?_); (case zb => first | omega | exact Nat.le_of_ble_eq_true rfl | (simp only [List.length_map, rowE_len, List.length_cons, List.length_nil] at *; omega)); (case zd => first | omega | exact Nat.le_of_ble_eq_true rfl | (simp only [List.length_map, rowE_len, List.length_cons, List.length_nil] at *; omega))) | fail))
 conv => whnf
 refine CallV.of_fresh (s1 := 2) (s2 := 4) fP rfl (by intro h; rw [List.map_eq_nil_iff] at h; rw [h] at hgl; exact absurd hgl.1 (Nat.lt_irrefl 0)) (symsE_wd y) (rowE_wd el) (by decide) (by decide) (by decide) (symsE_scal y) (fun hel => ?_) (fun hel => ?_)
 ·(repeat' ((conv => whnf); first | refine Sp.t ?_ | refine Sp.f ?_ | refine Sp.n ?_ | refine Sp.d (fun _ => ?_) (fun _ => ?_) | refine Sp.e (fun _ => ?_) (fun _ => ?_) | refine Sp.ne (fun _ => ?_) (fun _ => ?_) | refine Sp.mk (fun _ => ?_) (fun _ => ?_) | refine And.intro (by first | omega | exact Nat.le_of_ble_eq_true rfl | (simp only [List.length_map, rowE_len, List.length_cons, List.length_nil] at *; omega)) ?_ | refine And.intro (Wd.map (fun _ => rfl)) ?_ | refine And.intro (rowE_wd _) ?_ | ((first | refine vix28 ?zb ?zd rfl ?_ | refine vix56 ?zb ?zd rfl ?_ | refine vixI ?zb ?zd rfl ?_); (case zb => first | omega | exact Nat.le_of_ble_eq_true rfl | (simp only [List.length_map, rowE_len, List.length_cons, List.length_nil] at *; omega)); (case zd => first | omega | exact Nat.le_of_ble_eq_true rfl | (simp only [List.length_map, rowE_len, List.length_cons, List.length_nil] at *; omega))) | fail))
  refine CodeV.loop (α := Unit) tab_ok (fun _ => [(11, .pt 2 0), (14, .i 0)]) (fun _ => [.dead, .dead, .st [.i e0, .i e1, .i e2, .t (.sl [])]]) [0, 1] 3 (fun _ => 0) () ⟨⟨rfl, rfl, trivial⟩, [], rfl⟩ rfl rfl (fun _ => ⟨rfl, rfl⟩) (fun _ => ?_)
  (repeat' ((conv => whnf); first | refine Sp.t ?_ | refine Sp.f ?_ | refine Sp.n ?_ | refine Sp.d (fun _ => ?_) (fun _ => ?_) | refine Sp.e (fun _ => ?_) (fun _ => ?_) | refine Sp.ne (fun _ => ?_) (fun _ => ?_) | refine Sp.mk (fun _ => ?_) (fun _ => ?_) | refine And.intro (by first | omega | exact Nat.le_of_ble_eq_true rfl | (simp only [List.length_map, rowE_len, List.length_cons, List.length_nil] at *; omega)) ?_ | refine And.intro (Wd.map (fun _ => rfl)) ?_ | refine And.intro (rowE_wd _) ?_ | ((first | refine vix28 ?zb ?zd rfl ?_ | refine vix56 ?zb ?zd rfl ?_ | refine vixI ?zb ?zd rfl ?_); (case zb => first | omega | exact Nat.le_of_ble_eq_true rfl | (simp only [List.length_map, rowE_len, List.length_cons, List.length_nil] at *; omega)); (case zd => first | omega | exact Nat.le_of_ble_eq_true rfl | (simp only [List.length_map, rowE_len, List.length_cons, List.length_nil] at *; omega))) | fail))
  conv => whnf
  refine CallV.of_MV fP rfl (by repeat' constructor) rfl ?_
  (repeat' ((conv => whnf); first | refine Sp.t ?_ | refine Sp.f ?_ | refine Sp.n ?_ | refine Sp.d (fun _ => ?_) (fun _ => ?_) | refine Sp.e (fun _ => ?_) (fun _ => ?_) | refine Sp.ne (fun _ => ?_) (fun _ => ?_) | refine Sp.mk (fun _ => ?_) (fun _ => ?_) | refine And.intro (by first | omega | exact Nat.le_of_ble_eq_true rfl | (simp only [List.length_map, rowE_len, List.length_cons, List.length_nil] at *; omega)) ?_ | refine And.intro (Wd.map (fun _ => rfl)) ?_ | refine And.intro (rowE_wd _) ?_ | ((first | refine vix28 ?zb ?zd rfl ?_ | refine vix56 ?zb ?zd rfl ?_ | refine vixI ?zb ?zd rfl ?_); (case zb => first | omega | exact Nat.le_of_ble_eq_true rfl | (simp only [List.length_map, rowE_len, List.length_cons, List.length_nil] at *; omega)); (case zd => first | omega | exact Nat.le_of_ble_eq_true rfl | (simp only [List.length_map, rowE_len, List.length_cons, List.length_nil] at *; omega))) | fail))
  conv => whnf
  refine CallV.of_MQ (Word25 y ws 6 hgl.1 (by omega) (by omega) (by decide)) rfl (by repeat' constructor) (fun x ⟨w0, hx, hw0⟩ => ?_)
  subst hx
  have fW := HasT (e := ⟨e0, e1, e2, el⟩) (w := w0) (by omega)
  have gW := rHasT (e := ⟨e0, e1, e2, el⟩) (w := w0) (by omega) hfit.1 (by omega)
  (repeat' ((conv => whnf); first | refine Sp.t ?_ | refine Sp.f ?_ | refine Sp.n ?_ | refine Sp.d (fun _ => ?_) (fun _ => ?_) | refine Sp.e (fun _ => ?_) (fun _ => ?_) | refine Sp.ne (fun _ => ?_) (fun _ => ?_) | refine Sp.mk (fun _ => ?_) (fun _ => ?_) | refine And.intro (by first | omega | exact Nat.le_of_ble_eq_true rfl | (simp only [List.length_map, rowE_len, List.length_cons, List.length_nil] at *; omega)) ?_ | refine And.intro (Wd.map (fun _ => rfl)) ?_ | refine And.intro (rowE_wd _) ?_ | ((first | refine vix28 ?zb ?zd rfl ?_ | refine vix56 ?zb ?zd rfl ?_ | refine vixI ?zb ?zd rfl ?_); (case zb => first | omega | exact Nat.le_of_ble_eq_true rfl | (simp only [List.length_map, rowE_len, List.length_cons, List.length_nil] at *; omega)); (case zd => first | omega | exact Nat.le_of_ble_eq_true rfl | (simp only [List.length_map, rowE_len, List.length_cons, List.length_nil] at *; omega))) | fail))
  (refine CodeV.draw tab_ok (tk [0,1] (.only 2 (tk [3,4,5,6,7,8,9] (.only 10 (tk [11,12,13,14,16,17] (.only 15 (.only 18 (tk [19,20,21] .nil)))))))) [0, 0, 3, 7, 15, 31, 63, 127, 255, 255, 1023, 2047, 4095, 8191, 8191, 32767, 8191, 8191, 262143, 524287, 1048575, 2097151] ⟨by kernel_rfl, by kernel_rfl, by kernel_rfl, by kernel_rfl, by kernel_rfl, by kernel_rfl⟩ ?_)
  (repeat' ((conv => whnf); first | refine Sp.t ?_ | refine Sp.f ?_ | refine Sp.n ?_ | refine Sp.d (fun _ => ?_) (fun _ => ?_) | refine Sp.e (fun _ => ?_) (fun _ => ?_) | refine Sp.ne (fun _ => ?_) (fun _ => ?_) | refine Sp.mk (fun _ => ?_) (fun _ => ?_) | refine And.intro (by first | omega | exact Nat.le_of_ble_eq_true rfl | (simp only [List.length_map, rowE_len, List.length_cons, List.length_nil] at *; omega)) ?_ | refine And.intro (Wd.map (fun _ => rfl)) ?_ | refine And.intro (rowE_wd _) ?_ | ((first | refine vix28 ?zb ?zd rfl ?_ | refine vix56 ?zb ?zd rfl ?_ | refine vixI ?zb ?zd rfl ?_); (case zb => first | omega | exact Nat.le_of_ble_eq_true rfl | (simp only [List.length_map, rowE_len, List.length_cons, List.length_nil] at *; omega)); (case zd => first | omega | exact Nat.le_of_ble_eq_true rfl | (simp only [List.length_map, rowE_len, List.length_cons, List.length_nil] at *; omega))) | refine CallV.of_MV (fS) rfl (by repeat' constructor) rfl ?_ | refine CallV.of_MV (fW) rfl (by repeat' constructor) rfl ?_ | refine CallV.of_MV (gW) rfl (by repeat' constructor) rfl ?_ | fail))
  (all_goals ((conv => whnf); (try (conv => lhs; whnf))))
  exact congrArg AV.b (beq_self_eq_true _)
 ·have hel2 : (rowE el).length ≤ 256 := by rw [rowE_len]; have := len_tsizeL el; rw [tsize_eq] at he64; simp only at he64; omega
  (repeat' ((conv => whnf); first | refine Sp.t ?_ | refine Sp.f ?_ | refine Sp.n ?_ | refine Sp.d (fun _ => ?_) (fun _ => ?_) | refine Sp.e (fun _ => ?_) (fun _ => ?_) | refine Sp.ne (fun _ => ?_) (fun _ => ?_) | refine Sp.mk (fun _ => ?_) (fun _ => ?_) | refine And.intro (by first | omega | exact Nat.le_of_ble_eq_true rfl | (simp only [List.length_map, rowE_len, List.length_cons, List.length_nil] at *; omega)) ?_ | refine And.intro (Wd.map (fun _ => rfl)) ?_ | refine And.intro (rowE_wd _) ?_ | ((first | refine vix28 ?zb ?zd rfl ?_ | refine vix56 ?zb ?zd rfl ?_ | refine vixI ?zb ?zd rfl ?_); (case zb => first | omega | exact Nat.le_of_ble_eq_true rfl | (simp only [List.length_map, rowE_len, List.length_cons, List.length_nil] at *; omega)); (case zd => first | omega | exact Nat.le_of_ble_eq_true rfl | (simp only [List.length_map, rowE_len, List.length_cons, List.length_nil] at *; omega))) | fail))
  refine CodeV.loop (α := { x : Nat × List (List T) // x.2.length = (rowE el).length ∧ x.1 ≤ (rowE el).length }) tab_ok (fun x => [(11, .pt 3 0), (14, .i x.1.1)]) (fun x => [.dead, .dead, .row 4 x.1.2, .st [.i e0, .i e1, .i e2, .rf (2, none) 4 0 (rowE el).length]]) [0, 1] 4 (fun x => (rowE el).length - x.1.1)
   ⟨(0, _), List.length_map _, Nat.zero_le _⟩ ⟨⟨rfl, rfl, trivial⟩, [], rfl⟩ rfl rfl (fun _ => ⟨rfl, rfl⟩) (fun ⟨(i, l), hll, hi⟩ => ?_)
  dsimp only at hll hi ⊢
  (repeat' ((conv => whnf); first | refine Sp.t ?_ | refine Sp.f ?_ | refine Sp.n ?_ | refine Sp.d (fun _ => ?_) (fun _ => ?_) | refine Sp.e (fun _ => ?_) (fun _ => ?_) | refine Sp.ne (fun _ => ?_) (fun _ => ?_) | refine Sp.mk (fun _ => ?_) (fun _ => ?_) | refine And.intro (by first | omega | exact Nat.le_of_ble_eq_true rfl | (simp only [List.length_map, rowE_len, List.length_cons, List.length_nil] at *; omega)) ?_ | refine And.intro (Wd.map (fun _ => rfl)) ?_ | refine And.intro (rowE_wd _) ?_ | ((first | refine vix28 ?zb ?zd rfl ?_ | refine vix56 ?zb ?zd rfl ?_ | refine vixI ?zb ?zd rfl ?_); (case zb => first | omega | exact Nat.le_of_ble_eq_true rfl | (simp only [List.length_map, rowE_len, List.length_cons, List.length_nil] at *; omega)); (case zd => first | omega | exact Nat.le_of_ble_eq_true rfl | (simp only [List.length_map, rowE_len, List.length_cons, List.length_nil] at *; omega))) | fail))
  case' refine_1 =>
   have hin : i < (rowE el).length := by have c : (i : Int) < ((rowE el).length : Int) := (by assumption); omega
   conv => whnf
   refine vSt4 (by omega) ?_
   (all_goals ((conv => whnf); (try (conv => lhs; whnf))))
   exact ⟨⟨(i + 1, _), by rw [List.length_set]; exact hll, hin⟩, Nat.sub_lt_sub_left hin (Nat.lt_succ_self _), ⟨rfl, congrArg (fun z => AV.i z) (wrapN i (by omega)), trivial⟩, _, rfl⟩
  conv => whnf
  refine CallV.of_MV fP rfl (by repeat' constructor) rfl ?_
  (repeat' ((conv => whnf); first | refine Sp.t ?_ | refine Sp.f ?_ | refine Sp.n ?_ | refine Sp.d (fun _ => ?_) (fun _ => ?_) | refine Sp.e (fun _ => ?_) (fun _ => ?_) | refine Sp.ne (fun _ => ?_) (fun _ => ?_) | refine Sp.mk (fun _ => ?_) (fun _ => ?_) | refine And.intro (by first | omega | exact Nat.le_of_ble_eq_true rfl | (simp only [List.length_map, rowE_len, List.length_cons, List.length_nil] at *; omega)) ?_ | refine And.intro (Wd.map (fun _ => rfl)) ?_ | refine And.intro (rowE_wd _) ?_ | ((first | refine vix28 ?zb ?zd rfl ?_ | refine vix56 ?zb ?zd rfl ?_ | refine vixI ?zb ?zd rfl ?_); (case zb => first | omega | exact Nat.le_of_ble_eq_true rfl | (simp only [List.length_map, rowE_len, List.length_cons, List.length_nil] at *; omega)); (case zd => first | omega | exact Nat.le_of_ble_eq_true rfl | (simp only [List.length_map, rowE_len, List.length_cons, List.length_nil] at *; omega))) | fail))
  conv => whnf
  refine CallV.of_MQ (Word25 y ws 6 hgl.1 (by omega) (by omega) (by decide)) rfl (by repeat' constructor) (fun x ⟨w0, hx, hw0⟩ => ?_)
  subst hx
  have fW := HasT (e := ⟨e0, e1, e2, el⟩) (w := w0) (by omega)
  have gW := rHasT (e := ⟨e0, e1, e2, el⟩) (w := w0) (by omega) hfit.1 (by omega)
  (repeat' ((conv => whnf); first | refine Sp.t ?_ | refine Sp.f ?_ | refine Sp.n ?_ | refine Sp.d (fun _ => ?_) (fun _ => ?_) | refine Sp.e (fun _ => ?_) (fun _ => ?_) | refine Sp.ne (fun _ => ?_) (fun _ => ?_) | refine Sp.mk (fun _ => ?_) (fun _ => ?_) | refine And.intro (by first | omega | exact Nat.le_of_ble_eq_true rfl | (simp only [List.length_map, rowE_len, List.length_cons, List.length_nil] at *; omega)) ?_ | refine And.intro (Wd.map (fun _ => rfl)) ?_ | refine And.intro (rowE_wd _) ?_ | ((first | refine vix28 ?zb ?zd rfl ?_ | refine vix56 ?zb ?zd rfl ?_ | refine vixI ?zb ?zd rfl ?_); (case zb => first | omega | exact Nat.le_of_ble_eq_true rfl | (simp only [List.length_map, rowE_len, List.length_cons, List.length_nil] at *; omega)); (case zd => first | omega | exact Nat.le_of_ble_eq_true rfl | (simp only [List.length_map, rowE_len, List.length_cons, List.length_nil] at *; omega))) | fail))
  (refine CodeV.draw tab_ok (tk [0,1] (.only 2 (tk [3,4,5,6,7,8,9] (.only 10 (tk [11,12,13,14,16,17] (.only 15 (.only 18 (tk [19,20,21] .nil)))))))) [0, 0, 3, 7, 15, 31, 63, 127, 255, 255, 1023, 2047, 4095, 8191, 8191, 32767, 8191, 8191, 262143, 524287, 1048575, 2097151] ⟨by kernel_rfl, by kernel_rfl, by kernel_rfl, by kernel_rfl, by kernel_rfl, by kernel_rfl⟩ ?_)
  (repeat' ((conv => whnf); first | refine Sp.t ?_ | refine Sp.f ?_ | refine Sp.n ?_ | refine Sp.d (fun _ => ?_) (fun _ => ?_) | refine Sp.e (fun _ => ?_) (fun _ => ?_) | refine Sp.ne (fun _ => ?_) (fun _ => ?_) | refine Sp.mk (fun _ => ?_) (fun _ => ?_) | refine And.intro (by first | omega | exact Nat.le_of_ble_eq_true rfl | (simp only [List.length_map, rowE_len, List.length_cons, List.length_nil] at *; omega)) ?_ | refine And.intro (Wd.map (fun _ => rfl)) ?_ | refine And.intro (rowE_wd _) ?_ | ((first | refine vix28 ?zb ?zd rfl ?_ | refine vix56 ?zb ?zd rfl ?_ | refine vixI ?zb ?zd rfl ?_); (case zb => first | omega | exact Nat.le_of_ble_eq_true rfl | (simp only [List.length_map, rowE_len, List.length_cons, List.length_nil] at *; omega)); (case zd => first | omega | exact Nat.le_of_ble_eq_true rfl | (simp only [List.length_map, rowE_len, List.length_cons, List.length_nil] at *; omega))) | refine CallV.of_MV (fS) rfl (by repeat' constructor) rfl ?_ | refine CallV.of_MV (fW) rfl (by repeat' constructor) rfl ?_ | refine CallV.of_MV (gW) rfl (by repeat' constructor) rfl ?_ | fail))
  (all_goals ((conv => whnf); (try (conv => lhs; whnf))))
  exact congrArg AV.b (beq_self_eq_true _)
end Go.V.S

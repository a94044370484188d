/- WordLong holds: two thousand bytes may be, one more may not; no condition beside the row's own. -/
import Derived.Test.YtiibfkjfanglbaaPx37
import Derived.Test.YtiibfkjfanglbaaWordText
import Derived.Test.YtiibfkjfanglbaaWordKnownTrue
namespace Go.Proofs.Ytiibfkjfanglbaa.Pure
open Go.RowKit Go.Proofs.Ytiibfkjfanglbaa.P Go.Proofs.YtiibfkjfanglbaaW.PrintWords Go.Proofs.YtiibfkjfanglbaaW.PrintLast Go.Proofs.YtiibfkjfanglbaaW.PrintMore Go.Proofs.YtiibfkjfanglbaaL
theorem strOfNums_size (xs : List Int) : (strOfNums xs).size = xs.length := by
  show ((xs.map fun n => UInt8.ofNat n.toNat).toArray).size = xs.length
  simp
theorem long_l0 (c K : Int) (hK : K ≤ 2004) : ∀ (d i : Nat) (xs : List Int), (xs.length : Int) = K → (((i + d : Nat)) : Int) = K → Ev (fun k => canopylaw1_WordLong.l0 k c K xs (i : Int)) true := by
  intro d
  induction d with
  | zero =>
    intro i xs hx hi
    obtain ⟨l, hl, hg⟩ := syms_good 0 []
    have hlen := good_len hg
    refine Ev.step (fun k => rfl) ?_
    simp only [canopylaw1_WordLong.l0, if_neg (show ¬ ((i : Int) < K) by omega), hl, Option.bind_some]
    have hsz : (strOfNums xs).size = xs.length := strOfNums_size xs
    generalize strOfNums xs = s at *
    refine Ev.bind (pparse_ev l (by omega) s) ?_
    refine Ev.bind (rparse_ev l (by omega) s) ?_
    simp only [if_true]
    by_cases h : K ≤ 2000
    · simp only [if_pos h]
      exact ev_all fun _ => rfl
    · have hp : parseOf l s = ([], 0, 2) := by unfold parseOf; rw [if_pos (by omega)]
      simp only [if_neg h, hp, if_true]
      exact ev_all fun _ => rfl
  | succ d ih =>
    intro i xs hx hi
    refine Ev.step (fun k => rfl) ?_
    have a0 := Int.emod_nonneg (wrap64 c) (show (3 : Int) ≠ 0 by omega)
    have a1 := Int.emod_lt_of_pos (wrap64 c) (show (0 : Int) < 3 by omega)
    simp only [canopylaw1_WordLong.l0, if_pos (show ((i : Int) < K) by omega), Option.bind_some, within_eq (wrap64 c) 3 (by omega) (by omega), if_pos a0, List.length_cons, List.length_nil]
    simp only [if_pos (show wrap64 c % 3 < ((0 + 1 + 1 + 1 : Nat) : Int) by omega), if_pos (show (0 : Int) ≤ (i : Int) by omega), if_pos (show (i : Int) < (xs.length : Int) by omega), wrap_succ i (by omega)]
    exact ih (i + 1) _ (by rw [List.length_set]; exact hx) (by omega)
theorem WordLong : canopylaw1_WordLong.Pure := by
  intro n c _ _
  refine Ev.rounds (r := true) ?_
  unfold canopylaw1_WordLong.f
  refine Ev.bind known_ev ?_
  have a0 := Int.emod_nonneg n (show (10 : Int) ≠ 0 by omega)
  have a1 := Int.emod_lt_of_pos n (show (0 : Int) < 10 by omega)
  simp only [if_true, within_eq n 10 (by omega) (by omega), Option.bind_some, show wrap64 (1995 + n % 10) = 1995 + n % 10 by unfold wrap64; omega]
  simp only [if_pos (show (0 : Int) ≤ 1995 + n % 10 by omega)]
  generalize hK : 1995 + n % 10 = K at *
  have hk : (K.toNat : Int) = K := Int.toNat_of_nonneg (by omega)
  simp only [if_pos (show K.toNat ≤ 281474976710656 by omega)]
  exact long_l0 c K (by omega) K.toNat 0 _ (by rw [List.length_replicate]; exact hk) (by rw [Nat.zero_add]; exact hk)
end Go.Proofs.Ytiibfkjfanglbaa.Pure

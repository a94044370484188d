/- Partners, depth, wholeness of a word: what the program and the reference come to, as one plain function each. -/
import Derived.Test.YtiibfkjfanglbaaPx13
import Derived.Test.YtiibfkjfanglbaaPx14
import Derived.Test.YtiibfkjfanglbaaPx15
import Derived.Test.YtiibfkjfanglbaaPx16
import Derived.Test.YtiibfkjfanglbaaPx31
import Derived.Test.YtiibfkjfanglbaaPx32
import Derived.Test.YtiibfkjfanglbaaPx33
import Derived.Test.YtiibfkjfanglbaaWordLib
namespace Go.Proofs.YtiibfkjfanglbaaL
open Go.RowKit Go.Proofs.Ytiibfkjfanglbaa.P Go.Proofs.YtiibfkjfanglbaaW.PrintWords Go.Proofs.YtiibfkjfanglbaaW.PrintLast Go.Proofs.YtiibfkjfanglbaaW.PrintMore

def kd (l : List S40) (x : Int) : Int := (rd_T40 l x).f1
def kds (l : List S40) (w : List Int) : List Int := w.map (kd l)
def Kinds (ks : List Int) : Prop := ∀ k ∈ ks, k = 1 ∨ k = 2 ∨ k = 3
theorem kds_len (l : List S40) (w : List Int) : (kds l w).length = w.length := by simp [kds]
theorem kd_kind {l : List S40} (h : goodB l = true) {x : Int} (h0 : 0 ≤ x) (h1 : x < (l.length : Int)) : kd l x = 1 ∨ kd l x = 2 ∨ kd l x = 3 := by
  obtain ⟨n, rfl⟩ := Int.eq_ofNat_of_zero_le h0
  have hn : n < l.length := by omega
  have := (good_at h (List.getElem_mem hn)).2
  unfold kd
  rw [rdT_get hn]
  simpa [kindB, or_assoc] using this
theorem kds_kinds {l : List S40} (h : goodB l = true) {w : List Int} (hf : Fit l w) : Kinds (kds l w) := by
  intro k hk
  obtain ⟨x, hx, rfl⟩ := List.mem_map.1 hk
  exact kd_kind h (hf x hx).1 (hf x hx).2
theorem kind_eq (l : List S40) (x : Int) (h0 : 0 ≤ x) (h1 : x < (l.length : Int)) : word_kind.f l x = some (kd l x) := by
  unfold word_kind.f
  rw [if_neg (by omega), if_neg (by omega), if_pos h0, if_pos h1]
  rfl

/-- The partners: 'pre' those so far, 'st' what stands open, the last one first. -/
def mrow : List Int → List Int → List Nat → List Int
  | [], pre, _ => pre
  | k :: ks, pre, st => if k = 1 then mrow ks (pre ++ [-1]) (pre.length :: st) else if k = 2 then (match st with
    | [] => mrow ks (pre ++ [-1]) []
    | j :: st' => mrow ks ((pre ++ [(j : Int)]).set j (pre.length : Int)) st') else mrow ks (pre ++ [-1]) st
def ups (st : List Nat) : List Int := st.reverse.map (fun j : Nat => (j : Int))
theorem ups_len (st : List Nat) : (ups st).length = st.length := by simp [ups]
theorem ups_cons (j : Nat) (st : List Nat) : ups (j :: st) = ups st ++ [(j : Int)] := by simp [ups]
theorem zset (pre : List Int) (m : Nat) (v : Int) : (pre ++ List.replicate (m + 1) 0).set pre.length v = (pre ++ [v]) ++ List.replicate m 0 := by
  rw [List.set_append_right _ _ (Nat.le_refl _), Nat.sub_self, List.replicate_succ, List.set_cons_zero, List.append_assoc]
  rfl
theorem zset2 (pre : List Int) (m : Nat) (a v : Int) : ((pre ++ [a]) ++ List.replicate m 0).set pre.length v = (pre ++ [v]) ++ List.replicate m 0 := by
  rw [List.append_assoc, List.set_append_right _ _ (Nat.le_refl _), Nat.sub_self, List.append_assoc]
  rfl
theorem zset3 (pre : List Int) (m j : Nat) (a v : Int) (h : j < pre.length) : ((pre ++ [a]) ++ List.replicate m 0).set j v = ((pre ++ [a]).set j v) ++ List.replicate m 0 := by
  rw [List.set_append_left _ _ (by simp; omega)]

theorem pmatch_l0 (l : List S40) (w : List Int) (hf : Fit l w) (hw : w.length ≤ 100000) : ∀ (d : Nat) (pre : List Int) (st : List Nat), pre.length + d = w.length → (∀ j ∈ st, j < pre.length) → st.length ≤ pre.length →
    Ev (fun k => word_Match.l0 k l (pre ++ List.replicate d 0) (ups st) w (w.length : Int) (pre.length : Int)) (mrow (kds l (w.drop pre.length)) pre st) := by
  intro d
  induction d with
  | zero =>
    intro pre st hd _ _
    refine Ev.step (fun k => rfl) ?_
    simp only [word_Match.l0, if_neg (show ¬ ((pre.length : Int) < (w.length : Int)) by omega)]
    rw [List.drop_eq_nil_of_le (by omega)]
    exact ev_all fun _ => by simp [kds, mrow]
  | succ d ih =>
    intro pre st hd hst hsl
    have hi : pre.length < w.length := by omega
    have hx := hf _ (List.getElem_mem hi)
    have e1 : rd w (pre.length : Int) = w[pre.length] := rd_get hi
    refine Ev.step (fun k => rfl) ?_
    simp only [word_Match.l0, if_pos (show ((pre.length : Int) < (w.length : Int)) by omega), if_pos (show (0 : Int) ≤ (pre.length : Int) by omega), List.length_append, List.length_replicate, if_pos (show ((pre.length : Int) < ((pre.length + (d + 1) : Nat) : Int)) by omega), Option.bind_some, Int.toNat_natCast, zset, e1, kind_eq l _ hx.1 hx.2, wrap_succ _ (show pre.length ≤ 9223372036854775000 by omega)]
    rw [List.drop_eq_getElem_cons hi]
    have hk : kds l (w[pre.length] :: w.drop (pre.length + 1)) = kd l w[pre.length] :: kds l (w.drop (pre.length + 1)) := rfl
    rw [hk]
    have hlen : (pre ++ [(-1 : Int)]).length = pre.length + 1 := by simp
    by_cases h1 : kd l w[pre.length] = 1
    · simp only [if_pos h1, ups_len, if_pos (show st.length < 17592186044416 by omega), mrow]
      have := ih (pre ++ [-1]) (pre.length :: st) (by rw [hlen]; omega) (by
        intro j hj
        rw [hlen]
        rcases List.mem_cons.1 hj with rfl | hj
        · omega
        · have := hst j hj; omega) (by rw [hlen]; simp; omega)
      rw [ups_cons, hlen] at this
      exact this
    · simp only [if_neg h1, mrow]
      by_cases h2 : kd l w[pre.length] = 2
      · simp only [if_pos h2, ups_len]
        cases st with
        | nil =>
          simp only [List.length_nil, if_neg (show ¬ (((0 : Nat) : Int) > 0) by omega)]
          have := ih (pre ++ [-1]) [] (by rw [hlen]; omega) (by simp) (by simp)
          rw [hlen] at this
          exact this
        | cons j st =>
          have hj := hst j (by simp)
          have e2 : wrap64 (((st.length + 1 : Nat) : Int) - 1) = (st.length : Int) := by rw [wrap_id (by omega) (by simp at hsl; omega)]; omega
          have e3 : rd (ups (j :: st)) (st.length : Int) = (j : Int) := by
            rw [rd_get (by rw [ups_len]; simp)]
            simp [ups]
          have e4 : (ups (j :: st)).take st.length = ups st := by rw [ups_cons, ← ups_len st, List.take_left]
          simp only [List.length_cons, if_pos (show (((st.length + 1 : Nat) : Int) > 0) by omega), e2, if_pos (show (0 : Int) ≤ (st.length : Int) by omega), if_pos (show ((st.length : Int) < ((st.length + 1 : Nat) : Int)) by omega), e3, if_pos (show (0 : Int) ≤ (j : Int) by omega), if_pos (show ((j : Int) < ((pre.length + (d + 1) : Nat) : Int)) by omega), if_pos (show ((st.length : Int) ≤ ((st.length + 1 : Nat) : Int)) by omega), Int.toNat_natCast, e4, zset2, zset3 pre d j _ _ hj]
          have hlen2 : ((pre ++ [(j : Int)]).set j (pre.length : Int)).length = pre.length + 1 := by simp
          have := ih ((pre ++ [(j : Int)]).set j (pre.length : Int)) st (by rw [hlen2]; omega) (by
            intro q hq
            rw [hlen2]
            have := hst q (by simp [hq]); omega) (by rw [hlen2]; simp at hsl; omega)
          rw [hlen2] at this
          exact this
      · simp only [if_neg h2]
        have := ih (pre ++ [-1]) st (by rw [hlen]; omega) (by intro q hq; rw [hlen]; have := hst q hq; omega) (by rw [hlen]; omega)
        rw [hlen] at this
        exact this
theorem pmatch_ev (l : List S40) (w : List Int) (hf : Fit l w) (hw : w.length ≤ 100000) : Ev (fun k => word_Match.f k l w) (mrow (kds l w) [] []) := by
  unfold word_Match.f
  simp only [if_pos (show (0 : Int) ≤ (w.length : Int) by omega), Int.toNat_natCast, if_pos (show w.length ≤ 35184372088832 by omega)]
  exact pmatch_l0 l w hf hw w.length [] [] (by simp) (by simp) (by simp)

theorem rmatch_l0 (l : List S40) (w : List Int) (hf : Fit l w) (hw : w.length ≤ 100000) : ∀ (d : Nat) (pre : List Int) (st : List Nat), pre.length + d = w.length → (∀ j ∈ st, j < pre.length) → st.length ≤ pre.length →
    Ev (fun k => canopyref1_Match.l0 k l w (pre ++ List.replicate d 0) (ups st) (pre.length : Int)) (mrow (kds l (w.drop pre.length)) pre st) := by
  intro d
  induction d with
  | zero =>
    intro pre st hd _ _
    refine Ev.step (fun k => rfl) ?_
    simp only [canopyref1_Match.l0, if_neg (show ¬ ((pre.length : Int) < (w.length : Int)) by omega)]
    rw [List.drop_eq_nil_of_le (by omega)]
    exact ev_all fun _ => by simp [kds, mrow]
  | succ d ih =>
    intro pre st hd hst hsl
    have hi : pre.length < w.length := by omega
    have hx := hf _ (List.getElem_mem hi)
    have e1 : rd w (pre.length : Int) = w[pre.length] := rd_get hi
    refine Ev.step (fun k => rfl) ?_
    simp only [canopyref1_Match.l0, if_pos (show ((pre.length : Int) < (w.length : Int)) by omega), if_pos (show (0 : Int) ≤ (pre.length : Int) by omega), List.length_append, List.length_replicate, if_pos (show ((pre.length : Int) < ((pre.length + (d + 1) : Nat) : Int)) by omega), Option.bind_some, Int.toNat_natCast, zset, e1, if_pos hx.1, if_pos hx.2, wrap_succ _ (show pre.length ≤ 9223372036854775000 by omega)]
    rw [List.drop_eq_getElem_cons hi]
    have hk : kds l (w[pre.length] :: w.drop (pre.length + 1)) = kd l w[pre.length] :: kds l (w.drop (pre.length + 1)) := rfl
    rw [hk]
    have hlen : (pre ++ [(-1 : Int)]).length = pre.length + 1 := by simp
    show Ev (fun k => if kd l w[pre.length] = 1 then _ else if kd l w[pre.length] = 2 then _ else _) _
    by_cases h1 : kd l w[pre.length] = 1
    · simp only [if_pos h1, ups_len, if_pos (show st.length < 17592186044416 by omega), mrow]
      have := ih (pre ++ [-1]) (pre.length :: st) (by rw [hlen]; omega) (by
        intro j hj
        rw [hlen]
        rcases List.mem_cons.1 hj with rfl | hj
        · omega
        · have := hst j hj; omega) (by rw [hlen]; simp; omega)
      rw [ups_cons, hlen] at this
      exact this
    · simp only [if_neg h1, mrow]
      by_cases h2 : kd l w[pre.length] = 2
      · simp only [if_pos h2, ups_len]
        cases st with
        | nil =>
          simp only [List.length_nil, if_neg (show ¬ (((0 : Nat) : Int) > 0) by omega)]
          have := ih (pre ++ [-1]) [] (by rw [hlen]; omega) (by simp) (by simp)
          rw [hlen] at this
          exact this
        | cons j st =>
          have hj := hst j (by simp)
          have e2 : wrap64 (((st.length + 1 : Nat) : Int) - 1) = (st.length : Int) := by rw [wrap_id (by omega) (by simp at hsl; omega)]; omega
          have e3 : rd (ups (j :: st)) (st.length : Int) = (j : Int) := by
            rw [rd_get (by rw [ups_len]; simp)]
            simp [ups]
          have e4 : (ups (j :: st)).take st.length = ups st := by rw [ups_cons, ← ups_len st, List.take_left]
          simp only [List.length_cons, if_pos (show (((st.length + 1 : Nat) : Int) > 0) by omega), e2, if_pos (show (0 : Int) ≤ (st.length : Int) by omega), if_pos (show ((st.length : Int) < ((st.length + 1 : Nat) : Int)) by omega), e3, if_pos (show (0 : Int) ≤ (j : Int) by omega), if_pos (show ((j : Int) < ((pre.length + (d + 1) : Nat) : Int)) by omega), if_pos (show ((st.length : Int) ≤ ((st.length + 1 : Nat) : Int)) by omega), Int.toNat_natCast, e4, zset2, zset3 pre d j _ _ hj]
          have hlen2 : ((pre ++ [(j : Int)]).set j (pre.length : Int)).length = pre.length + 1 := by simp
          have := ih ((pre ++ [(j : Int)]).set j (pre.length : Int)) st (by rw [hlen2]; omega) (by
            intro q hq
            rw [hlen2]
            have := hst q (by simp [hq]); omega) (by rw [hlen2]; simp at hsl; omega)
          rw [hlen2] at this
          exact this
      · simp only [if_neg h2]
        have := ih (pre ++ [-1]) st (by rw [hlen]; omega) (by intro q hq; rw [hlen]; have := hst q hq; omega) (by rw [hlen]; omega)
        rw [hlen] at this
        exact this
theorem rmatch_ev (l : List S40) (w : List Int) (hf : Fit l w) (hw : w.length ≤ 100000) : Ev (fun k => canopyref1_Match.f k l w) (mrow (kds l w) [] []) := by
  unfold canopyref1_Match.f
  simp only [if_pos (show (0 : Int) ≤ (w.length : Int) by omega), Int.toNat_natCast, if_pos (show w.length ≤ 35184372088832 by omega)]
  exact rmatch_l0 l w hf hw w.length [] [] (by simp) (by simp) (by simp)
theorem mrow_len : ∀ (ks pre : List Int) (st : List Nat), (mrow ks pre st).length = pre.length + ks.length
  | [], pre, st => by simp [mrow]
  | k :: ks, pre, st => by
    unfold mrow
    split
    · rw [mrow_len]; simp; omega
    · split
      · split
        · rw [mrow_len]; simp; omega
        · rw [mrow_len]; simp; omega
      · rw [mrow_len]; simp; omega

/-! how deep -/
def dnow (k now : Int) : Int := if k = 1 then now + 1 else if k = 2 then max 0 (now - 1) else now
def dgo : List Int → Int → Int → Int
  | [], _, most => most
  | k :: ks, now, most => dgo ks (dnow k now) (max most (dnow k now))
theorem mx_max (a b : Int) : mx a b = max a b := by unfold mx; omega
theorem pdeep_l0 (l : List S40) (w : List Int) (hf : Fit l w) (hw : w.length ≤ 100000) : ∀ (d i : Nat) (now most : Int), i + d = w.length → 0 ≤ now → now ≤ i → 0 ≤ most → most ≤ i →
    Ev (fun k => word_Deep.l0 k l now most w (w.length : Int) (i : Int)) (dgo (kds l (w.drop i)) now most) := by
  intro d
  induction d with
  | zero =>
    intro i now most hd _ _ _ _
    refine Ev.step (fun k => rfl) ?_
    simp only [word_Deep.l0, if_neg (show ¬ ((i : Int) < (w.length : Int)) by omega)]
    rw [List.drop_eq_nil_of_le (by omega)]
    exact ev_all fun _ => by simp [kds, dgo]
  | succ d ih =>
    intro i now most hd n0 n1 m0 m1
    have hi : i < w.length := by omega
    have hx := hf _ (List.getElem_mem hi)
    have e1 : rd w (i : Int) = w[i] := rd_get hi
    refine Ev.step (fun k => rfl) ?_
    have e2 : wrap64 (now + 1) = now + 1 := wrap_id (by omega) (by omega)
    have e3 : wrap64 (now - 1) = now - 1 := wrap_id (by omega) (by omega)
    simp only [word_Deep.l0, if_pos (show ((i : Int) < (w.length : Int)) by omega), if_pos (show (0 : Int) ≤ (i : Int) by omega), e1, kind_eq l _ hx.1 hx.2, Option.bind_some, wrap_succ _ (show i ≤ 9223372036854775000 by omega), e2, e3, mx_max]
    rw [List.drop_eq_getElem_cons hi]
    show Ev _ (dgo (kds l (w.drop (i + 1))) (dnow (kd l w[i]) now) (max most (dnow (kd l w[i]) now)))
    unfold dnow
    by_cases h1 : kd l w[i] = 1
    · simp only [if_pos h1]
      exact ih (i + 1) _ _ (by omega) (by omega) (by omega) (by omega) (by omega)
    · by_cases h2 : kd l w[i] = 2
      · simp only [if_neg h1, if_pos h2]
        exact ih (i + 1) _ _ (by omega) (by omega) (by omega) (by omega) (by omega)
      · simp only [if_neg h1, if_neg h2]
        exact ih (i + 1) _ _ (by omega) (by omega) (by omega) (by omega) (by omega)
theorem pdeep_ev (l : List S40) (w : List Int) (hf : Fit l w) (hw : w.length ≤ 100000) : Ev (fun k => word_Deep.f k l w) (dgo (kds l w) 0 0) :=
  pdeep_l0 l w hf hw w.length 0 0 0 (by omega) (by omega) (by omega) (by omega) (by omega)
theorem rdeep_l0 (l : List S40) (w : List Int) (hf : Fit l w) (hw : w.length ≤ 100000) : ∀ (d i : Nat) (now most : Int), i + d = w.length → 0 ≤ now → now ≤ i → 0 ≤ most → most ≤ i →
    Ev (fun k => canopyref1_Deep.l0 k l w most now (i : Int)) (dgo (kds l (w.drop i)) now most) := by
  intro d
  induction d with
  | zero =>
    intro i now most hd _ _ _ _
    refine Ev.step (fun k => rfl) ?_
    simp only [canopyref1_Deep.l0, if_neg (show ¬ ((i : Int) < (w.length : Int)) by omega)]
    rw [List.drop_eq_nil_of_le (by omega)]
    exact ev_all fun _ => by simp [kds, dgo]
  | succ d ih =>
    intro i now most hd n0 n1 m0 m1
    have hi : i < w.length := by omega
    have hx := hf _ (List.getElem_mem hi)
    have e1 : rd w (i : Int) = w[i] := rd_get hi
    refine Ev.step (fun k => rfl) ?_
    have e2 : wrap64 (now + 1) = now + 1 := wrap_id (by omega) (by omega)
    have e3 : wrap64 (now - 1) = now - 1 := wrap_id (by omega) (by omega)
    simp only [canopyref1_Deep.l0, if_pos (show ((i : Int) < (w.length : Int)) by omega), if_pos (show (0 : Int) ≤ (i : Int) by omega), e1, if_pos hx.1, if_pos hx.2, wrap_succ _ (show i ≤ 9223372036854775000 by omega), e2, e3, mx_max]
    rw [List.drop_eq_getElem_cons hi]
    show Ev (fun k => if kd l w[i] = 1 then _ else if kd l w[i] = 2 then _ else _) (dgo (kds l (w.drop (i + 1))) (dnow (kd l w[i]) now) (max most (dnow (kd l w[i]) now)))
    unfold dnow
    by_cases h1 : kd l w[i] = 1
    · simp only [if_pos h1]
      exact ih (i + 1) _ _ (by omega) (by omega) (by omega) (by omega) (by omega)
    · by_cases h2 : kd l w[i] = 2
      · simp only [if_neg h1, if_pos h2]
        rw [Int.max_comm 0 (now - 1)]
        exact ih (i + 1) _ _ (by omega) (by omega) (by omega) (by omega) (by omega)
      · simp only [if_neg h1, if_neg h2]
        exact ih (i + 1) _ _ (by omega) (by omega) (by omega) (by omega) (by omega)
theorem rdeep_ev (l : List S40) (w : List Int) (hf : Fit l w) (hw : w.length ≤ 100000) : Ev (fun k => canopyref1_Deep.f k l w) (dgo (kds l w) 0 0) :=
  rdeep_l0 l w hf hw w.length 0 0 0 (by omega) (by omega) (by omega) (by omega) (by omega)

/-! whole or not -/
def allz : List Int → List Int → Bool
  | k :: ks, m :: ms => !(decide (m < 0) && !(k == 3)) && allz ks ms
  | _, _ => true
theorem pwhole_l0 (l : List S40) (hg : goodB l = true) (w m : List Int) (hf : Fit l w) (hw : w.length ≤ 100000) (hm : m.length = w.length) : ∀ (d i : Nat), i + d = w.length →
    Ev (fun k => word_Whole.l0 k l w m (m.length : Int) (i : Int)) (allz (kds l (w.drop i)) (m.drop i)) := by
  intro d
  induction d with
  | zero =>
    intro i hd
    refine Ev.step (fun k => rfl) ?_
    simp only [word_Whole.l0, if_neg (show ¬ ((i : Int) < (m.length : Int)) by omega)]
    rw [List.drop_eq_nil_of_le (by omega)]
    exact ev_all fun _ => by simp [kds, allz]
  | succ d ih =>
    intro i hd
    have hi : i < w.length := by omega
    have hx := hf _ (List.getElem_mem hi)
    have e1 : rd w (i : Int) = w[i] := rd_get hi
    have e2 : rd m (i : Int) = m[i] := rd_get (by omega)
    refine Ev.step (fun k => rfl) ?_
    simp only [word_Whole.l0, if_pos (show ((i : Int) < (w.length : Int)) by omega), if_pos (show ((i : Int) < (m.length : Int)) by omega), if_pos (show (0 : Int) ≤ (i : Int) by omega), e1, e2, kind_eq l _ hx.1 hx.2, Option.bind_some, wrap_succ _ (show i ≤ 9223372036854775000 by omega)]
    rw [List.drop_eq_getElem_cons hi, List.drop_eq_getElem_cons (show i < m.length by omega)]
    show Ev _ (!(decide (m[i] < 0) && !(kd l w[i] == 3)) && allz (kds l (w.drop (i + 1))) (m.drop (i + 1)))
    by_cases h0 : m[i] < 0
    · simp only [if_pos h0]
      rcases kd_kind hg hx.1 hx.2 with h | h | h
      · simp only [h, if_true]
        exact ev_all fun _ => by simp [h0]
      · simp only [h, if_neg (show ¬ (2 : Int) = 1 by omega), if_true]
        exact ev_all fun _ => by simp [h0]
      · simp only [h, if_neg (show ¬ (3 : Int) = 1 by omega), if_neg (show ¬ (3 : Int) = 2 by omega)]
        have := ih (i + 1) (by omega)
        simpa using this
    · simp only [if_neg h0]
      have := ih (i + 1) (by omega)
      simpa [h0] using this
theorem rwhole_l0 (l : List S40) (w m : List Int) (hf : Fit l w) (hw : w.length ≤ 100000) (hm : m.length = w.length) : ∀ (d i : Nat), i + d = w.length →
    Ev (fun k => canopyref1_Whole.l0 k l w m (i : Int)) (allz (kds l (w.drop i)) (m.drop i)) := by
  intro d
  induction d with
  | zero =>
    intro i hd
    refine Ev.step (fun k => rfl) ?_
    simp only [canopyref1_Whole.l0, if_neg (show ¬ ((i : Int) < (w.length : Int)) by omega)]
    rw [List.drop_eq_nil_of_le (by omega)]
    exact ev_all fun _ => by simp [kds, allz]
  | succ d ih =>
    intro i hd
    have hi : i < w.length := by omega
    have hx := hf _ (List.getElem_mem hi)
    have e1 : rd w (i : Int) = w[i] := rd_get hi
    have e2 : rd m (i : Int) = m[i] := rd_get (by omega)
    refine Ev.step (fun k => rfl) ?_
    simp only [canopyref1_Whole.l0, if_pos (show ((i : Int) < (w.length : Int)) by omega), if_pos (show ((i : Int) < (m.length : Int)) by omega), if_pos (show (0 : Int) ≤ (i : Int) by omega), e1, e2, if_pos hx.1, if_pos hx.2, wrap_succ _ (show i ≤ 9223372036854775000 by omega)]
    rw [List.drop_eq_getElem_cons hi, List.drop_eq_getElem_cons (show i < m.length by omega)]
    show Ev (fun k => if m[i] < 0 then (if kd l w[i] = 3 then _ else _) else _) (!(decide (m[i] < 0) && !(kd l w[i] == 3)) && allz (kds l (w.drop (i + 1))) (m.drop (i + 1)))
    have := ih (i + 1) (by omega)
    by_cases h0 : m[i] < 0
    · simp only [if_pos h0]
      by_cases h : kd l w[i] = 3
      · simp only [if_pos h]
        simpa [h] using this
      · simp only [if_neg h]
        exact ev_all fun _ => by simp [h0, h]
    · simp only [if_neg h0]
      simpa [h0] using this
def wholeB (l : List S40) (w : List Int) : Bool := allz (kds l w) (mrow (kds l w) [] [])
theorem pwhole_ev (l : List S40) (hg : goodB l = true) (w : List Int) (hf : Fit l w) (hw : w.length ≤ 100000) : Ev (fun k => word_Whole.f k l w) (wholeB l w) := by
  unfold word_Whole.f wholeB
  refine Ev.bind (pmatch_ev l w hf hw) ?_
  exact pwhole_l0 l hg w _ hf hw (by rw [mrow_len, kds_len]; simp) w.length 0 (by omega)
theorem rwhole_ev (l : List S40) (w : List Int) (hf : Fit l w) (hw : w.length ≤ 100000) : Ev (fun k => canopyref1_Whole.f k l w) (wholeB l w) := by
  unfold canopyref1_Whole.f wholeB
  refine Ev.bind (rmatch_ev l w hf hw) ?_
  exact rwhole_l0 l w _ hf hw (by rw [mrow_len, kds_len]; simp) w.length 0 (by omega)
end Go.Proofs.YtiibfkjfanglbaaL

/- What a statement's proof needs: walks of the program's functions, and what they tell (part 5). -/
import Derived.Test.YtodbnnfiadcbaaaCbdf4e2d25f
import Derived.Deep.Cut
import Derived.Deep.CutBlock
import Derived.Deep.LoopGhost
import Derived.KernelRfl
namespace Go.Proofs.Ytodbnnfiadcbaaa.P
open Go.RowKit Go.Proofs.YtodbnnfiadcbaaaW.PrintWords Go.Proofs.YtodbnnfiadcbaaaW.PrintLast Go.Proofs.YtodbnnfiadcbaaaW.PrintMore
attribute [local go_sem] max2_int min2_int max_two min_two max_three min_three max_four min_four
set_option linter.unusedVariables false
set_option linter.unusedSimpArgs false
set_option maxHeartbeats 8000000 in
set_option maxRecDepth 100000 in
theorem end_cat {k : Nat} (ih : EndS k) : EndK k (fun t => t.f0 = 5) := by
  intro t at_ r p g bm Aw cw lw ok w hk h hR hN hfr
  replace hk : t.f0 = 5 := hk
  have hP : PlainAt w p := hN.2.2.1
  have hbm := hR.blt
  obtain ⟨es, clk, hb, he⟩ := hR.map
  obtain ⟨v, b, hrun, hv⟩ := lookup_run w (at_ : Int) hP hb (KeysOk.of he)
  have hg0 : w.cell? ⟨g, 0, none⟩ = some (.slice Aw lw.length cw) := (blk_cell hR.blk 0).trans rfl
  have hg1 : w.cell? ⟨g, 1, none⟩ = some (.map (some bm)) := (blk_cell hR.blk 1).trans rfl
  have hlw : at_ ≤ lw.length ∧ lw.length < 140737488355327 := by
    unfold endF at h
    by_cases hh : at_ ≤ lw.length ∧ lw.length < 140737488355327
    · exact hh
    · rw [if_neg hh] at h; cases h
  obtain ⟨n, hn⟩ : ∃ n, n = lw.length + 1 := ⟨_, rfl⟩
  have hw1 : ((lw.length : Int) + 1).toNat = n := by omega
  have hnn := Aside0.mk hn
  clear hn
  go_enter Try.func49, Try.ntmps49
  unfold keyV at hrun
  go_upto_if 29 with (fail)
  cases b with
  | true =>
    obtain ⟨e, hm, hk, rfl⟩ := hv rfl
    obtain ⟨A, c, ev, h1, h2⟩ := found h hN (he e hm) hk
    rw [ev]
    go_wp2
    go_ret
    exact ⟨A, c, rfl, h1, h2, hR, Kept.refl _ _, Same.refl _⟩
  | false =>
    clear hv hrun
    have hpl := hN.lt
    have hgl := hR.glt
    have hgb : g ≠ bm := fun e => hR.nok (e ▸ hR.okg)
    have hpb : p.block ≠ bm := fun e => hR.nok (e ▸ hN.1)
    obtain ⟨pb, po, Ap, cp, rfl, h0, h1, h2, h3, hcp, hF⟩ := hN.open
    go_upto_region 5 with (first | ((with_reducible refine gate_dst (N := 37) rfl ?_); refine Kd.R_make Kd.bool w.heap.size 4 rfl (N := 37) rfl 95 _ _ rfl ((lw.length : Int) + 1) rfl rfl Try.underlying95 (.bool false) 1 info4 rfl (by decide) (by omega) false (ok := fun _ => True) (okp := fun _ => True) rfl (fun _ hk => hk) trivial (by omega) (by rw [hw1]; omega) (Below.refl _ _) (Nat.le_refl _) ?_; intro v1 W hv1 hb1 hg hat; rw [hw1] at hv1; obtain ⟨bo, co, rfl, hbo, hblt, hown⟩ := row_made hnn.out hv1 hat; have HI := Inv.made hnn.out (Same.refl _) (Kept.refl _ _) hR hg hbo hblt hown; clear hv1 hat hown; have c0 := HI.cell hpl hpb h0; have c1 := HI.cell hpl hpb h1; have c2 := HI.cell hpl hpb h2; have c3 := HI.cell hpl hpb h3; have d0 := HI.cell hgl hgb hg0; have d1 := HI.cell hgl hgb hg1))
    go_upto_block 0 with (fail)
    go_cut [9] from 10 (fun s9 wc => ∃ b1 c1, s9 = sv b1 n c1 ∧ Inv w wc ok g bm Aw cw lw n b1 c1 r)
    case rest =>
      clear HI
      obtain ⟨b1, c1, rfl, HI⟩ := hcut
      have c0 := HI.cell hpl hpb h0
      have d0 := HI.cell hgl hgb hg0
      have d1 := HI.cell hgl hgb hg1
      have hb1 := HI.base
      have hNr := HI.node (okn := ok) hN (fun k hk e => hR.nok (e ▸ hk)) (fun k hk _ => hk)
      obtain ⟨es1, clk1, hbr, her⟩ := HI.inv.map
      obtain ⟨es2, clk2, hup, hes2⟩ := update_run wc (at_ : Int) (sv b1 n c1) hNr.2.2.1 hbr (KeysOk.of her)
      unfold keyV at hup
      go_wp2
      obtain ⟨q1, q2, q3, q4⟩ := HI.stored hbm (hfr b1 hb1) hR.nok (hNr.mono (fun k hk => hk.1)) h (by rw [HI.len]; exact (Kd.R_reads' HI.own).2.1) hbr her rfl hes2
      go_ret
      exact ⟨some ⟨b1, 0, none⟩, c1, by rw [HI.len]; rfl, by rw [HI.len]; exact (Kd.R_reads' HI.own).2.1, q1, q2, q3, q4⟩
    case first =>
      have H := h
      unfold endF at H
      rw [if_pos hlw, ← hnn.out] at H
      have hat3 : at_ < n := by have := hnn.out; omega
      have hnm : n ≤ 9223372036854775807 := by have := hnn.out; omega
      have hnk := Aside0.mk (show n * 1 ≤ 281474976710656 by have := hnn.out; omega)
      have hat1 := tr_ge at_
      have hat2 := tr_lt hat3
      have k2 : ¬ t.f0 = 2 := by rw [hk]; decide
      rw [if_neg k2] at H
      have b2 : (t.f0 == 2) = false := beq_eq_false_iff_ne.mpr k2
      have k3 : ¬ t.f0 = 3 := by rw [hk]; decide
      rw [if_neg k3] at H
      have b3 : (t.f0 == 3) = false := beq_eq_false_iff_ne.mpr k3
      have k4 : ¬ t.f0 = 4 := by rw [hk]; decide
      rw [if_neg k4] at H
      have b4 : (t.f0 == 4) = false := beq_eq_false_iff_ne.mpr k4
      have k6 : ¬ t.f0 = 6 := by rw [hk]; decide
      rw [if_neg k6] at H
      have b6 : (t.f0 == 6) = false := beq_eq_false_iff_ne.mpr k6
      rw [if_pos hk] at H
      have b5 : (t.f0 == 5) = true := beq_iff_eq.mpr hk
      have H' := Aside0.mk H
      clear H
      have hFl : t.f3.length ≤ 9223372036854775807 := Kd.C_max (Kd.F_now hF)
      obtain ⟨cb, cf⟩ := HI.cellb at_ hat3
      go_upto_region 27 with (fail)
      have HJ := HI.set hbm at_ true
      clear HI cb cf
      clear c0 c1 c2 c3 d0 d1
      generalize World.setCell _ _ _ = W5 at HJ ⊢
      have HI := HJ
      clear HJ
      have c0 := HI.cell hpl hpb h0; have c1 := HI.cell hpl hpb h1; have c2 := HI.cell hpl hpb h2; have c3 := HI.cell hpl hpb h3; have d0 := HI.cell hgl hgb hg0; have d1 := HI.cell hgl hgb hg1
      go_wp2
      go_loopg [9, 139] t.f3.length (fun kq s9 s wr => ∃ (j : Nat) (o : List Bool) (b1 e1 : Nat), s9 = sv b1 n e1 ∧ s = .int .i64 (j : Int) ∧ Aside0 (kq + j = t.f3.length) ∧ Aside0 (Inv w wr ok g bm Aw cw lw n b1 e1 o) ∧ Aside0 (catL (fun c j => endF k c j lw) (t.f3.drop j) o = some r))
      case atStart => exact ⟨0, _, bo, co, rfl, rfl, ⟨rfl⟩, ⟨HI⟩, H'⟩
      case round =>
        clear HI H'
        clear c0 c1 c2 c3 d0 d1
        obtain ⟨j, o, b1, e1, rfl, rfl, hq, HI, Hn⟩ := hrel
        replace HI := HI.out
        replace Hn := Hn.out
        have hq1 := hq.out
        have c0 := HI.cell hpl hpb h0; have c1 := HI.cell hpl hpb h1; have c2 := HI.cell hpl hpb h2; have c3 := HI.cell hpl hpb h3; have d0 := HI.cell hgl hgb hg0; have d1 := HI.cell hgl hgb hg1
        by_cases hj : j < t.f3.length
        · obtain ⟨k1, rfl, hq3⟩ := pred_ex hq1 hj
          have j0 := tr_ge j
          have j1 := tr_lt hj
          have j2 := tr_dlt hj
          obtain ⟨o2, hrow, Hr⟩ := catL_step hj Hn
          have hol := HI.len
          rw [hol] at hrow
          have hol' := Aside0.mk hol
          clear hol
          have Hrow' := Aside0.mk hrow
          have Hr' := Aside0.mk Hr
          clear Hn Hr hrow
          obtain ⟨qb, qo, e, hNc⟩ := F_row hF j hj
          subst e
          have hNd := Aside0.mk hNc
          clear hNc
          go_wp2_with (first | ((with_reducible refine gate_dst (N := 144) rfl ?_); refine Kd.R_make Kd.bool w.heap.size 4 rfl (N := 144) rfl 95 _ _ rfl (n : Int) rfl rfl Try.underlying95 (.bool false) 1 info4 rfl (by decide) (by decide) false (ok := fun _ => True) (okp := fun _ => True) rfl (fun _ hk => hk) trivial (Int.natCast_nonneg _) (by rw [Int.toNat_natCast]; exact hnk.out) (Below.refl _ _) HI.kept.1 ?_; intro v1 W hv1 hbe hg hat; rw [Int.toNat_natCast] at hv1; obtain ⟨bx, cx, rfl, hbx, hblt, hown⟩ := row_made hnn.out hv1 hat; have HI2 := Inv.made hnn.out HI.same HI.kept HI.inv hg hbx hblt hown; have HO := Kd.R_step HI.own (fun k hk hlt => hg.block k hlt (by simp)); have hne := Aside0.mk (show b1 ≠ bx by have := HI.lt; omega); have hb1 := Aside0.mk (show w.heap.size ≤ b1 ∧ bm < w.heap.size from ⟨HI.base, hbm⟩); have hb2 := Aside0.mk (show b1 ≠ bm from Nat.ne_of_gt (Nat.lt_of_lt_of_le hbm HI.base)); clear hv1 hat hown HI; clear c0 c1 c2 c3 d0 d1; have c0 := HI2.cell hpl hpb h0; have c1 := HI2.cell hpl hpb h1; have c2 := HI2.cell hpl hpb h2; have c3 := HI2.cell hpl hpb h3; have d0 := HI2.cell hgl hgb hg0; have d1 := HI2.cell hgl hgb hg1))
          go_loopg [147] n (fun kq s wr => ∃ (i : Nat) (x : List Bool), s = .int .i64 (i : Int) ∧ Aside0 (kq + i = n) ∧ Aside0 (Inv w wr (fun k => ok k ∧ k ≠ b1) g bm Aw cw lw n bx cx x) ∧ Aside0 (Kd.R Kd.bool 4 wr w.heap.size (fun k => k = b1) (sv b1 n e1) o) ∧ Aside0 (catRow (fun j' => endF k (t.f3.getD j z28) j' lw) (o.drop i) i x = some o2))
          case atStart => exact ⟨0, _, rfl, ⟨rfl⟩, ⟨HI2⟩, ⟨HO⟩, Hrow'⟩
          case round =>
            as_aux_lemma =>
              clear HI2 HO Hrow'
              clear c0 c1 c2 c3 d0 d1
              obtain ⟨i, x, rfl, hqi, HI2, HO, Hn⟩ := hrel
              replace HI2 := HI2.out
              replace HO := HO.out
              replace Hn := Hn.out
              have hq2 := hqi.out
              have hnl := hnn.out
              clear hqi
              have c0 := HI2.cell hpl hpb h0; have c1 := HI2.cell hpl hpb h1; have c2 := HI2.cell hpl hpb h2; have c3 := HI2.cell hpl hpb h3; have d0 := HI2.cell hgl hgb hg0; have d1 := HI2.cell hgl hgb hg1
              by_cases hi : i < n
              · obtain ⟨k2, rfl, hq4⟩ := pred_ex hq2 hi
                have i0 := tr_ge i
                have i1 := tr_lt hi
                have i2 := tr_dlt hi
                obtain ⟨cb, cf⟩ := Kd.R_celln false HO (i : Int) (Int.natCast_nonneg _) (Int.ofNat_lt.2 hi)
                rw [Int.toNat_natCast] at cb
                clear cf
                rcases catRow_step (by rw [hol'.out]; exact hi) Hn with ⟨hbi, m, o', hf, hjn, Hn2⟩ | ⟨hbi, Hn2⟩
                · rw [hbi] at cb
                  have Hn' := Aside0.mk Hn2
                  clear Hn Hn2 hbi hnl
                  go_wp2_with (fail)
                  refine (HI2.call ih hbm (fun j hj => ⟨hfr j (Nat.le_trans HI2.kept.1 hj), Nat.ne_of_gt (Nat.lt_of_lt_of_le (Kd.R_lt HO b1 rfl) hj)⟩) (okn := ok) hNd.out (fun k hk e => hR.nok (e ▸ hk)) (fun k hk hlt => ⟨hk, Nat.ne_of_lt (Nat.lt_of_lt_of_le hlt hb1.out.1)⟩) hf).mono ?_
                  rintro e W9 ⟨Am, cm, rfl, hm1, hm2, HJ, HKm⟩
                  dsimp only
                  clear HI2
                  clear c0 c1 c2 c3 d0 d1
                  have HI2 := HJ
                  clear HJ
                  replace HO := Kd.R_step HO (fun k hk hlt => HKm.2 k hlt (hk ▸ hb2.out))
                  have c0 := HI2.cell hpl hpb h0
                  have c1 := HI2.cell hpl hpb h1
                  have c2 := HI2.cell hpl hpb h2
                  have c3 := HI2.cell hpl hpb h3
                  have d0 := HI2.cell hgl hgb hg0
                  have d1 := HI2.cell hgl hgb hg1
                  go_wp2_with (fail)
                  refine (HI2.join hbm hm2 hm1 hjn).mono ?_
                  rintro e W10 ⟨rfl, HJ, HKj⟩
                  dsimp only
                  clear HI2
                  clear c0 c1 c2 c3 d0 d1
                  have HI2 := HJ
                  clear HJ
                  replace HO := Kd.R_step HO (fun k hk hlt => HKj.2 k hlt (hk ▸ hne.out))
                  have c0 := HI2.cell hpl hpb h0
                  have c1 := HI2.cell hpl hpb h1
                  have c2 := HI2.cell hpl hpb h2
                  have c3 := HI2.cell hpl hpb h3
                  have d0 := HI2.cell hgl hgb hg0
                  have d1 := HI2.cell hgl hgb hg1
                  go_wp2
                  go_roundg k2
                  case measure => exact Nat.lt_succ_self _
                  case rel => exact ⟨i + 1, _, (by first | rfl | go_num), hq4, ⟨HI2⟩, ⟨HO⟩, Hn'⟩
                · rw [hbi] at cb
                  have Hn' := Aside0.mk Hn2
                  clear Hn Hn2 hbi hnl
                  go_wp2
                  go_roundg k2
                  case measure => exact Nat.lt_succ_self _
                  case rel => exact ⟨i + 1, _, (by first | rfl | go_num), hq4, ⟨HI2⟩, ⟨HO⟩, Hn'⟩
              ·
                have i1 := fl_lt hi
                have i2 := fl_dlt hi
                rw [List.drop_eq_nil_of_le (by rw [hol'.out]; exact Nat.le_of_not_lt hi)] at Hn
                obtain rfl : x = o2 := Option.some.inj Hn
                clear hnl
                go_wp2
                go_roundg k1
                case measure => exact Nat.lt_succ_self _
                case rel => exact ⟨j + 1, _, bx, cx, rfl, (by first | rfl | go_num), hq3, ⟨HI2.weak (fun k hk => hk.1) hR.nok⟩, Hr'⟩
        ·
          have j1 := fl_lt hj
          have j2 := fl_dlt hj
          rw [List.drop_eq_nil_of_le (Nat.le_of_not_lt hj)] at Hn
          obtain rfl : o = r := Option.some.inj Hn
          go_wp2
          go_meet
          case rel => exact ⟨b1, e1, rfl, HI⟩
end Go.Proofs.Ytodbnnfiadcbaaa.P
namespace Go.Proofs.Ytodbnnfiadcbaaa.P
open Go.RowKit Go.Proofs.YtodbnnfiadcbaaaW.PrintWords Go.Proofs.YtodbnnfiadcbaaaW.PrintLast Go.Proofs.YtodbnnfiadcbaaaW.PrintMore
attribute [local go_sem] max2_int min2_int max_two min_two max_three min_three max_four min_four
set_option linter.unusedVariables false
set_option linter.unusedSimpArgs false
set_option maxHeartbeats 8000000 in
set_option maxRecDepth 100000 in
theorem end_flat {k : Nat} (ih : EndS k) : EndK k (fun t => t.f0 ≠ 4 ∧ t.f0 ≠ 6 ∧ t.f0 ≠ 5 ∧ t.f0 ≠ 7) := by
  intro t at_ r p g bm Aw cw lw ok w hk h hR hN hfr
  replace hk : t.f0 ≠ 4 ∧ t.f0 ≠ 6 ∧ t.f0 ≠ 5 ∧ t.f0 ≠ 7 := hk
  have hP : PlainAt w p := hN.2.2.1
  have hbm := hR.blt
  obtain ⟨es, clk, hb, he⟩ := hR.map
  obtain ⟨v, b, hrun, hv⟩ := lookup_run w (at_ : Int) hP hb (KeysOk.of he)
  have hg0 : w.cell? ⟨g, 0, none⟩ = some (.slice Aw lw.length cw) := (blk_cell hR.blk 0).trans rfl
  have hg1 : w.cell? ⟨g, 1, none⟩ = some (.map (some bm)) := (blk_cell hR.blk 1).trans rfl
  have hlw : at_ ≤ lw.length ∧ lw.length < 140737488355327 := by
    unfold endF at h
    by_cases hh : at_ ≤ lw.length ∧ lw.length < 140737488355327
    · exact hh
    · rw [if_neg hh] at h; cases h
  obtain ⟨n, hn⟩ : ∃ n, n = lw.length + 1 := ⟨_, rfl⟩
  have hw1 : ((lw.length : Int) + 1).toNat = n := by omega
  have hnn := Aside0.mk hn
  clear hn
  go_enter Try.func49, Try.ntmps49
  unfold keyV at hrun
  go_upto_if 29 with (fail)
  cases b with
  | true =>
    obtain ⟨e, hm, hk, rfl⟩ := hv rfl
    obtain ⟨A, c, ev, h1, h2⟩ := found h hN (he e hm) hk
    rw [ev]
    go_wp2
    go_ret
    exact ⟨A, c, rfl, h1, h2, hR, Kept.refl _ _, Same.refl _⟩
  | false =>
    clear hv hrun
    have hpl := hN.lt
    have hgl := hR.glt
    have hgb : g ≠ bm := fun e => hR.nok (e ▸ hR.okg)
    have hpb : p.block ≠ bm := fun e => hR.nok (e ▸ hN.1)
    obtain ⟨pb, po, Ap, cp, rfl, h0, h1, h2, h3, hcp, hF⟩ := hN.open
    go_upto_region 5 with (first | ((with_reducible refine gate_dst (N := 37) rfl ?_); refine Kd.R_make Kd.bool w.heap.size 4 rfl (N := 37) rfl 95 _ _ rfl ((lw.length : Int) + 1) rfl rfl Try.underlying95 (.bool false) 1 info4 rfl (by decide) (by omega) false (ok := fun _ => True) (okp := fun _ => True) rfl (fun _ hk => hk) trivial (by omega) (by rw [hw1]; omega) (Below.refl _ _) (Nat.le_refl _) ?_; intro v1 W hv1 hb1 hg hat; rw [hw1] at hv1; obtain ⟨bo, co, rfl, hbo, hblt, hown⟩ := row_made hnn.out hv1 hat; have HI := Inv.made hnn.out (Same.refl _) (Kept.refl _ _) hR hg hbo hblt hown; clear hv1 hat hown; have c0 := HI.cell hpl hpb h0; have c1 := HI.cell hpl hpb h1; have c2 := HI.cell hpl hpb h2; have c3 := HI.cell hpl hpb h3; have d0 := HI.cell hgl hgb hg0; have d1 := HI.cell hgl hgb hg1))
    go_upto_block 0 with (fail)
    go_cut [9] from 10 (fun s9 wc => ∃ b1 c1, s9 = sv b1 n c1 ∧ Inv w wc ok g bm Aw cw lw n b1 c1 r)
    case rest =>
      clear HI
      obtain ⟨b1, c1, rfl, HI⟩ := hcut
      have c0 := HI.cell hpl hpb h0
      have d0 := HI.cell hgl hgb hg0
      have d1 := HI.cell hgl hgb hg1
      have hb1 := HI.base
      have hNr := HI.node (okn := ok) hN (fun k hk e => hR.nok (e ▸ hk)) (fun k hk _ => hk)
      obtain ⟨es1, clk1, hbr, her⟩ := HI.inv.map
      obtain ⟨es2, clk2, hup, hes2⟩ := update_run wc (at_ : Int) (sv b1 n c1) hNr.2.2.1 hbr (KeysOk.of her)
      unfold keyV at hup
      go_wp2
      obtain ⟨q1, q2, q3, q4⟩ := HI.stored hbm (hfr b1 hb1) hR.nok (hNr.mono (fun k hk => hk.1)) h (by rw [HI.len]; exact (Kd.R_reads' HI.own).2.1) hbr her rfl hes2
      go_ret
      exact ⟨some ⟨b1, 0, none⟩, c1, by rw [HI.len]; rfl, by rw [HI.len]; exact (Kd.R_reads' HI.own).2.1, q1, q2, q3, q4⟩
    case first =>
      have H := h
      unfold endF at H
      rw [if_pos hlw, ← hnn.out] at H
      have hat3 : at_ < n := by have := hnn.out; omega
      have hnm : n ≤ 9223372036854775807 := by have := hnn.out; omega
      have hnk := Aside0.mk (show n * 1 ≤ 281474976710656 by have := hnn.out; omega)
      have hat1 := tr_ge at_
      have hat2 := tr_lt hat3
      by_cases k2 : t.f0 = 2
      · rw [if_pos k2] at H
        have b2 : (t.f0 == 2) = true := beq_iff_eq.mpr k2
        obtain rfl := Option.some.inj H
        obtain ⟨cb, cf⟩ := HI.cellb at_ hat3
        go_wp2
        go_meet
        case rel => exact ⟨bo, co, rfl, HI.set hbm at_ true⟩
      rw [if_neg k2] at H
      have b2 : (t.f0 == 2) = false := beq_eq_false_iff_ne.mpr k2
      by_cases k3 : t.f0 = 3
      · rw [if_pos k3] at H
        have b3 : (t.f0 == 3) = true := beq_iff_eq.mpr k3
        by_cases ki : isB lw at_ t.f1 = true
        · rw [if_pos ki] at H
          obtain rfl := Option.some.inj H
          have hi4 := isB_lt ki hnn.out
          have hi5 := tr_suc hi4
          have hi6 := tr_suc0 at_
          have hi7 := toNat_suc at_
          obtain ⟨cb, cf⟩ := HI.cellb (at_ + 1) hi4
          go_wp2_with (first | ((with_reducible refine gate_callee (f := 69) rfl ?_); refine goesL_ (some 55) rfl rfl Try.func69 (by kernel_rfl) rfl #[.pointer (some ⟨g, 0, none⟩), .int .i64 ((at_ : Nat) : Int), .int .i64 t.f1] rfl (by (try simp only [List.map_toArray, List.map_cons, List.map_nil]); first | done | rfl) ?_; (refine (reader_is_calls HI.inv at_ t.f1).mono ?_); rintro e W9 ⟨rfl, rfl⟩; refine ⟨_, rfl, ?_⟩; rw [ki]))
          go_meet
          case rel => exact ⟨bo, co, rfl, HI.set hbm (at_ + 1) true⟩
        · rw [if_neg ki] at H
          rw [Bool.not_eq_true] at ki
          obtain rfl := Option.some.inj H
          go_wp2_with (first | ((with_reducible refine gate_callee (f := 69) rfl ?_); refine goesL_ (some 55) rfl rfl Try.func69 (by kernel_rfl) rfl #[.pointer (some ⟨g, 0, none⟩), .int .i64 ((at_ : Nat) : Int), .int .i64 t.f1] rfl (by (try simp only [List.map_toArray, List.map_cons, List.map_nil]); first | done | rfl) ?_; (refine (reader_is_calls HI.inv at_ t.f1).mono ?_); rintro e W9 ⟨rfl, rfl⟩; refine ⟨_, rfl, ?_⟩; rw [ki]))
          go_meet
          case rel => exact ⟨bo, co, rfl, HI⟩
      rw [if_neg k3] at H
      have b3 : (t.f0 == 3) = false := beq_eq_false_iff_ne.mpr k3
      by_cases k4 : t.f0 = 4
      · rw [if_pos k4] at H
        have b4 : (t.f0 == 4) = true := beq_iff_eq.mpr k4
        exact absurd k4 hk.1
      rw [if_neg k4] at H
      have b4 : (t.f0 == 4) = false := beq_eq_false_iff_ne.mpr k4
      by_cases k6 : t.f0 = 6
      · rw [if_pos k6] at H
        have b6 : (t.f0 == 6) = true := beq_iff_eq.mpr k6
        exact absurd k6 hk.2.1
      rw [if_neg k6] at H
      have b6 : (t.f0 == 6) = false := beq_eq_false_iff_ne.mpr k6
      by_cases k5 : t.f0 = 5
      · rw [if_pos k5] at H
        have b5 : (t.f0 == 5) = true := beq_iff_eq.mpr k5
        exact absurd k5 hk.2.2.1
      rw [if_neg k5] at H
      have b5 : (t.f0 == 5) = false := beq_eq_false_iff_ne.mpr k5
      by_cases k7 : t.f0 = 7
      · rw [if_pos k7] at H
        have b7 : (t.f0 == 7) = true := beq_iff_eq.mpr k7
        exact absurd k7 hk.2.2.2
      rw [if_neg k7] at H
      have b7 : (t.f0 == 7) = false := beq_eq_false_iff_ne.mpr k7
      obtain rfl := Option.some.inj H
      go_wp2
      go_meet
      case rel => exact ⟨bo, co, rfl, HI⟩
end Go.Proofs.Ytodbnnfiadcbaaa.P
namespace Go.Proofs.Ytodbnnfiadcbaaa.P
open Go.RowKit Go.Proofs.YtodbnnfiadcbaaaW.PrintWords Go.Proofs.YtodbnnfiadcbaaaW.PrintLast Go.Proofs.YtodbnnfiadcbaaaW.PrintMore
attribute [local go_sem] max2_int min2_int max_two min_two max_three min_three max_four min_four
set_option linter.unusedVariables false
set_option linter.unusedSimpArgs false
set_option maxHeartbeats 8000000 in
set_option maxRecDepth 100000 in
theorem end_nest {k : Nat} (ih : EndS k) : EndK k (fun t => t.f0 = 4) := by
  intro t at_ r p g bm Aw cw lw ok w hk h hR hN hfr
  replace hk : t.f0 = 4 := hk
  have hP : PlainAt w p := hN.2.2.1
  have hbm := hR.blt
  obtain ⟨es, clk, hb, he⟩ := hR.map
  obtain ⟨v, b, hrun, hv⟩ := lookup_run w (at_ : Int) hP hb (KeysOk.of he)
  have hg0 : w.cell? ⟨g, 0, none⟩ = some (.slice Aw lw.length cw) := (blk_cell hR.blk 0).trans rfl
  have hg1 : w.cell? ⟨g, 1, none⟩ = some (.map (some bm)) := (blk_cell hR.blk 1).trans rfl
  have hlw : at_ ≤ lw.length ∧ lw.length < 140737488355327 := by
    unfold endF at h
    by_cases hh : at_ ≤ lw.length ∧ lw.length < 140737488355327
    · exact hh
    · rw [if_neg hh] at h; cases h
  obtain ⟨n, hn⟩ : ∃ n, n = lw.length + 1 := ⟨_, rfl⟩
  have hw1 : ((lw.length : Int) + 1).toNat = n := by omega
  have hnn := Aside0.mk hn
  clear hn
  go_enter Try.func49, Try.ntmps49
  unfold keyV at hrun
  go_upto_if 29 with (fail)
  cases b with
  | true =>
    obtain ⟨e, hm, hk, rfl⟩ := hv rfl
    obtain ⟨A, c, ev, h1, h2⟩ := found h hN (he e hm) hk
    rw [ev]
    go_wp2
    go_ret
    exact ⟨A, c, rfl, h1, h2, hR, Kept.refl _ _, Same.refl _⟩
  | false =>
    clear hv hrun
    have hpl := hN.lt
    have hgl := hR.glt
    have hgb : g ≠ bm := fun e => hR.nok (e ▸ hR.okg)
    have hpb : p.block ≠ bm := fun e => hR.nok (e ▸ hN.1)
    obtain ⟨pb, po, Ap, cp, rfl, h0, h1, h2, h3, hcp, hF⟩ := hN.open
    go_upto_region 5 with (first | ((with_reducible refine gate_dst (N := 37) rfl ?_); refine Kd.R_make Kd.bool w.heap.size 4 rfl (N := 37) rfl 95 _ _ rfl ((lw.length : Int) + 1) rfl rfl Try.underlying95 (.bool false) 1 info4 rfl (by decide) (by omega) false (ok := fun _ => True) (okp := fun _ => True) rfl (fun _ hk => hk) trivial (by omega) (by rw [hw1]; omega) (Below.refl _ _) (Nat.le_refl _) ?_; intro v1 W hv1 hb1 hg hat; rw [hw1] at hv1; obtain ⟨bo, co, rfl, hbo, hblt, hown⟩ := row_made hnn.out hv1 hat; have HI := Inv.made hnn.out (Same.refl _) (Kept.refl _ _) hR hg hbo hblt hown; clear hv1 hat hown; have c0 := HI.cell hpl hpb h0; have c1 := HI.cell hpl hpb h1; have c2 := HI.cell hpl hpb h2; have c3 := HI.cell hpl hpb h3; have d0 := HI.cell hgl hgb hg0; have d1 := HI.cell hgl hgb hg1))
    go_upto_block 0 with (fail)
    go_cut [9] from 10 (fun s9 wc => ∃ b1 c1, s9 = sv b1 n c1 ∧ Inv w wc ok g bm Aw cw lw n b1 c1 r)
    case rest =>
      clear HI
      obtain ⟨b1, c1, rfl, HI⟩ := hcut
      have c0 := HI.cell hpl hpb h0
      have d0 := HI.cell hgl hgb hg0
      have d1 := HI.cell hgl hgb hg1
      have hb1 := HI.base
      have hNr := HI.node (okn := ok) hN (fun k hk e => hR.nok (e ▸ hk)) (fun k hk _ => hk)
      obtain ⟨es1, clk1, hbr, her⟩ := HI.inv.map
      obtain ⟨es2, clk2, hup, hes2⟩ := update_run wc (at_ : Int) (sv b1 n c1) hNr.2.2.1 hbr (KeysOk.of her)
      unfold keyV at hup
      go_wp2
      obtain ⟨q1, q2, q3, q4⟩ := HI.stored hbm (hfr b1 hb1) hR.nok (hNr.mono (fun k hk => hk.1)) h (by rw [HI.len]; exact (Kd.R_reads' HI.own).2.1) hbr her rfl hes2
      go_ret
      exact ⟨some ⟨b1, 0, none⟩, c1, by rw [HI.len]; rfl, by rw [HI.len]; exact (Kd.R_reads' HI.own).2.1, q1, q2, q3, q4⟩
    case first =>
      have H := h
      unfold endF at H
      rw [if_pos hlw, ← hnn.out] at H
      have hat3 : at_ < n := by have := hnn.out; omega
      have hnm : n ≤ 9223372036854775807 := by have := hnn.out; omega
      have hnk := Aside0.mk (show n * 1 ≤ 281474976710656 by have := hnn.out; omega)
      have hat1 := tr_ge at_
      have hat2 := tr_lt hat3
      have k2 : ¬ t.f0 = 2 := by rw [hk]; decide
      rw [if_neg k2] at H
      have b2 : (t.f0 == 2) = false := beq_eq_false_iff_ne.mpr k2
      have k3 : ¬ t.f0 = 3 := by rw [hk]; decide
      rw [if_neg k3] at H
      have b3 : (t.f0 == 3) = false := beq_eq_false_iff_ne.mpr k3
      rw [if_pos hk] at H
      have b4 : (t.f0 == 4) = true := beq_iff_eq.mpr hk
      by_cases kl : t.f3.length = 1
      · have bl : ((t.f3.length : Int) == 1) = true := by rw [kl]; rfl
        by_cases ki : isB lw at_ t.f1 = true
        · rw [if_pos ⟨kl, ki⟩] at H
          obtain ⟨m, hf, H⟩ := bind_some H
          have H := Option.some.inj H
          have H' := Aside0.mk H
          clear H
          have hl0 : (0 < (t.f3.length : Int)) = True := eq_true (by rw [kl]; decide)
          obtain ⟨qb, qo, e, hNc⟩ := F_child hF 0 (by rw [kl]; decide)
          subst e
          have hNd := Aside0.mk hNc
          clear hNc
          go_wp2_with (first | ((refine (reader_is_calls HI.inv at_ t.f1).mono ?_); rintro e W9 ⟨rfl, rfl⟩; rw [ki]; dsimp only) | fail)
          refine (HI.call ih hbm (fun j hj => hfr j (Nat.le_trans HI.kept.1 hj)) (okn := ok) hNd.out (fun k hk e => hR.nok (e ▸ hk)) (fun k hk _ => hk) hf).mono ?_
          rintro e W9 ⟨Am, cm, rfl, hm1, hm2, HJ, HKm⟩
          dsimp only
          clear HI
          clear c0 c1 c2 c3 d0 d1
          have HI := HJ
          clear HJ
          have c0 := HI.cell hpl hpb h0
          have c1 := HI.cell hpl hpb h1
          have c2 := HI.cell hpl hpb h2
          have c3 := HI.cell hpl hpb h3
          have d0 := HI.cell hgl hgb hg0
          have d1 := HI.cell hgl hgb hg1
          go_wp2
          go_loopg [87] m.length (fun kq s87 wr => ∃ (j : Nat) (o : List Bool), s87 = .int .i64 (j : Int) ∧ Aside0 (kq + j = m.length) ∧ Aside0 (Inv w wr ok g bm Aw cw lw n bo co o) ∧ Aside0 (nestL lw t.f2 (m.drop j) j o = r) ∧ Aside0 (Kd.F Kd.bool wr (fun k => ok k ∧ k ≠ bo) Am m.length m))
          case atStart => exact ⟨0, _, rfl, ⟨rfl⟩, ⟨HI⟩, H', ⟨hm2⟩⟩
          case round =>
            have hmm : m.length ≤ 9223372036854775807 := Kd.C_max (Kd.F_now hm2)
            clear HI hm2 H' HKm
            clear c0 c1 c2 c3 d0 d1
            obtain ⟨j, o, rfl, hq, HI, Hn, hm2⟩ := hrel
            replace HI := HI.out
            replace hm2 := hm2.out
            replace Hn := Hn.out
            have hq1 := hq.out
            have c0 := HI.cell hpl hpb h0; have c1 := HI.cell hpl hpb h1; have c2 := HI.cell hpl hpb h2; have c3 := HI.cell hpl hpb h3; have d0 := HI.cell hgl hgb hg0; have d1 := HI.cell hgl hgb hg1
            by_cases hj : j < m.length
            · obtain ⟨k1, rfl, hq3⟩ := pred_ex hq1 hj
              have j0 := tr_ge j
              have j1 := tr_lt hj
              have j2 := tr_dlt hj
              obtain ⟨ad, e, hx⟩ := Kd.at_bool (Kd.F_now hm2) (j : Int) (Int.natCast_nonneg _) (Int.ofNat_lt.2 hj)
              rw [Int.toNat_natCast] at hx
              subst e
              rw [nestL_step hj] at Hn
              cases hbj : rdOf false m (j : Int) with
              | true =>
                rw [hbj] at hx
                by_cases kj : isB lw j t.f2 = true
                · rw [hbj, kj, Bool.true_and, if_pos rfl] at Hn
                  have Hn' := Aside0.mk Hn
                  clear Hn hbj hq
                  have hi4 := isB_lt kj hnn.out
                  have hi5 := tr_suc hi4
                  have hi6 := tr_suc0 j
                  have hi7 := toNat_suc j
                  obtain ⟨cb, cf⟩ := HI.cellb (j + 1) hi4
                  go_wp2_with (first | ((refine (reader_is_calls HI.inv j t.f2).mono ?_); rintro e W9 ⟨rfl, rfl⟩; rw [kj]; dsimp only))
                  go_roundg k1
                  case measure => exact Nat.lt_succ_self _
                  case rel => exact ⟨j + 1, _, (by first | rfl | go_num), hq3, ⟨HI.set hbm (j + 1) true⟩, Hn', ⟨Kd.F_far hm2 (p := ⟨bo, j + 1, none⟩) (fun k hk => hk.2) _⟩⟩
                · rw [Bool.not_eq_true] at kj
                  rw [hbj, kj, Bool.true_and, if_neg (by decide)] at Hn
                  have Hn' := Aside0.mk Hn
                  clear Hn hbj
                  go_wp2_with (first | ((refine (reader_is_calls HI.inv j t.f2).mono ?_); rintro e W9 ⟨rfl, rfl⟩; rw [kj]; dsimp only))
                  go_roundg k1
                  case measure => exact Nat.lt_succ_self _
                  case rel => exact ⟨j + 1, _, (by first | rfl | go_num), hq3, ⟨HI⟩, Hn', ⟨hm2⟩⟩
              | false =>
                rw [hbj] at hx
                rw [hbj, Bool.false_and, if_neg (by decide)] at Hn
                have Hn' := Aside0.mk Hn
                clear Hn hbj
                go_wp2
                go_roundg k1
                case measure => exact Nat.lt_succ_self _
                case rel => exact ⟨j + 1, _, (by first | rfl | go_num), hq3, ⟨HI⟩, Hn', ⟨hm2⟩⟩
            ·
              have j1 := fl_lt hj
              have j2 := fl_dlt hj
              rw [List.drop_eq_nil_of_le (Nat.le_of_not_lt hj)] at Hn
              obtain rfl : o = r := Hn
              go_wp2
              go_meet
              case rel => exact ⟨bo, co, rfl, HI⟩
        · rw [if_neg (fun hh => ki hh.2)] at H
          rw [Bool.not_eq_true] at ki
          obtain rfl := Option.some.inj H
          go_wp2_with (first | ((refine (reader_is_calls HI.inv at_ t.f1).mono ?_); rintro e W9 ⟨rfl, rfl⟩; rw [ki]; dsimp only))
          go_meet
          case rel => exact ⟨bo, co, rfl, HI⟩
      · have bl := ne_one kl
        rw [if_neg (fun hh => kl hh.1)] at H
        obtain rfl := Option.some.inj H
        go_wp2
        go_meet
        case rel => exact ⟨bo, co, rfl, HI⟩
end Go.Proofs.Ytodbnnfiadcbaaa.P
namespace Go.Proofs.Ytodbnnfiadcbaaa.P
open Go.RowKit Go.Proofs.YtodbnnfiadcbaaaW.PrintWords Go.Proofs.YtodbnnfiadcbaaaW.PrintLast Go.Proofs.YtodbnnfiadcbaaaW.PrintMore
attribute [local go_sem] max2_int min2_int max_two min_two max_three min_three max_four min_four
set_option linter.unusedVariables false
set_option linter.unusedSimpArgs false
set_option maxHeartbeats 8000000 in
set_option maxRecDepth 100000 in
theorem end_or {k : Nat} (ih : EndS k) : EndK k (fun t => t.f0 = 6) := by
  intro t at_ r p g bm Aw cw lw ok w hk h hR hN hfr
  replace hk : t.f0 = 6 := hk
  have hP : PlainAt w p := hN.2.2.1
  have hbm := hR.blt
  obtain ⟨es, clk, hb, he⟩ := hR.map
  obtain ⟨v, b, hrun, hv⟩ := lookup_run w (at_ : Int) hP hb (KeysOk.of he)
  have hg0 : w.cell? ⟨g, 0, none⟩ = some (.slice Aw lw.length cw) := (blk_cell hR.blk 0).trans rfl
  have hg1 : w.cell? ⟨g, 1, none⟩ = some (.map (some bm)) := (blk_cell hR.blk 1).trans rfl
  have hlw : at_ ≤ lw.length ∧ lw.length < 140737488355327 := by
    unfold endF at h
    by_cases hh : at_ ≤ lw.length ∧ lw.length < 140737488355327
    · exact hh
    · rw [if_neg hh] at h; cases h
  obtain ⟨n, hn⟩ : ∃ n, n = lw.length + 1 := ⟨_, rfl⟩
  have hw1 : ((lw.length : Int) + 1).toNat = n := by omega
  have hnn := Aside0.mk hn
  clear hn
  go_enter Try.func49, Try.ntmps49
  unfold keyV at hrun
  go_upto_if 29 with (fail)
  cases b with
  | true =>
    obtain ⟨e, hm, hk, rfl⟩ := hv rfl
    obtain ⟨A, c, ev, h1, h2⟩ := found h hN (he e hm) hk
    rw [ev]
    go_wp2
    go_ret
    exact ⟨A, c, rfl, h1, h2, hR, Kept.refl _ _, Same.refl _⟩
  | false =>
    clear hv hrun
    have hpl := hN.lt
    have hgl := hR.glt
    have hgb : g ≠ bm := fun e => hR.nok (e ▸ hR.okg)
    have hpb : p.block ≠ bm := fun e => hR.nok (e ▸ hN.1)
    obtain ⟨pb, po, Ap, cp, rfl, h0, h1, h2, h3, hcp, hF⟩ := hN.open
    go_upto_region 5 with (first | ((with_reducible refine gate_dst (N := 37) rfl ?_); refine Kd.R_make Kd.bool w.heap.size 4 rfl (N := 37) rfl 95 _ _ rfl ((lw.length : Int) + 1) rfl rfl Try.underlying95 (.bool false) 1 info4 rfl (by decide) (by omega) false (ok := fun _ => True) (okp := fun _ => True) rfl (fun _ hk => hk) trivial (by omega) (by rw [hw1]; omega) (Below.refl _ _) (Nat.le_refl _) ?_; intro v1 W hv1 hb1 hg hat; rw [hw1] at hv1; obtain ⟨bo, co, rfl, hbo, hblt, hown⟩ := row_made hnn.out hv1 hat; have HI := Inv.made hnn.out (Same.refl _) (Kept.refl _ _) hR hg hbo hblt hown; clear hv1 hat hown; have c0 := HI.cell hpl hpb h0; have c1 := HI.cell hpl hpb h1; have c2 := HI.cell hpl hpb h2; have c3 := HI.cell hpl hpb h3; have d0 := HI.cell hgl hgb hg0; have d1 := HI.cell hgl hgb hg1))
    go_upto_block 0 with (fail)
    go_cut [9] from 10 (fun s9 wc => ∃ b1 c1, s9 = sv b1 n c1 ∧ Inv w wc ok g bm Aw cw lw n b1 c1 r)
    case rest =>
      clear HI
      obtain ⟨b1, c1, rfl, HI⟩ := hcut
      have c0 := HI.cell hpl hpb h0
      have d0 := HI.cell hgl hgb hg0
      have d1 := HI.cell hgl hgb hg1
      have hb1 := HI.base
      have hNr := HI.node (okn := ok) hN (fun k hk e => hR.nok (e ▸ hk)) (fun k hk _ => hk)
      obtain ⟨es1, clk1, hbr, her⟩ := HI.inv.map
      obtain ⟨es2, clk2, hup, hes2⟩ := update_run wc (at_ : Int) (sv b1 n c1) hNr.2.2.1 hbr (KeysOk.of her)
      unfold keyV at hup
      go_wp2
      obtain ⟨q1, q2, q3, q4⟩ := HI.stored hbm (hfr b1 hb1) hR.nok (hNr.mono (fun k hk => hk.1)) h (by rw [HI.len]; exact (Kd.R_reads' HI.own).2.1) hbr her rfl hes2
      go_ret
      exact ⟨some ⟨b1, 0, none⟩, c1, by rw [HI.len]; rfl, by rw [HI.len]; exact (Kd.R_reads' HI.own).2.1, q1, q2, q3, q4⟩
    case first =>
      have H := h
      unfold endF at H
      rw [if_pos hlw, ← hnn.out] at H
      have hat3 : at_ < n := by have := hnn.out; omega
      have hnm : n ≤ 9223372036854775807 := by have := hnn.out; omega
      have hnk := Aside0.mk (show n * 1 ≤ 281474976710656 by have := hnn.out; omega)
      have hat1 := tr_ge at_
      have hat2 := tr_lt hat3
      have k2 : ¬ t.f0 = 2 := by rw [hk]; decide
      rw [if_neg k2] at H
      have b2 : (t.f0 == 2) = false := beq_eq_false_iff_ne.mpr k2
      have k3 : ¬ t.f0 = 3 := by rw [hk]; decide
      rw [if_neg k3] at H
      have b3 : (t.f0 == 3) = false := beq_eq_false_iff_ne.mpr k3
      have k4 : ¬ t.f0 = 4 := by rw [hk]; decide
      rw [if_neg k4] at H
      have b4 : (t.f0 == 4) = false := beq_eq_false_iff_ne.mpr k4
      rw [if_pos hk] at H
      have b6 : (t.f0 == 6) = true := beq_iff_eq.mpr hk
      have H' := Aside0.mk H
      clear H
      have hFl : t.f3.length ≤ 9223372036854775807 := Kd.C_max (Kd.F_now hF)
      go_wp2
      go_loopg [114] t.f3.length (fun kq s wr => ∃ (j : Nat) (o : List Bool), s = .int .i64 (j : Int) ∧ Aside0 (kq + j = t.f3.length) ∧ Aside0 (Inv w wr ok g bm Aw cw lw n bo co o) ∧ Aside0 (orL (fun c => endF k c at_ lw) (t.f3.drop j) o = some r))
      case atStart => exact ⟨0, _, rfl, ⟨rfl⟩, ⟨HI⟩, H'⟩
      case round =>
        clear HI H'
        clear c0 c1 c2 c3 d0 d1
        obtain ⟨j, o, rfl, hq, HI, Hn⟩ := hrel
        replace HI := HI.out
        replace Hn := Hn.out
        have hq1 := hq.out
        have c0 := HI.cell hpl hpb h0; have c1 := HI.cell hpl hpb h1; have c2 := HI.cell hpl hpb h2; have c3 := HI.cell hpl hpb h3; have d0 := HI.cell hgl hgb hg0; have d1 := HI.cell hgl hgb hg1
        by_cases hj : j < t.f3.length
        · obtain ⟨k1, rfl, hq3⟩ := pred_ex hq1 hj
          have j0 := tr_ge j
          have j1 := tr_lt hj
          have j2 := tr_dlt hj
          obtain ⟨m, o', hf, hjn, Hr⟩ := orL_step hj Hn
          have Hr' := Aside0.mk Hr
          clear Hn Hr
          obtain ⟨qb, qo, e, hNc⟩ := F_row hF j hj
          subst e
          have hNd := Aside0.mk hNc
          clear hNc
          go_wp2_with (fail)
          refine (HI.call ih hbm (fun j hj => hfr j (Nat.le_trans HI.kept.1 hj)) (okn := ok) hNd.out (fun k hk e => hR.nok (e ▸ hk)) (fun k hk _ => hk) hf).mono ?_
          rintro e W9 ⟨Am, cm, rfl, hm1, hm2, HJ, HKm⟩
          dsimp only
          clear HI
          clear c0 c1 c2 c3 d0 d1
          have HI := HJ
          clear HJ
          have c0 := HI.cell hpl hpb h0
          have c1 := HI.cell hpl hpb h1
          have c2 := HI.cell hpl hpb h2
          have c3 := HI.cell hpl hpb h3
          have d0 := HI.cell hgl hgb hg0
          have d1 := HI.cell hgl hgb hg1
          go_wp2_with (fail)
          refine (HI.join hbm hm2 hm1 hjn).mono ?_
          rintro e W10 ⟨rfl, HJ, HKj⟩
          dsimp only
          clear HI
          clear c0 c1 c2 c3 d0 d1
          have HI := HJ
          clear HJ
          have c0 := HI.cell hpl hpb h0
          have c1 := HI.cell hpl hpb h1
          have c2 := HI.cell hpl hpb h2
          have c3 := HI.cell hpl hpb h3
          have d0 := HI.cell hgl hgb hg0
          have d1 := HI.cell hgl hgb hg1
          go_wp2
          go_roundg k1
          case measure => exact Nat.lt_succ_self _
          case rel => exact ⟨j + 1, _, (by first | rfl | go_num), hq3, ⟨HI⟩, Hr'⟩
        ·
          have j1 := fl_lt hj
          have j2 := fl_dlt hj
          rw [List.drop_eq_nil_of_le (Nat.le_of_not_lt hj)] at Hn
          obtain rfl : o = r := Option.some.inj Hn
          go_wp2
          go_meet
          case rel => exact ⟨bo, co, rfl, HI⟩
end Go.Proofs.Ytodbnnfiadcbaaa.P
namespace Go.Proofs.Ytodbnnfiadcbaaa.P
open Go.RowKit Go.Proofs.YtodbnnfiadcbaaaW.PrintWords Go.Proofs.YtodbnnfiadcbaaaW.PrintLast Go.Proofs.YtodbnnfiadcbaaaW.PrintMore
attribute [local go_sem] max2_int min2_int max_two min_two max_three min_three max_four min_four
set_option linter.unusedVariables false
set_option linter.unusedSimpArgs false
set_option maxHeartbeats 8000000 in
set_option maxRecDepth 100000 in
theorem end_star {k : Nat} (ih : EndS k) : EndK k (fun t => t.f0 = 7) := by
  intro t at_ r p g bm Aw cw lw ok w hk h hR hN hfr
  replace hk : t.f0 = 7 := hk
  have hP : PlainAt w p := hN.2.2.1
  have hbm := hR.blt
  obtain ⟨es, clk, hb, he⟩ := hR.map
  obtain ⟨v, b, hrun, hv⟩ := lookup_run w (at_ : Int) hP hb (KeysOk.of he)
  have hg0 : w.cell? ⟨g, 0, none⟩ = some (.slice Aw lw.length cw) := (blk_cell hR.blk 0).trans rfl
  have hg1 : w.cell? ⟨g, 1, none⟩ = some (.map (some bm)) := (blk_cell hR.blk 1).trans rfl
  have hlw : at_ ≤ lw.length ∧ lw.length < 140737488355327 := by
    unfold endF at h
    by_cases hh : at_ ≤ lw.length ∧ lw.length < 140737488355327
    · exact hh
    · rw [if_neg hh] at h; cases h
  obtain ⟨n, hn⟩ : ∃ n, n = lw.length + 1 := ⟨_, rfl⟩
  have hw1 : ((lw.length : Int) + 1).toNat = n := by omega
  have hnn := Aside0.mk hn
  clear hn
  go_enter Try.func49, Try.ntmps49
  unfold keyV at hrun
  go_upto_if 29 with (fail)
  cases b with
  | true =>
    obtain ⟨e, hm, hk, rfl⟩ := hv rfl
    obtain ⟨A, c, ev, h1, h2⟩ := found h hN (he e hm) hk
    rw [ev]
    go_wp2
    go_ret
    exact ⟨A, c, rfl, h1, h2, hR, Kept.refl _ _, Same.refl _⟩
  | false =>
    clear hv hrun
    have hpl := hN.lt
    have hgl := hR.glt
    have hgb : g ≠ bm := fun e => hR.nok (e ▸ hR.okg)
    have hpb : p.block ≠ bm := fun e => hR.nok (e ▸ hN.1)
    obtain ⟨pb, po, Ap, cp, rfl, h0, h1, h2, h3, hcp, hF⟩ := hN.open
    go_upto_region 5 with (first | ((with_reducible refine gate_dst (N := 37) rfl ?_); refine Kd.R_make Kd.bool w.heap.size 4 rfl (N := 37) rfl 95 _ _ rfl ((lw.length : Int) + 1) rfl rfl Try.underlying95 (.bool false) 1 info4 rfl (by decide) (by omega) false (ok := fun _ => True) (okp := fun _ => True) rfl (fun _ hk => hk) trivial (by omega) (by rw [hw1]; omega) (Below.refl _ _) (Nat.le_refl _) ?_; intro v1 W hv1 hb1 hg hat; rw [hw1] at hv1; obtain ⟨bo, co, rfl, hbo, hblt, hown⟩ := row_made hnn.out hv1 hat; have HI := Inv.made hnn.out (Same.refl _) (Kept.refl _ _) hR hg hbo hblt hown; clear hv1 hat hown; have c0 := HI.cell hpl hpb h0; have c1 := HI.cell hpl hpb h1; have c2 := HI.cell hpl hpb h2; have c3 := HI.cell hpl hpb h3; have d0 := HI.cell hgl hgb hg0; have d1 := HI.cell hgl hgb hg1))
    go_upto_block 0 with (fail)
    go_cut [9] from 10 (fun s9 wc => ∃ b1 c1, s9 = sv b1 n c1 ∧ Inv w wc ok g bm Aw cw lw n b1 c1 r)
    case rest =>
      clear HI
      obtain ⟨b1, c1, rfl, HI⟩ := hcut
      have c0 := HI.cell hpl hpb h0
      have d0 := HI.cell hgl hgb hg0
      have d1 := HI.cell hgl hgb hg1
      have hb1 := HI.base
      have hNr := HI.node (okn := ok) hN (fun k hk e => hR.nok (e ▸ hk)) (fun k hk _ => hk)
      obtain ⟨es1, clk1, hbr, her⟩ := HI.inv.map
      obtain ⟨es2, clk2, hup, hes2⟩ := update_run wc (at_ : Int) (sv b1 n c1) hNr.2.2.1 hbr (KeysOk.of her)
      unfold keyV at hup
      go_wp2
      obtain ⟨q1, q2, q3, q4⟩ := HI.stored hbm (hfr b1 hb1) hR.nok (hNr.mono (fun k hk => hk.1)) h (by rw [HI.len]; exact (Kd.R_reads' HI.own).2.1) hbr her rfl hes2
      go_ret
      exact ⟨some ⟨b1, 0, none⟩, c1, by rw [HI.len]; rfl, by rw [HI.len]; exact (Kd.R_reads' HI.own).2.1, q1, q2, q3, q4⟩
    case first =>
      have H := h
      unfold endF at H
      rw [if_pos hlw, ← hnn.out] at H
      have hat3 : at_ < n := by have := hnn.out; omega
      have hnm : n ≤ 9223372036854775807 := by have := hnn.out; omega
      have hnk := Aside0.mk (show n * 1 ≤ 281474976710656 by have := hnn.out; omega)
      have hat1 := tr_ge at_
      have hat2 := tr_lt hat3
      have k2 : ¬ t.f0 = 2 := by rw [hk]; decide
      rw [if_neg k2] at H
      have b2 : (t.f0 == 2) = false := beq_eq_false_iff_ne.mpr k2
      have k3 : ¬ t.f0 = 3 := by rw [hk]; decide
      rw [if_neg k3] at H
      have b3 : (t.f0 == 3) = false := beq_eq_false_iff_ne.mpr k3
      have k4 : ¬ t.f0 = 4 := by rw [hk]; decide
      rw [if_neg k4] at H
      have b4 : (t.f0 == 4) = false := beq_eq_false_iff_ne.mpr k4
      have k6 : ¬ t.f0 = 6 := by rw [hk]; decide
      rw [if_neg k6] at H
      have b6 : (t.f0 == 6) = false := beq_eq_false_iff_ne.mpr k6
      have k5 : ¬ t.f0 = 5 := by rw [hk]; decide
      rw [if_neg k5] at H
      have b5 : (t.f0 == 5) = false := beq_eq_false_iff_ne.mpr k5
      rw [if_pos hk] at H
      have b7 : (t.f0 == 7) = true := beq_iff_eq.mpr hk
      obtain ⟨cb, cf⟩ := HI.cellb at_ hat3
      go_upto_region 41 with (fail)
      have HJ := HI.set hbm at_ true
      clear HI cb cf
      clear c0 c1 c2 c3 d0 d1
      generalize World.setCell _ _ _ = W5 at HJ ⊢
      have HI := HJ
      clear HJ
      have c0 := HI.cell hpl hpb h0; have c1 := HI.cell hpl hpb h1; have c2 := HI.cell hpl hpb h2; have c3 := HI.cell hpl hpb h3; have d0 := HI.cell hgl hgb hg0; have d1 := HI.cell hgl hgb hg1
      by_cases kl : t.f3.length = 1
      · have bl : ((t.f3.length : Int) == 1) = true := by rw [kl]; rfl
        rw [if_pos kl] at H
        have H' := Aside0.mk H
        clear H
        have hl0 : (0 < (t.f3.length : Int)) = True := eq_true (by rw [kl]; decide)
        obtain ⟨qb, qo, e, hNc⟩ := F_child hF 0 (by rw [kl]; decide)
        subst e
        have hNd := Aside0.mk hNc
        clear hNc
        go_wp2
        go_loopg [17] (lw.length + 3) (fun kq s wr => ∃ (j : Nat) (o : List Bool), s = .int .i64 (j : Int) ∧ Aside0 (Inv w wr ok g bm Aw cw lw n bo co o) ∧ Aside0 (starL (fun j => endF k (t.f3.getD 0 z28) j lw) kq j o = some r))
        case atStart => exact ⟨at_, _, rfl, ⟨HI⟩, H'⟩
        case round =>
          clear HI H'
          clear c0 c1 c2 c3 d0 d1
          obtain ⟨j, o, rfl, HI, Hn⟩ := hrel
          replace HI := HI.out
          replace Hn := Hn.out
          have c0 := HI.cell hpl hpb h0; have c1 := HI.cell hpl hpb h1; have c2 := HI.cell hpl hpb h2; have c3 := HI.cell hpl hpb h3; have d0 := HI.cell hgl hgb hg0; have d1 := HI.cell hgl hgb hg1
          have hol := HI.len
          have hnl := hnn.out
          by_cases hj : j < n
          · obtain ⟨q1, rfl, hc⟩ := starL_step (by rw [hol]; exact hj) Hn
            clear Hn
            have j0 := tr_ge j
            have j1 := tr_lt hj
            have j2 := tr_dlt hj
            obtain ⟨cb, cf⟩ := HI.cellb j hj
            clear cf hol hnl
            rcases hc with ⟨hbi, m, o', hf, hjn, Hn2⟩ | ⟨hbi, Hn2⟩
            · rw [hbi] at cb
              have Hn' := Aside0.mk Hn2
              clear Hn2 hbi
              go_wp2_with (fail)
              refine (HI.call ih hbm (fun j hj => hfr j (Nat.le_trans HI.kept.1 hj)) (okn := ok) hNd.out (fun k hk e => hR.nok (e ▸ hk)) (fun k hk _ => hk) hf).mono ?_
              rintro e W9 ⟨Am, cm, rfl, hm1, hm2, HJ, HKm⟩
              dsimp only
              clear HI
              clear c0 c1 c2 c3 d0 d1
              have HI := HJ
              clear HJ
              have c0 := HI.cell hpl hpb h0
              have c1 := HI.cell hpl hpb h1
              have c2 := HI.cell hpl hpb h2
              have c3 := HI.cell hpl hpb h3
              have d0 := HI.cell hgl hgb hg0
              have d1 := HI.cell hgl hgb hg1
              go_wp2_with (fail)
              refine (HI.join hbm hm2 hm1 hjn).mono ?_
              rintro e W10 ⟨rfl, HJ, HKj⟩
              dsimp only
              clear HI
              clear c0 c1 c2 c3 d0 d1
              have HI := HJ
              clear HJ
              have c0 := HI.cell hpl hpb h0
              have c1 := HI.cell hpl hpb h1
              have c2 := HI.cell hpl hpb h2
              have c3 := HI.cell hpl hpb h3
              have d0 := HI.cell hgl hgb hg0
              have d1 := HI.cell hgl hgb hg1
              go_wp2
              go_roundg q1
              case measure => exact Nat.lt_succ_self _
              case rel => exact ⟨j + 1, _, (by first | rfl | go_num), ⟨HI⟩, Hn'⟩
            · rw [hbi] at cb
              have Hn' := Aside0.mk Hn2
              clear Hn2 hbi
              go_wp2
              go_roundg q1
              case measure => exact Nat.lt_succ_self _
              case rel => exact ⟨j + 1, _, (by first | rfl | go_num), ⟨HI⟩, Hn'⟩
          ·
            have j1 := fl_lt hj
            have j2 := fl_dlt hj
            obtain rfl := starL_end (by rw [hol]; exact hj) Hn
            clear hol hnl
            go_wp2
            go_meet
            case rel => exact ⟨bo, co, rfl, HI⟩
      · have bl := ne_one kl
        rw [if_neg kl] at H
        obtain rfl := Option.some.inj H
        go_wp2
        go_loopg [17] 0 (fun kq s wr => s = .int .i64 (at_ : Int) ∧ Aside0 (Inv w wr ok g bm Aw cw lw n bo co ((List.replicate n false).set at_ true)))
        case atStart => exact ⟨rfl, ⟨HI⟩⟩
        case round =>
          clear HI
          clear c0 c1 c2 c3 d0 d1
          obtain ⟨rfl, HI⟩ := hrel
          replace HI := HI.out
          have c0 := HI.cell hpl hpb h0; have c1 := HI.cell hpl hpb h1; have c2 := HI.cell hpl hpb h2; have c3 := HI.cell hpl hpb h3; have d0 := HI.cell hgl hgb hg0; have d1 := HI.cell hgl hgb hg1
          have j2 := tr_dlt hat3
          go_wp2
          go_meet
          case rel => exact ⟨bo, co, rfl, HI⟩
end Go.Proofs.Ytodbnnfiadcbaaa.P
namespace Go.Proofs.Ytodbnnfiadcbaaa.P
open Go.RowKit Go.Proofs.YtodbnnfiadcbaaaW.PrintWords Go.Proofs.YtodbnnfiadcbaaaW.PrintLast Go.Proofs.YtodbnnfiadcbaaaW.PrintMore
attribute [local go_sem] max2_int min2_int max_two min_two max_three min_three max_four min_four
set_option linter.unusedVariables false
set_option linter.unusedSimpArgs false
theorem end_calls (k : Nat) : EndS k := by
  induction k with
  | zero => exact fun t at_ r p g bm Aw cw lw ok W h => absurd h (by simp [endF])
  | succ k ih =>
    intro t at_ r p g bm Aw cw lw ok W h hR hN hfr
    by_cases h4 : t.f0 = 4
    · exact end_nest ih t at_ r p g bm Aw cw lw ok W h4 h hR hN hfr
    by_cases h6 : t.f0 = 6
    · exact end_or ih t at_ r p g bm Aw cw lw ok W h6 h hR hN hfr
    by_cases h5 : t.f0 = 5
    · exact end_cat ih t at_ r p g bm Aw cw lw ok W h5 h hR hN hfr
    by_cases h7 : t.f0 = 7
    · exact end_star ih t at_ r p g bm Aw cw lw ok W h7 h hR hN hfr
    exact end_flat ih t at_ r p g bm Aw cw lw ok W ⟨h4, h6, h5, h7⟩ h hR hN hfr
abbrev hasW (w : World) (t : S28) (A3 : Option Addr) (c3 : Nat) (A1 : Option Addr) (c1 n : Nat) : World :=
  ((w.alloc (.cells #[.int .i64 t.f0, .int .i64 t.f1, .int .i64 t.f2, .slice A3 t.f3.length c3] 28)).alloc (.map #[] 0)).alloc (.cells #[.slice A1 n c1, .map (some (w.heap.size + 1))] 94)
theorem has_heap (w : World) (t : S28) (A3 : Option Addr) (c3 : Nat) (A1 : Option Addr) (c1 n : Nat) : (hasW w t A3 c3 A1 c1 n).heap[w.heap.size]? = some (.cells #[.int .i64 t.f0, .int .i64 t.f1, .int .i64 t.f2, .slice A3 t.f3.length c3] 28 (0, 0)) ∧
    (hasW w t A3 c3 A1 c1 n).heap[w.heap.size + 1]? = some (.map #[] 0) ∧ (hasW w t A3 c3 A1 c1 n).heap[w.heap.size + 1 + 1]? = some (.cells #[.slice A1 n c1, .map (some (w.heap.size + 1))] 94 (0, 0)) ∧ (hasW w t A3 c3 A1 c1 n).heap.size = w.heap.size + 3 := by
  have s1 : ∀ (W : World) (o : Obj), (W.alloc o).heap.size = W.heap.size + 1 := fun W o => Array.size_push _
  refine ⟨blk_alloc (blk_alloc (blk_new w _) _) _, ?_, ?_, by rw [s1, s1, s1]⟩
  · have h := heap_alloc_new (w.alloc (.cells #[.int .i64 t.f0, .int .i64 t.f1, .int .i64 t.f2, .slice A3 t.f3.length c3] 28)) (.map #[] 0)
    rw [s1] at h
    exact blk_alloc h _
  · have h := heap_alloc_new ((w.alloc (.cells #[.int .i64 t.f0, .int .i64 t.f1, .int .i64 t.f2, .slice A3 t.f3.length c3] 28)).alloc (.map #[] 0)) (.cells #[.slice A1 n c1, .map (some (w.heap.size + 1))] 94)
    rw [s1, s1] at h
    exact h
theorem has_ready (t : S28) (A3 : Option Addr) (c3 : Nat) (A1 : Option Addr) (c1 : Nat) (lw : List Int) (w : World) (hr3 : Kd.C k28 w A3 t.f3.length t.f3) (hc3 : t.f3.length ≤ c3) (hr1 : Kd.C (Kd.int .i64) w A1 lw.length lw) (hc1 : lw.length ≤ c1) :
    RInv (hasW w t A3 c3 A1 c1 lw.length) (fun k => k ≠ w.heap.size + 1) (w.heap.size + 1 + 1) (w.heap.size + 1) A1 c1 lw ∧ Node (hasW w t A3 c3 A1 c1 lw.length) (fun k => k ≠ w.heap.size + 1) ⟨w.heap.size, 0, none⟩ t := by
  obtain ⟨h0, h1, h2, h3⟩ := has_heap w t A3 c3 A1 c1 lw.length
  refine ⟨⟨h2, by omega, fun h => h rfl, hc1, ?_, #[], 0, h1, fun e he => by simp at he⟩, by show w.heap.size ≠ w.heap.size + 1; omega, rfl, ⟨_, _, h0⟩, [.int .i64 t.f0, .int .i64 t.f1, .int .i64 t.f2, .slice A3 t.f3.length c3], rfl, ?_, ?_⟩
  · exact Kd.F_mono (Kd.F_alloc (Kd.F_alloc (Kd.F_alloc (Kd.C_F (Kd.heap_int .i64) hr1) _) _) _) (fun k hk => by omega)
  · intro i u hu
    rw [add_at, Nat.zero_add]
    rw [blk_cell h0 i]
    simpa using hu
  · exact k28_mkF _ _ t hc3 (Kd.F_mono (Kd.F_alloc (Kd.F_alloc (Kd.F_alloc (Kd.C_F k28_heap hr3) _) _) _) (fun k hk => by omega))
theorem has_below {t : S28} {A3 : Option Addr} {c3 : Nat} {A1 : Option Addr} {c1 n : Nat} {w W' : World} (hk : Kept (hasW w t A3 c3 A1 c1 n) W' (fun j => j = w.heap.size + 1)) (hs : Same (hasW w t A3 c3 A1 c1 n) W') : Below w.heap.size w W' := by
  obtain ⟨_, _, _, h3⟩ := has_heap w t A3 c3 A1 c1 n
  refine ⟨hs.1, hs.2.1, hs.2.2, by have := hk.1; omega, fun k hlt => (hk.2 k (by omega) (by omega)).trans ?_⟩
  have hb : Below w.heap.size w (hasW w t A3 c3 A1 c1 n) := below_alloc (below_alloc (below_alloc (Below.refl _ _) _) _) _
  exact hb.block k hlt
set_option maxHeartbeats 8000000 in
set_option maxRecDepth 100000 in
theorem has_calls (k : Nat) (t : S28) (A3 : Option Addr) (c3 : Nat) (A1 : Option Addr) (c1 : Nat) (lw : List Int) (r : Bool) (w : World) (hr3 : Kd.C k28 w A3 t.f3.length t.f3) (hc3 : t.f3.length ≤ c3) (hr1 : Kd.C (Kd.int .i64) w A1 lw.length lw) (hc1 : lw.length ≤ c1) (h : hasF k t lw = some r) :
    Calls Try.prog 27 #[.agg #[.int .i64 t.f0, .int .i64 t.f1, .int .i64 t.f2, .slice A3 t.f3.length c3], .slice A1 lw.length c1] w fun e w' => e = .returned (.bool r) ∧ Below w.heap.size w w' := by
  obtain ⟨m, hm, h⟩ := bind_some h
  by_cases hl : lw.length < m.length
  · rw [if_pos hl] at h
    obtain rfl := Option.some.inj h
    have hj1 := tr_lt hl
    have hj0 := tr_ge lw.length
    have HM := Aside0.mk hm
    have HR3 := Aside0.mk hr3
    have HR1 := Aside0.mk hr1
    clear hm h hr3 hr1
    have hmm := @run_makeMap Try.prog
    go_enter Try.func27, Try.ntmps27
    go_upto_region 2 with (fail)
    go_wp2_with (fail)
    obtain ⟨HI, HN⟩ := has_ready t A3 c3 A1 c1 lw w HR3.out hc3 HR1.out hc1
    refine (end_calls k t 0 m _ _ _ A1 c1 lw _ _ HM.out HI HN (fun j hj => by have := (has_heap w t A3 c3 A1 c1 lw.length).2.2.2; omega)).mono ?_
    rintro e W' ⟨A, c, rfl, h1, h2, h3, h4, h5⟩
    have hB := Aside0.mk (has_below h4 h5)
    clear h4 h5 h3 HI HN
    obtain ⟨ad, ea, hx⟩ := Kd.at_bool (Kd.F_now h2) (lw.length : Int) (Int.natCast_nonneg _) (Int.ofNat_lt.2 hl)
    rw [Int.toNat_natCast] at hx
    subst ea
    dsimp only
    go_wp2
    go_ret
    exact ⟨rfl, hB.out⟩
  · rw [if_neg hl] at h
    cases h
end Go.Proofs.Ytodbnnfiadcbaaa.P
namespace Go.Proofs.Ytodbnnfiadcbaaa.P
open Go.RowKit Go.Proofs.YtodbnnfiadcbaaaW.PrintWords Go.Proofs.YtodbnnfiadcbaaaW.PrintLast Go.Proofs.YtodbnnfiadcbaaaW.PrintMore
attribute [local go_sem] max2_int min2_int max_two min_two max_three min_three max_four min_four   -- for this text's walks alone
set_option linter.unusedVariables false
set_option linter.unusedSimpArgs false

/-! ### expr_Has: function 27 -/
-- IMPORTS: Derived.Test.YtodbnnfiadcbaaaExprEnd4
def expr_Has.f (k : Nat) (a0_0 : Int) (a0_1 : Int) (a0_2 : Int) (l0_3 : List (S28)) (l1 : List Int) : Option (Bool) := hasF k ⟨a0_0, a0_1, a0_2, l0_3⟩ l1
theorem expr_Has.mono : ∀ a0 a1 a2 a3 a4 k, LeO (expr_Has.f k a0 a1 a2 a3 a4) (expr_Has.f (k + 1) a0 a1 a2 a3 a4) := fun _ _ _ _ _ k => hasF_le k _ _
theorem expr_Has.calls (k : Nat) (a0_0 : Int) (a0_1 : Int) (a0_2 : Int) (A0_3 : Option Addr) (c0_3 : Nat) (l0_3 : List (S28)) (A1 : Option Addr) (c1 : Nat) (l1 : List Int) (r : Bool) (w : World) (hr0_3 : Kd.C k28 w A0_3 l0_3.length l0_3) (hc0_3 : l0_3.length ≤ c0_3) (hr1 : Kd.C (Kd.int .i64) w A1 l1.length l1) (hc1 : l1.length ≤ c1) (h : expr_Has.f k a0_0 a0_1 a0_2 l0_3 l1 = some r) :
    Calls Try.prog 27 #[.agg #[.int .i64 a0_0, .int .i64 a0_1, .int .i64 a0_2, .slice A0_3 l0_3.length c0_3], .slice A1 l1.length c1] w fun e w' => e = .returned (.bool r) ∧ Below w.heap.size w w' :=
  has_calls k ⟨a0_0, a0_1, a0_2, l0_3⟩ A0_3 c0_3 A1 c1 l1 r w hr0_3 hc0_3 hr1 hc1 h

end Go.Proofs.Ytodbnnfiadcbaaa.P
namespace Go.Proofs.Ytodbnnfiadcbaaa.P
open Go.RowKit Go.Proofs.YtodbnnfiadcbaaaW.PrintWords Go.Proofs.YtodbnnfiadcbaaaW.PrintLast Go.Proofs.YtodbnnfiadcbaaaW.PrintMore
attribute [local go_sem] max2_int min2_int max_two min_two max_three min_three max_four min_four   -- for this text's walks alone
set_option linter.unusedVariables false
set_option linter.unusedSimpArgs false

theorem R_lit_g {α : Type} {P : Program} {ops : Array Oper} {rest : List Oper} {o : Oper} {a : Act} {Q : Exit → Act → World → Prop} (d : Kd α) {w0 W : World} (base e : Nat) (hgd : Region.wanted o (yielded ops a.tmps) = true) {N : Tmp} (hd : o.dst = some N) {xs : List α} {inner : List Value} {ok okp : Nat → Prop}
    (hrun : (execOp a.eval o).run P W = .ok (.value (.slice (some ⟨W.heap.size, 0, none⟩) xs.length xs.length)) (W.alloc (.cells inner.toArray e)))
    (hrep : Reps (d.M W base okp) d.sz xs inner) (hok : ∀ k, okp k → ok k) (hfresh : ok W.heap.size) (HB : Below base w0 W) (hbase : base ≤ W.heap.size) (hm : xs.length ≤ 9223372036854775807)
    (h : ∀ v1 w1, d.R e w1 base ok v1 xs → Below base w0 w1 → W.grownBy w1 none → (∃ b, v1.ownBlock = some b ∧ W.heap.size ≤ b) → wpList P ops Q rest (a.put o.dst v1) w1) : wpList P ops Q (o :: rest) a W :=
  wpList_step fun _ hK => Kd.R_lit_step d base e hgd hd hrun hrep hok hfresh HB hbase hm fun v1 w1 h1 h2 h3 h4 => hK _ _ (h v1 w1 h1 h2 h3 h4)
/-! ### canopylaw5_known: function 13 -/
def canopylaw5_known.f (k : Nat)  : Option (Bool) := (canopylaw1_Syms.f 0 ([] : List Int)).bind fun t708 => ((expr_Parse.f k t708 (⟨#[60, 97, 91, 98, 42, 93, 97, 62, 124, 49]⟩ : ByteArray)).bind fun bt711 => ((expr_Text.f k t708 1 0 0 ([] : List (S28))).bind fun t720 => (if t720.toList = ([48] : List UInt8) then (if bt711.2.2.2.2.2 = 0 then (if bt711.1 = 6 then ((expr_Text.f k t708 bt711.1 bt711.2.1 bt711.2.2.1 bt711.2.2.2.1).bind fun t721 => (if t721.toList = ([60, 97, 91, 32, 98, 42, 32, 93, 97, 62, 32, 124, 32, 49] : List UInt8) then ((expr_Check.f k t708 bt711.1 bt711.2.1 bt711.2.2.1 bt711.2.2.2.1).bind fun t722 => (if t722 = 0 then ((expr_Has.f k bt711.1 bt711.2.1 bt711.2.2.1 bt711.2.2.2.1 (([0, 2, 2, 1] : List Int))).bind fun t726 => (if t726 = true then ((expr_Has.f k bt711.1 bt711.2.1 bt711.2.2.1 bt711.2.2.2.1 ([] : List Int)).bind fun t727 => (if t727 = true then ((expr_Has.f k bt711.1 bt711.2.1 bt711.2.2.1 bt711.2.2.2.1 (([2] : List Int))).bind fun t731 => (some (!t731))) else (some false))) else (some false))) else (some false))) else (some false))) else (some false)) else (some false)) else (some false))))
theorem canopylaw5_known.mono : ∀ k, LeO (canopylaw5_known.f k ) (canopylaw5_known.f (k + 1) ) := by
  intro  k
  unfold canopylaw5_known.f
  repeat' first
      | (with_reducible exact expr_Check.mono _ _ _ _ _ _)
      | (with_reducible exact expr_Has.mono _ _ _ _ _ _)
      | (with_reducible exact expr_Parse.mono _ _ _)
      | (with_reducible exact expr_Text.mono _ _ _ _ _ _)
      | (with_reducible exact LeO.refl _)
      | (with_reducible refine LeO.ite ?_ ?_)
      | (with_reducible refine LeO.bind ?_ (fun _ => ?_))
set_option maxHeartbeats 8000000 in
set_option maxRecDepth 100000 in
theorem canopylaw5_known.calls (k : Nat)  (r : Bool) (w : World) (h : canopylaw5_known.f k  = some r) :
    Calls Try.prog 13 #[] w fun e w' => e = .returned (.bool r) ∧ Below w.heap.size w w' := by
  have hu28 := Try.underlying28
  have HB := Aside0.mk (Below.refl w.heap.size w)
  have H : ((canopylaw1_Syms.f 0 ([] : List Int)).bind fun t708 => ((expr_Parse.f k t708 (⟨#[60, 97, 91, 98, 42, 93, 97, 62, 124, 49]⟩ : ByteArray)).bind fun bt711 => ((expr_Text.f k t708 1 0 0 ([] : List (S28))).bind fun t720 => (if t720.toList = ([48] : List UInt8) then (if bt711.2.2.2.2.2 = 0 then (if bt711.1 = 6 then ((expr_Text.f k t708 bt711.1 bt711.2.1 bt711.2.2.1 bt711.2.2.2.1).bind fun t721 => (if t721.toList = ([60, 97, 91, 32, 98, 42, 32, 93, 97, 62, 32, 124, 32, 49] : List UInt8) then ((expr_Check.f k t708 bt711.1 bt711.2.1 bt711.2.2.1 bt711.2.2.2.1).bind fun t722 => (if t722 = 0 then ((expr_Has.f k bt711.1 bt711.2.1 bt711.2.2.1 bt711.2.2.2.1 (([0, 2, 2, 1] : List Int))).bind fun t726 => (if t726 = true then ((expr_Has.f k bt711.1 bt711.2.1 bt711.2.2.1 bt711.2.2.2.1 ([] : List Int)).bind fun t727 => (if t727 = true then ((expr_Has.f k bt711.1 bt711.2.1 bt711.2.2.1 bt711.2.2.2.1 (([2] : List Int))).bind fun t731 => (some (!t731))) else (some false))) else (some false))) else (some false))) else (some false))) else (some false)) else (some false)) else (some false))))) = some r := h
  clear h
  replace H := Option.bind_eq_some_iff.mp H
  obtain ⟨t708, A10, H⟩ := H
  try dsimp only at H
  have A1 := Aside0.mk A10
  clear A10
  replace H := Option.bind_eq_some_iff.mp H
  obtain ⟨⟨t711, t712, t713, t714, t717, t718⟩, A20, H⟩ := H
  try dsimp only at H
  have A2 := Aside0.mk A20
  clear A20
  replace H := Option.bind_eq_some_iff.mp H
  obtain ⟨t720, A30, H⟩ := H
  try dsimp only at H
  have A3 := Aside0.mk A30
  clear A30
  by_cases c4 : t720.toList = ([48] : List UInt8)
  · rw [if_pos c4] at H
    have c4b0 : (t720.toList == ([48] : List UInt8)) = true := beq_iff_eq.mpr c4
    have c4b1 : (t720.toList != ([48] : List UInt8)) = false := bne_eq_false_iff_eq.mpr c4
    clear c4
    by_cases c5 : t718 = 0
    · rw [if_pos c5] at H
      have c5b0 : (t718 == 0) = true := beq_iff_eq.mpr c5
      have c5b1 : (t718 != 0) = false := bne_eq_false_iff_eq.mpr c5
      clear c5
      by_cases c6 : t711 = 6
      · rw [if_pos c6] at H
        have c6b0 : (t711 == 6) = true := beq_iff_eq.mpr c6
        have c6b1 : (t711 != 6) = false := bne_eq_false_iff_eq.mpr c6
        clear c6
        replace H := Option.bind_eq_some_iff.mp H
        obtain ⟨t721, A70, H⟩ := H
        try dsimp only at H
        have A7 := Aside0.mk A70
        clear A70
        by_cases c8 : t721.toList = ([60, 97, 91, 32, 98, 42, 32, 93, 97, 62, 32, 124, 32, 49] : List UInt8)
        · rw [if_pos c8] at H
          have c8b0 : (t721.toList == ([60, 97, 91, 32, 98, 42, 32, 93, 97, 62, 32, 124, 32, 49] : List UInt8)) = true := beq_iff_eq.mpr c8
          have c8b1 : (t721.toList != ([60, 97, 91, 32, 98, 42, 32, 93, 97, 62, 32, 124, 32, 49] : List UInt8)) = false := bne_eq_false_iff_eq.mpr c8
          clear c8
          replace H := Option.bind_eq_some_iff.mp H
          obtain ⟨t722, A90, H⟩ := H
          try dsimp only at H
          have A9 := Aside0.mk A90
          clear A90
          by_cases c10 : t722 = 0
          · rw [if_pos c10] at H
            have c10b0 : (t722 == 0) = true := beq_iff_eq.mpr c10
            have c10b1 : (t722 != 0) = false := bne_eq_false_iff_eq.mpr c10
            clear c10
            obtain ⟨y723, hy723⟩ : ∃ y_ : List Int, y_ = (([0, 2, 2, 1] : List Int)) := ⟨_, rfl⟩
            replace H : ((expr_Has.f k t711 t712 t713 t714 y723).bind fun t726 => (if t726 = true then ((expr_Has.f k t711 t712 t713 t714 ([] : List Int)).bind fun t727 => (if t727 = true then ((expr_Has.f k t711 t712 t713 t714 (([2] : List Int))).bind fun t731 => (some (!t731))) else (some false))) else (some false))) = some r := by (rw [hy723]; with_reducible exact H)
            have Ny723 := Aside0.mk hy723
            clear hy723
            replace H := Option.bind_eq_some_iff.mp H
            obtain ⟨t726, A110, H⟩ := H
            try dsimp only at H
            have A11 := Aside0.mk A110
            clear A110
            by_cases c12 : t726 = true
            · subst c12
              rw [if_pos rfl] at H
              replace H := Option.bind_eq_some_iff.mp H
              obtain ⟨t727, A130, H⟩ := H
              try dsimp only at H
              have A13 := Aside0.mk A130
              clear A130
              by_cases c14 : t727 = true
              · subst c14
                rw [if_pos rfl] at H
                obtain ⟨y728, hy728⟩ : ∃ y_ : List Int, y_ = (([2] : List Int)) := ⟨_, rfl⟩
                replace H : ((expr_Has.f k t711 t712 t713 t714 y728).bind fun t731 => (some (!t731))) = some r := by (rw [hy728]; with_reducible exact H)
                have Ny728 := Aside0.mk hy728
                clear hy728
                replace H := Option.bind_eq_some_iff.mp H
                obtain ⟨t731, A150, H⟩ := H
                try dsimp only at H
                have A15 := Aside0.mk A150
                clear A150
                obtain rfl := Option.some.inj H
                go_enter Try.func13, Try.ntmps13
                go_wp2_with (first | ((with_reducible refine gate_callee (f := 14) rfl ?_); refine goesL_ (some 5) rfl rfl Try.func14 (by kernel_rfl) rfl #[.int .i64 0, .slice none 0 0] rfl (by (simp only [List.map_toArray, List.map_cons, List.map_nil]); rfl) ?_; (refine (canopylaw1_Syms.calls 0 _ _ ([] : List Int) t708 _ ?side1 ?side2 A1.out).mono ?_); (case side1 => exact Kd.C_nil _ _); (case side2 => exact Nat.le_refl _); rintro e w16 ⟨v709, rfl, ho0, hb⟩; refine ⟨_, rfl, ?_⟩; have n0_ := Aside0.mk (Kd.R_lower ho0 (below_size HB.out)); have n1_ := Aside0.mk (below_step HB.out hb); clear HB; have HO710 := n0_; have HB := n1_; clear n0_ n1_ hb ho0; obtain ⟨Ao17, co17, eo17⟩ := Kd.R_slice HO710.out; subst eo17) | ((with_reducible refine gate_callee (f := 19) rfl ?_); refine goesL_ (some 8) rfl rfl Try.func19 (by kernel_rfl) rfl #[.slice Ao17 t708.length co17, .string (⟨#[60, 97, 91, 98, 42, 93, 97, 62, 124, 49]⟩ : ByteArray)] rfl (by (simp only [List.map_toArray, List.map_cons, List.map_nil]); rfl) ?_; (with_reducible refine (expr_Parse.calls k _ _ t708 (⟨#[60, 97, 91, 98, 42, 93, 97, 62, 124, 49]⟩ : ByteArray) t711 t712 t713 t714 t717 t718 _ ?side1 ?side2 A2.out).mono ?_); (case side1 => repeat (exact (Kd.R_reads' HO710.out).2.2)); (case side2 => exact (Kd.R_reads' HO710.out).2.1); rintro e w18 ⟨v715, rfl, ho0, hb⟩; refine ⟨_, rfl, ?_⟩; have n0_ := Aside0.mk (Kd.R_below HO710.out hb); have n1_ := Aside0.mk (Kd.V_lower (Kd.V_mono (ok' := fun k_ => some k_ ≠ (.slice Ao17 t708.length co17 : Value).ownBlock) ho0 (fun k_ hk_ => (Kd.fresh' (Kd.R_lt HO710.out) k_ hk_))) (below_size HB.out)); have n2_ := Aside0.mk (below_step HB.out hb); clear HO710 HB; have HO710 := n0_; have HO716 := n1_; have HB := n2_; clear n0_ n1_ n2_ hb ho0) | ((with_reducible refine gate_dst (N := 2) rfl ?_); refine box_event ?hg (N := 2) ?hd (cs := #[.int .i64 0, .int .i64 0, .int .i64 0, .slice none 0 0]) (t := 28) ?hr ?_; (case hd => rfl); (case hg => rfl); (case hr => (go_simp; done)); intro gb719 hg w19 hbox hb; have n0_ := Aside0.mk (Kd.R_below HO710.out hb); have n1_ := Aside0.mk (Kd.V_below (Kd.V_elderB HO716.out gb719 (Nat.le_of_eq hg.symm)) hb); have n2_ := Aside0.mk (below_step HB.out hb); have n3_ := Aside0.mk (hbox); have n4_ := Aside0.mk ((by rw [hg]; exact (below_size HB.out) : w.heap.size ≤ gb719)); have n5_ := Aside0.mk ((by rw [hg]; exact (below_size HB.out) : w.heap.size ≤ gb719)); clear HO710 HO716 HB; have HO710 := n0_; have HO716 := n1_; have HB := n2_; have BK719 := n3_; have GW719 := n4_; have GE719 := n5_; clear n0_ n1_ n2_ n3_ n4_ n5_ hb hbox hg; obtain ⟨hcz20_0, hcz20_1, hcz20_2, hcz20_3, hfz20_0, hfz20_1, hfz20_2, hfz20_3⟩ := Go.Proofs.YtodbnnfiadcbaaaH.cells4 BK719.out; obtain ⟨Ao21, co21, eo21⟩ := Kd.V_slice HO716.out; subst eo21) | ((with_reducible refine gate_callee (f := 18) rfl ?_); refine goesL_ (some 14) rfl rfl Try.func18 (by kernel_rfl) rfl #[.slice Ao17 t708.length co17, .agg #[.int .i64 1, .int .i64 0, .int .i64 0, .slice none 0 0]] rfl (by (simp only [List.map_toArray, List.map_cons, List.map_nil]); rfl) ?_; (refine (expr_Text.calls k _ _ t708 1 0 0 _ _ ([] : List (S28)) t720 _ ?side1 ?side2 ?side3 ?side4 A3.out).mono ?_); (case side1 => refine (Kd.R_reads' (e := 56) (base := w.heap.size) (ok := fun k_ => True) (n := t708.length) (c := co17) ?_).2.2; exact (by exact (Kd.R_mono (Kd.R_far (p := ⟨gb719, 3, none⟩) (Kd.R_far (p := ⟨gb719, 2, none⟩) (Kd.R_far (p := ⟨gb719, 1, none⟩) (Kd.R_far (p := ⟨gb719, 0, none⟩) (Kd.R_types HO710.out BK719.out (by decide)) (fun _ hk => hk.2) (.int .i64 t711)) (fun _ hk => hk.2) (.int .i64 t712)) (fun _ hk => hk.2) (.int .i64 t713)) (fun _ hk => hk.2) (.slice Ao21 t714.length co21)) (fun _ h_ => h_.1)))); (case side2 => exact (Kd.R_reads' HO710.out).2.1); (case side3 => exact Kd.C_nil _ _); (case side4 => exact Nat.le_refl _); rintro e w22 ⟨rfl, hb⟩; refine ⟨_, rfl, ?_⟩; have n0_ := Aside0.mk (Kd.R_below (by exact (Kd.R_mono (Kd.R_far (p := ⟨gb719, 3, none⟩) (Kd.R_far (p := ⟨gb719, 2, none⟩) (Kd.R_far (p := ⟨gb719, 1, none⟩) (Kd.R_far (p := ⟨gb719, 0, none⟩) (Kd.R_types HO710.out BK719.out (by decide)) (fun _ hk => hk.2) (.int .i64 t711)) (fun _ hk => hk.2) (.int .i64 t712)) (fun _ hk => hk.2) (.int .i64 t713)) (fun _ hk => hk.2) (.slice Ao21 t714.length co21)) (fun _ h_ => h_.1))) hb); have n1_ := Aside0.mk (Kd.V_below (by exact (Kd.V_mono (Kd.V_far (p := ⟨gb719, 3, none⟩) (Kd.V_far (p := ⟨gb719, 2, none⟩) (Kd.V_far (p := ⟨gb719, 1, none⟩) (Kd.V_far (p := ⟨gb719, 0, none⟩) (Kd.V_mono HO716.out (fun k_ hk => (⟨hk, hk.2⟩ : _ ∧ k_ ≠ gb719))) (fun _ hk => hk.2) (.int .i64 t711)) (fun _ hk => hk.2) (.int .i64 t712)) (fun _ hk => hk.2) (.int .i64 t713)) (fun _ hk => hk.2) (.slice Ao21 t714.length co21)) (fun _ h_ => h_.1))) hb); have n2_ := Aside0.mk (blk_below (g := gb719) (o := .cells #[.int .i64 t711, .int .i64 t712, .int .i64 t713, .slice Ao21 t714.length co21] 28 (0, 0)) (by refine blk_put (cs := #[.int .i64 t711, .int .i64 t712, .int .i64 t713, .slice none 0 0]) ?_ 3 _ rfl; refine blk_put (cs := #[.int .i64 t711, .int .i64 t712, .int .i64 0, .slice none 0 0]) ?_ 2 _ rfl; refine blk_put (cs := #[.int .i64 t711, .int .i64 0, .int .i64 0, .slice none 0 0]) ?_ 1 _ rfl; refine blk_put (cs := #[.int .i64 0, .int .i64 0, .int .i64 0, .slice none 0 0]) ?_ 0 _ rfl; exact BK719.out) hb); have n3_ := Aside0.mk (below_step (by repeat ((with_reducible first | exact HB.out | refine below_set ?_ GE719.out))) hb); clear HO710 HO716 BK719 HB; have HO710 := n0_; have HO716 := n1_; have BK719 := n2_; have HB := n3_; clear n0_ n1_ n2_ n3_ hb; obtain ⟨hcz23_0, hcz23_1, hcz23_2, hcz23_3, hfz23_0, hfz23_1, hfz23_2, hfz23_3⟩ := Go.Proofs.YtodbnnfiadcbaaaH.cells4 BK719.out) | (go_at_call 18; (with_reducible refine (expr_Text.calls k _ _ t708 t711 t712 t713 _ _ t714 t721 _ ?side1 ?side2 ?side3 ?side4 A7.out).mono ?_); (case side1 => repeat (exact (Kd.R_reads' HO710.out).2.2)); (case side2 => exact (Kd.R_reads' HO710.out).2.1); (case side3 => repeat (exact (Kd.V_reads' HO716.out).2.2)); (case side4 => exact (Kd.V_reads' HO716.out).2.1); rintro e w24 ⟨rfl, hb⟩; have n0_ := Aside0.mk (Kd.R_below HO710.out hb); have n1_ := Aside0.mk (Kd.V_below HO716.out hb); have n2_ := Aside0.mk (blk_below BK719.out hb); have n3_ := Aside0.mk (below_step HB.out hb); clear HO710 HO716 BK719 HB; have HO710 := n0_; have HO716 := n1_; have BK719 := n2_; have HB := n3_; clear n0_ n1_ n2_ n3_ hb; obtain ⟨hcz25_0, hcz25_1, hcz25_2, hcz25_3, hfz25_0, hfz25_1, hfz25_2, hfz25_3⟩ := Go.Proofs.YtodbnnfiadcbaaaH.cells4 BK719.out) | (go_at_call 17; (with_reducible refine (expr_Check.calls k _ _ t708 t711 t712 t713 _ _ t714 t722 _ ?side1 ?side2 ?side3 ?side4 A9.out).mono ?_); (case side1 => repeat (exact (Kd.R_reads' HO710.out).2.2)); (case side2 => exact (Kd.R_reads' HO710.out).2.1); (case side3 => repeat (exact (Kd.V_reads' HO716.out).2.2)); (case side4 => exact (Kd.V_reads' HO716.out).2.1); rintro e w26 ⟨rfl, hb⟩; have n0_ := Aside0.mk (Kd.R_below HO710.out hb); have n1_ := Aside0.mk (Kd.V_below HO716.out hb); have n2_ := Aside0.mk (blk_below BK719.out hb); have n3_ := Aside0.mk (below_step HB.out hb); clear HO710 HO716 BK719 HB; have HO710 := n0_; have HO716 := n1_; have BK719 := n2_; have HB := n3_; clear n0_ n1_ n2_ n3_ hb; obtain ⟨hcz27_0, hcz27_1, hcz27_2, hcz27_3, hfz27_0, hfz27_1, hfz27_2, hfz27_3⟩ := Go.Proofs.YtodbnnfiadcbaaaH.cells4 BK719.out) | ((with_reducible refine gate_dst (N := 39) rfl ?_); refine R_lit_g (Kd.int .i64) _ 3 ?hg (N := 39) ?hd (xs := ([0, 2, 2, 1] : List Int)) (inner := [.int .i64 0, .int .i64 2, .int .i64 2, .int .i64 1]) (ok := fun _ => True) (okp := fun _ => True) ?hr ?hp (fun _ hk => hk) trivial (Below.refl _ _) (Nat.le_refl _) (by simp) ?_; (case hd => rfl); (case hg => rfl); (case hr => (go_simp; done)); (case hp => exact (Reps.one (show Kd.M (Kd.int .i64) _ _ _ 0 [.int .i64 0] from rfl) (Reps.one (show Kd.M (Kd.int .i64) _ _ _ 2 [.int .i64 2] from rfl) (Reps.one (show Kd.M (Kd.int .i64) _ _ _ 2 [.int .i64 2] from rfl) (Reps.one (show Kd.M (Kd.int .i64) _ _ _ 1 [.int .i64 1] from rfl) (Reps.none _ _)))))); intro v724 w28 ho29 hb hg_ hnew_; clear hg_ hnew_; (rw [← Ny723.out] at ho29); have n0_ := Aside0.mk (Kd.R_below HO710.out hb); have n1_ := Aside0.mk (Kd.V_elder' HO716.out (Kd.R_base ho29) hb); have n2_ := Aside0.mk (Kd.R_lower ho29 (below_size HB.out)); have n3_ := Aside0.mk (blk_below BK719.out hb); have n4_ := Aside0.mk (below_step HB.out hb); clear HO710 HO716 BK719 HB; have HO710 := n0_; have HO716 := n1_; have HO725 := n2_; have BK719 := n3_; have HB := n4_; clear n0_ n1_ n2_ n3_ n4_ hb ho29; obtain ⟨Ao30, co30, eo30⟩ := Kd.R_slice HO725.out; subst eo30) | (go_at_call 27; (with_reducible refine (expr_Has.calls k t711 t712 t713 _ _ t714 _ _ y723 true _ ?side1 ?side2 ?side3 ?side4 A11.out).mono ?_); (case side1 => repeat (exact (Kd.V_reads' HO716.out).2.2)); (case side2 => exact (Kd.V_reads' HO716.out).2.1); (case side3 => repeat (exact (Kd.R_reads' HO725.out).2.2)); (case side4 => exact (Kd.R_reads' HO725.out).2.1); rintro e w31 ⟨rfl, hb⟩; have n0_ := Aside0.mk (Kd.R_below HO710.out hb); have n1_ := Aside0.mk (Kd.V_below HO716.out hb); have n2_ := Aside0.mk (Kd.R_below HO725.out hb); have n3_ := Aside0.mk (blk_below BK719.out hb); have n4_ := Aside0.mk (below_step HB.out hb); clear HO710 HO716 HO725 BK719 HB; have HO710 := n0_; have HO716 := n1_; have HO725 := n2_; have BK719 := n3_; have HB := n4_; clear n0_ n1_ n2_ n3_ n4_ hb; obtain ⟨hcz32_0, hcz32_1, hcz32_2, hcz32_3, hfz32_0, hfz32_1, hfz32_2, hfz32_3⟩ := Go.Proofs.YtodbnnfiadcbaaaH.cells4 BK719.out) | (go_at_call 27; (with_reducible change Calls _ 27 #[_, .slice none 0 0] _ _); (refine (expr_Has.calls k t711 t712 t713 _ _ t714 _ _ ([] : List Int) true _ ?side1 ?side2 ?side3 ?side4 A13.out).mono ?_); (case side1 => repeat (exact (Kd.V_reads' HO716.out).2.2)); (case side2 => exact (Kd.V_reads' HO716.out).2.1); (case side3 => exact Kd.C_nil _ _); (case side4 => exact Nat.le_refl _); rintro e w33 ⟨rfl, hb⟩; have n0_ := Aside0.mk (Kd.R_below HO710.out hb); have n1_ := Aside0.mk (Kd.V_below HO716.out hb); have n2_ := Aside0.mk (Kd.R_below HO725.out hb); have n3_ := Aside0.mk (blk_below BK719.out hb); have n4_ := Aside0.mk (below_step HB.out hb); clear HO710 HO716 HO725 BK719 HB; have HO710 := n0_; have HO716 := n1_; have HO725 := n2_; have BK719 := n3_; have HB := n4_; clear n0_ n1_ n2_ n3_ n4_ hb; obtain ⟨hcz34_0, hcz34_1, hcz34_2, hcz34_3, hfz34_0, hfz34_1, hfz34_2, hfz34_3⟩ := Go.Proofs.YtodbnnfiadcbaaaH.cells4 BK719.out) | ((with_reducible refine gate_dst (N := 48) rfl ?_); refine R_lit_g (Kd.int .i64) _ 3 ?hg (N := 48) ?hd (xs := ([2] : List Int)) (inner := [.int .i64 2]) (ok := fun _ => True) (okp := fun _ => True) ?hr ?hp (fun _ hk => hk) trivial (Below.refl _ _) (Nat.le_refl _) (by simp) ?_; (case hd => rfl); (case hg => rfl); (case hr => (go_simp; done)); (case hp => exact (Reps.one (show Kd.M (Kd.int .i64) _ _ _ 2 [.int .i64 2] from rfl) (Reps.none _ _))); intro v729 w35 ho36 hb hg_ hnew_; clear hg_ hnew_; (rw [← Ny728.out] at ho36); have n0_ := Aside0.mk (Kd.R_below HO710.out hb); have n1_ := Aside0.mk (Kd.V_elder' HO716.out (Kd.R_base ho36) hb); have n2_ := Aside0.mk (Kd.R_elder' HO725.out (Kd.R_base ho36) hb); have n3_ := Aside0.mk (Kd.R_lower (Kd.R_new' ho36 (Kd.R_lt HO725.out)) (below_size HB.out)); have n4_ := Aside0.mk (blk_below BK719.out hb); have n5_ := Aside0.mk (below_step HB.out hb); clear HO710 HO716 HO725 BK719 HB; have HO710 := n0_; have HO716 := n1_; have HO725 := n2_; have HO730 := n3_; have BK719 := n4_; have HB := n5_; clear n0_ n1_ n2_ n3_ n4_ n5_ hb ho36; obtain ⟨Ao37, co37, eo37⟩ := Kd.R_slice HO730.out; subst eo37) | (go_at_call 27; (with_reducible refine (expr_Has.calls k t711 t712 t713 _ _ t714 _ _ y728 t731 _ ?side1 ?side2 ?side3 ?side4 A15.out).mono ?_); (case side1 => repeat (exact (Kd.V_reads' HO716.out).2.2)); (case side2 => exact (Kd.V_reads' HO716.out).2.1); (case side3 => repeat (exact (Kd.R_reads' HO730.out).2.2)); (case side4 => exact (Kd.R_reads' HO730.out).2.1); rintro e w38 ⟨rfl, hb⟩; have n0_ := Aside0.mk (Kd.R_below HO710.out hb); have n1_ := Aside0.mk (Kd.V_below HO716.out hb); have n2_ := Aside0.mk (Kd.R_below HO725.out hb); have n3_ := Aside0.mk (Kd.R_below HO730.out hb); have n4_ := Aside0.mk (blk_below BK719.out hb); have n5_ := Aside0.mk (below_step HB.out hb); clear HO710 HO716 HO725 HO730 BK719 HB; have HO710 := n0_; have HO716 := n1_; have HO725 := n2_; have HO730 := n3_; have BK719 := n4_; have HB := n5_; clear n0_ n1_ n2_ n3_ n4_ n5_ hb))
                go_ret
                exact ⟨by rfl, by with_reducible exact HB.out⟩
              · replace c14 := Bool.eq_false_iff.mpr c14
                subst c14
                rw [if_neg (show ¬ (false = true) by decide)] at H
                obtain rfl := Option.some.inj H
                go_enter Try.func13, Try.ntmps13
                go_wp2_with (first | ((with_reducible refine gate_callee (f := 14) rfl ?_); refine goesL_ (some 5) rfl rfl Try.func14 (by kernel_rfl) rfl #[.int .i64 0, .slice none 0 0] rfl (by (simp only [List.map_toArray, List.map_cons, List.map_nil]); rfl) ?_; (refine (canopylaw1_Syms.calls 0 _ _ ([] : List Int) t708 _ ?side1 ?side2 A1.out).mono ?_); (case side1 => exact Kd.C_nil _ _); (case side2 => exact Nat.le_refl _); rintro e w39 ⟨v709, rfl, ho0, hb⟩; refine ⟨_, rfl, ?_⟩; have n0_ := Aside0.mk (Kd.R_lower ho0 (below_size HB.out)); have n1_ := Aside0.mk (below_step HB.out hb); clear HB; have HO710 := n0_; have HB := n1_; clear n0_ n1_ hb ho0; obtain ⟨Ao40, co40, eo40⟩ := Kd.R_slice HO710.out; subst eo40) | ((with_reducible refine gate_callee (f := 19) rfl ?_); refine goesL_ (some 8) rfl rfl Try.func19 (by kernel_rfl) rfl #[.slice Ao40 t708.length co40, .string (⟨#[60, 97, 91, 98, 42, 93, 97, 62, 124, 49]⟩ : ByteArray)] rfl (by (simp only [List.map_toArray, List.map_cons, List.map_nil]); rfl) ?_; (with_reducible refine (expr_Parse.calls k _ _ t708 (⟨#[60, 97, 91, 98, 42, 93, 97, 62, 124, 49]⟩ : ByteArray) t711 t712 t713 t714 t717 t718 _ ?side1 ?side2 A2.out).mono ?_); (case side1 => repeat (exact (Kd.R_reads' HO710.out).2.2)); (case side2 => exact (Kd.R_reads' HO710.out).2.1); rintro e w41 ⟨v715, rfl, ho0, hb⟩; refine ⟨_, rfl, ?_⟩; have n0_ := Aside0.mk (Kd.R_below HO710.out hb); have n1_ := Aside0.mk (Kd.V_lower (Kd.V_mono (ok' := fun k_ => some k_ ≠ (.slice Ao40 t708.length co40 : Value).ownBlock) ho0 (fun k_ hk_ => (Kd.fresh' (Kd.R_lt HO710.out) k_ hk_))) (below_size HB.out)); have n2_ := Aside0.mk (below_step HB.out hb); clear HO710 HB; have HO710 := n0_; have HO716 := n1_; have HB := n2_; clear n0_ n1_ n2_ hb ho0) | ((with_reducible refine gate_dst (N := 2) rfl ?_); refine box_event ?hg (N := 2) ?hd (cs := #[.int .i64 0, .int .i64 0, .int .i64 0, .slice none 0 0]) (t := 28) ?hr ?_; (case hd => rfl); (case hg => rfl); (case hr => (go_simp; done)); intro gb719 hg w42 hbox hb; have n0_ := Aside0.mk (Kd.R_below HO710.out hb); have n1_ := Aside0.mk (Kd.V_below (Kd.V_elderB HO716.out gb719 (Nat.le_of_eq hg.symm)) hb); have n2_ := Aside0.mk (below_step HB.out hb); have n3_ := Aside0.mk (hbox); have n4_ := Aside0.mk ((by rw [hg]; exact (below_size HB.out) : w.heap.size ≤ gb719)); have n5_ := Aside0.mk ((by rw [hg]; exact (below_size HB.out) : w.heap.size ≤ gb719)); clear HO710 HO716 HB; have HO710 := n0_; have HO716 := n1_; have HB := n2_; have BK719 := n3_; have GW719 := n4_; have GE719 := n5_; clear n0_ n1_ n2_ n3_ n4_ n5_ hb hbox hg; obtain ⟨hcz43_0, hcz43_1, hcz43_2, hcz43_3, hfz43_0, hfz43_1, hfz43_2, hfz43_3⟩ := Go.Proofs.YtodbnnfiadcbaaaH.cells4 BK719.out; obtain ⟨Ao44, co44, eo44⟩ := Kd.V_slice HO716.out; subst eo44) | ((with_reducible refine gate_callee (f := 18) rfl ?_); refine goesL_ (some 14) rfl rfl Try.func18 (by kernel_rfl) rfl #[.slice Ao40 t708.length co40, .agg #[.int .i64 1, .int .i64 0, .int .i64 0, .slice none 0 0]] rfl (by (simp only [List.map_toArray, List.map_cons, List.map_nil]); rfl) ?_; (refine (expr_Text.calls k _ _ t708 1 0 0 _ _ ([] : List (S28)) t720 _ ?side1 ?side2 ?side3 ?side4 A3.out).mono ?_); (case side1 => refine (Kd.R_reads' (e := 56) (base := w.heap.size) (ok := fun k_ => True) (n := t708.length) (c := co40) ?_).2.2; exact (by exact (Kd.R_mono (Kd.R_far (p := ⟨gb719, 3, none⟩) (Kd.R_far (p := ⟨gb719, 2, none⟩) (Kd.R_far (p := ⟨gb719, 1, none⟩) (Kd.R_far (p := ⟨gb719, 0, none⟩) (Kd.R_types HO710.out BK719.out (by decide)) (fun _ hk => hk.2) (.int .i64 t711)) (fun _ hk => hk.2) (.int .i64 t712)) (fun _ hk => hk.2) (.int .i64 t713)) (fun _ hk => hk.2) (.slice Ao44 t714.length co44)) (fun _ h_ => h_.1)))); (case side2 => exact (Kd.R_reads' HO710.out).2.1); (case side3 => exact Kd.C_nil _ _); (case side4 => exact Nat.le_refl _); rintro e w45 ⟨rfl, hb⟩; refine ⟨_, rfl, ?_⟩; have n0_ := Aside0.mk (Kd.R_below (by exact (Kd.R_mono (Kd.R_far (p := ⟨gb719, 3, none⟩) (Kd.R_far (p := ⟨gb719, 2, none⟩) (Kd.R_far (p := ⟨gb719, 1, none⟩) (Kd.R_far (p := ⟨gb719, 0, none⟩) (Kd.R_types HO710.out BK719.out (by decide)) (fun _ hk => hk.2) (.int .i64 t711)) (fun _ hk => hk.2) (.int .i64 t712)) (fun _ hk => hk.2) (.int .i64 t713)) (fun _ hk => hk.2) (.slice Ao44 t714.length co44)) (fun _ h_ => h_.1))) hb); have n1_ := Aside0.mk (Kd.V_below (by exact (Kd.V_mono (Kd.V_far (p := ⟨gb719, 3, none⟩) (Kd.V_far (p := ⟨gb719, 2, none⟩) (Kd.V_far (p := ⟨gb719, 1, none⟩) (Kd.V_far (p := ⟨gb719, 0, none⟩) (Kd.V_mono HO716.out (fun k_ hk => (⟨hk, hk.2⟩ : _ ∧ k_ ≠ gb719))) (fun _ hk => hk.2) (.int .i64 t711)) (fun _ hk => hk.2) (.int .i64 t712)) (fun _ hk => hk.2) (.int .i64 t713)) (fun _ hk => hk.2) (.slice Ao44 t714.length co44)) (fun _ h_ => h_.1))) hb); have n2_ := Aside0.mk (blk_below (g := gb719) (o := .cells #[.int .i64 t711, .int .i64 t712, .int .i64 t713, .slice Ao44 t714.length co44] 28 (0, 0)) (by refine blk_put (cs := #[.int .i64 t711, .int .i64 t712, .int .i64 t713, .slice none 0 0]) ?_ 3 _ rfl; refine blk_put (cs := #[.int .i64 t711, .int .i64 t712, .int .i64 0, .slice none 0 0]) ?_ 2 _ rfl; refine blk_put (cs := #[.int .i64 t711, .int .i64 0, .int .i64 0, .slice none 0 0]) ?_ 1 _ rfl; refine blk_put (cs := #[.int .i64 0, .int .i64 0, .int .i64 0, .slice none 0 0]) ?_ 0 _ rfl; exact BK719.out) hb); have n3_ := Aside0.mk (below_step (by repeat ((with_reducible first | exact HB.out | refine below_set ?_ GE719.out))) hb); clear HO710 HO716 BK719 HB; have HO710 := n0_; have HO716 := n1_; have BK719 := n2_; have HB := n3_; clear n0_ n1_ n2_ n3_ hb; obtain ⟨hcz46_0, hcz46_1, hcz46_2, hcz46_3, hfz46_0, hfz46_1, hfz46_2, hfz46_3⟩ := Go.Proofs.YtodbnnfiadcbaaaH.cells4 BK719.out) | (go_at_call 18; (with_reducible refine (expr_Text.calls k _ _ t708 t711 t712 t713 _ _ t714 t721 _ ?side1 ?side2 ?side3 ?side4 A7.out).mono ?_); (case side1 => repeat (exact (Kd.R_reads' HO710.out).2.2)); (case side2 => exact (Kd.R_reads' HO710.out).2.1); (case side3 => repeat (exact (Kd.V_reads' HO716.out).2.2)); (case side4 => exact (Kd.V_reads' HO716.out).2.1); rintro e w47 ⟨rfl, hb⟩; have n0_ := Aside0.mk (Kd.R_below HO710.out hb); have n1_ := Aside0.mk (Kd.V_below HO716.out hb); have n2_ := Aside0.mk (blk_below BK719.out hb); have n3_ := Aside0.mk (below_step HB.out hb); clear HO710 HO716 BK719 HB; have HO710 := n0_; have HO716 := n1_; have BK719 := n2_; have HB := n3_; clear n0_ n1_ n2_ n3_ hb; obtain ⟨hcz48_0, hcz48_1, hcz48_2, hcz48_3, hfz48_0, hfz48_1, hfz48_2, hfz48_3⟩ := Go.Proofs.YtodbnnfiadcbaaaH.cells4 BK719.out) | (go_at_call 17; (with_reducible refine (expr_Check.calls k _ _ t708 t711 t712 t713 _ _ t714 t722 _ ?side1 ?side2 ?side3 ?side4 A9.out).mono ?_); (case side1 => repeat (exact (Kd.R_reads' HO710.out).2.2)); (case side2 => exact (Kd.R_reads' HO710.out).2.1); (case side3 => repeat (exact (Kd.V_reads' HO716.out).2.2)); (case side4 => exact (Kd.V_reads' HO716.out).2.1); rintro e w49 ⟨rfl, hb⟩; have n0_ := Aside0.mk (Kd.R_below HO710.out hb); have n1_ := Aside0.mk (Kd.V_below HO716.out hb); have n2_ := Aside0.mk (blk_below BK719.out hb); have n3_ := Aside0.mk (below_step HB.out hb); clear HO710 HO716 BK719 HB; have HO710 := n0_; have HO716 := n1_; have BK719 := n2_; have HB := n3_; clear n0_ n1_ n2_ n3_ hb; obtain ⟨hcz50_0, hcz50_1, hcz50_2, hcz50_3, hfz50_0, hfz50_1, hfz50_2, hfz50_3⟩ := Go.Proofs.YtodbnnfiadcbaaaH.cells4 BK719.out) | ((with_reducible refine gate_dst (N := 39) rfl ?_); refine R_lit_g (Kd.int .i64) _ 3 ?hg (N := 39) ?hd (xs := ([0, 2, 2, 1] : List Int)) (inner := [.int .i64 0, .int .i64 2, .int .i64 2, .int .i64 1]) (ok := fun _ => True) (okp := fun _ => True) ?hr ?hp (fun _ hk => hk) trivial (Below.refl _ _) (Nat.le_refl _) (by simp) ?_; (case hd => rfl); (case hg => rfl); (case hr => (go_simp; done)); (case hp => exact (Reps.one (show Kd.M (Kd.int .i64) _ _ _ 0 [.int .i64 0] from rfl) (Reps.one (show Kd.M (Kd.int .i64) _ _ _ 2 [.int .i64 2] from rfl) (Reps.one (show Kd.M (Kd.int .i64) _ _ _ 2 [.int .i64 2] from rfl) (Reps.one (show Kd.M (Kd.int .i64) _ _ _ 1 [.int .i64 1] from rfl) (Reps.none _ _)))))); intro v724 w51 ho52 hb hg_ hnew_; clear hg_ hnew_; (rw [← Ny723.out] at ho52); have n0_ := Aside0.mk (Kd.R_below HO710.out hb); have n1_ := Aside0.mk (Kd.V_elder' HO716.out (Kd.R_base ho52) hb); have n2_ := Aside0.mk (Kd.R_lower ho52 (below_size HB.out)); have n3_ := Aside0.mk (blk_below BK719.out hb); have n4_ := Aside0.mk (below_step HB.out hb); clear HO710 HO716 BK719 HB; have HO710 := n0_; have HO716 := n1_; have HO725 := n2_; have BK719 := n3_; have HB := n4_; clear n0_ n1_ n2_ n3_ n4_ hb ho52; obtain ⟨Ao53, co53, eo53⟩ := Kd.R_slice HO725.out; subst eo53) | (go_at_call 27; (with_reducible refine (expr_Has.calls k t711 t712 t713 _ _ t714 _ _ y723 true _ ?side1 ?side2 ?side3 ?side4 A11.out).mono ?_); (case side1 => repeat (exact (Kd.V_reads' HO716.out).2.2)); (case side2 => exact (Kd.V_reads' HO716.out).2.1); (case side3 => repeat (exact (Kd.R_reads' HO725.out).2.2)); (case side4 => exact (Kd.R_reads' HO725.out).2.1); rintro e w54 ⟨rfl, hb⟩; have n0_ := Aside0.mk (Kd.R_below HO710.out hb); have n1_ := Aside0.mk (Kd.V_below HO716.out hb); have n2_ := Aside0.mk (Kd.R_below HO725.out hb); have n3_ := Aside0.mk (blk_below BK719.out hb); have n4_ := Aside0.mk (below_step HB.out hb); clear HO710 HO716 HO725 BK719 HB; have HO710 := n0_; have HO716 := n1_; have HO725 := n2_; have BK719 := n3_; have HB := n4_; clear n0_ n1_ n2_ n3_ n4_ hb; obtain ⟨hcz55_0, hcz55_1, hcz55_2, hcz55_3, hfz55_0, hfz55_1, hfz55_2, hfz55_3⟩ := Go.Proofs.YtodbnnfiadcbaaaH.cells4 BK719.out) | (go_at_call 27; (with_reducible change Calls _ 27 #[_, .slice none 0 0] _ _); (refine (expr_Has.calls k t711 t712 t713 _ _ t714 _ _ ([] : List Int) false _ ?side1 ?side2 ?side3 ?side4 A13.out).mono ?_); (case side1 => repeat (exact (Kd.V_reads' HO716.out).2.2)); (case side2 => exact (Kd.V_reads' HO716.out).2.1); (case side3 => exact Kd.C_nil _ _); (case side4 => exact Nat.le_refl _); rintro e w56 ⟨rfl, hb⟩; have n0_ := Aside0.mk (Kd.R_below HO710.out hb); have n1_ := Aside0.mk (Kd.V_below HO716.out hb); have n2_ := Aside0.mk (Kd.R_below HO725.out hb); have n3_ := Aside0.mk (blk_below BK719.out hb); have n4_ := Aside0.mk (below_step HB.out hb); clear HO710 HO716 HO725 BK719 HB; have HO710 := n0_; have HO716 := n1_; have HO725 := n2_; have BK719 := n3_; have HB := n4_; clear n0_ n1_ n2_ n3_ n4_ hb))
                go_ret
                exact ⟨by rfl, by with_reducible exact HB.out⟩
            · replace c12 := Bool.eq_false_iff.mpr c12
              subst c12
              rw [if_neg (show ¬ (false = true) by decide)] at H
              obtain rfl := Option.some.inj H
              go_enter Try.func13, Try.ntmps13
              go_wp2_with (first | ((with_reducible refine gate_callee (f := 14) rfl ?_); refine goesL_ (some 5) rfl rfl Try.func14 (by kernel_rfl) rfl #[.int .i64 0, .slice none 0 0] rfl (by (simp only [List.map_toArray, List.map_cons, List.map_nil]); rfl) ?_; (refine (canopylaw1_Syms.calls 0 _ _ ([] : List Int) t708 _ ?side1 ?side2 A1.out).mono ?_); (case side1 => exact Kd.C_nil _ _); (case side2 => exact Nat.le_refl _); rintro e w57 ⟨v709, rfl, ho0, hb⟩; refine ⟨_, rfl, ?_⟩; have n0_ := Aside0.mk (Kd.R_lower ho0 (below_size HB.out)); have n1_ := Aside0.mk (below_step HB.out hb); clear HB; have HO710 := n0_; have HB := n1_; clear n0_ n1_ hb ho0; obtain ⟨Ao58, co58, eo58⟩ := Kd.R_slice HO710.out; subst eo58) | ((with_reducible refine gate_callee (f := 19) rfl ?_); refine goesL_ (some 8) rfl rfl Try.func19 (by kernel_rfl) rfl #[.slice Ao58 t708.length co58, .string (⟨#[60, 97, 91, 98, 42, 93, 97, 62, 124, 49]⟩ : ByteArray)] rfl (by (simp only [List.map_toArray, List.map_cons, List.map_nil]); rfl) ?_; (with_reducible refine (expr_Parse.calls k _ _ t708 (⟨#[60, 97, 91, 98, 42, 93, 97, 62, 124, 49]⟩ : ByteArray) t711 t712 t713 t714 t717 t718 _ ?side1 ?side2 A2.out).mono ?_); (case side1 => repeat (exact (Kd.R_reads' HO710.out).2.2)); (case side2 => exact (Kd.R_reads' HO710.out).2.1); rintro e w59 ⟨v715, rfl, ho0, hb⟩; refine ⟨_, rfl, ?_⟩; have n0_ := Aside0.mk (Kd.R_below HO710.out hb); have n1_ := Aside0.mk (Kd.V_lower (Kd.V_mono (ok' := fun k_ => some k_ ≠ (.slice Ao58 t708.length co58 : Value).ownBlock) ho0 (fun k_ hk_ => (Kd.fresh' (Kd.R_lt HO710.out) k_ hk_))) (below_size HB.out)); have n2_ := Aside0.mk (below_step HB.out hb); clear HO710 HB; have HO710 := n0_; have HO716 := n1_; have HB := n2_; clear n0_ n1_ n2_ hb ho0) | ((with_reducible refine gate_dst (N := 2) rfl ?_); refine box_event ?hg (N := 2) ?hd (cs := #[.int .i64 0, .int .i64 0, .int .i64 0, .slice none 0 0]) (t := 28) ?hr ?_; (case hd => rfl); (case hg => rfl); (case hr => (go_simp; done)); intro gb719 hg w60 hbox hb; have n0_ := Aside0.mk (Kd.R_below HO710.out hb); have n1_ := Aside0.mk (Kd.V_below (Kd.V_elderB HO716.out gb719 (Nat.le_of_eq hg.symm)) hb); have n2_ := Aside0.mk (below_step HB.out hb); have n3_ := Aside0.mk (hbox); have n4_ := Aside0.mk ((by rw [hg]; exact (below_size HB.out) : w.heap.size ≤ gb719)); have n5_ := Aside0.mk ((by rw [hg]; exact (below_size HB.out) : w.heap.size ≤ gb719)); clear HO710 HO716 HB; have HO710 := n0_; have HO716 := n1_; have HB := n2_; have BK719 := n3_; have GW719 := n4_; have GE719 := n5_; clear n0_ n1_ n2_ n3_ n4_ n5_ hb hbox hg; obtain ⟨hcz61_0, hcz61_1, hcz61_2, hcz61_3, hfz61_0, hfz61_1, hfz61_2, hfz61_3⟩ := Go.Proofs.YtodbnnfiadcbaaaH.cells4 BK719.out; obtain ⟨Ao62, co62, eo62⟩ := Kd.V_slice HO716.out; subst eo62) | ((with_reducible refine gate_callee (f := 18) rfl ?_); refine goesL_ (some 14) rfl rfl Try.func18 (by kernel_rfl) rfl #[.slice Ao58 t708.length co58, .agg #[.int .i64 1, .int .i64 0, .int .i64 0, .slice none 0 0]] rfl (by (simp only [List.map_toArray, List.map_cons, List.map_nil]); rfl) ?_; (refine (expr_Text.calls k _ _ t708 1 0 0 _ _ ([] : List (S28)) t720 _ ?side1 ?side2 ?side3 ?side4 A3.out).mono ?_); (case side1 => refine (Kd.R_reads' (e := 56) (base := w.heap.size) (ok := fun k_ => True) (n := t708.length) (c := co58) ?_).2.2; exact (by exact (Kd.R_mono (Kd.R_far (p := ⟨gb719, 3, none⟩) (Kd.R_far (p := ⟨gb719, 2, none⟩) (Kd.R_far (p := ⟨gb719, 1, none⟩) (Kd.R_far (p := ⟨gb719, 0, none⟩) (Kd.R_types HO710.out BK719.out (by decide)) (fun _ hk => hk.2) (.int .i64 t711)) (fun _ hk => hk.2) (.int .i64 t712)) (fun _ hk => hk.2) (.int .i64 t713)) (fun _ hk => hk.2) (.slice Ao62 t714.length co62)) (fun _ h_ => h_.1)))); (case side2 => exact (Kd.R_reads' HO710.out).2.1); (case side3 => exact Kd.C_nil _ _); (case side4 => exact Nat.le_refl _); rintro e w63 ⟨rfl, hb⟩; refine ⟨_, rfl, ?_⟩; have n0_ := Aside0.mk (Kd.R_below (by exact (Kd.R_mono (Kd.R_far (p := ⟨gb719, 3, none⟩) (Kd.R_far (p := ⟨gb719, 2, none⟩) (Kd.R_far (p := ⟨gb719, 1, none⟩) (Kd.R_far (p := ⟨gb719, 0, none⟩) (Kd.R_types HO710.out BK719.out (by decide)) (fun _ hk => hk.2) (.int .i64 t711)) (fun _ hk => hk.2) (.int .i64 t712)) (fun _ hk => hk.2) (.int .i64 t713)) (fun _ hk => hk.2) (.slice Ao62 t714.length co62)) (fun _ h_ => h_.1))) hb); have n1_ := Aside0.mk (Kd.V_below (by exact (Kd.V_mono (Kd.V_far (p := ⟨gb719, 3, none⟩) (Kd.V_far (p := ⟨gb719, 2, none⟩) (Kd.V_far (p := ⟨gb719, 1, none⟩) (Kd.V_far (p := ⟨gb719, 0, none⟩) (Kd.V_mono HO716.out (fun k_ hk => (⟨hk, hk.2⟩ : _ ∧ k_ ≠ gb719))) (fun _ hk => hk.2) (.int .i64 t711)) (fun _ hk => hk.2) (.int .i64 t712)) (fun _ hk => hk.2) (.int .i64 t713)) (fun _ hk => hk.2) (.slice Ao62 t714.length co62)) (fun _ h_ => h_.1))) hb); have n2_ := Aside0.mk (blk_below (g := gb719) (o := .cells #[.int .i64 t711, .int .i64 t712, .int .i64 t713, .slice Ao62 t714.length co62] 28 (0, 0)) (by refine blk_put (cs := #[.int .i64 t711, .int .i64 t712, .int .i64 t713, .slice none 0 0]) ?_ 3 _ rfl; refine blk_put (cs := #[.int .i64 t711, .int .i64 t712, .int .i64 0, .slice none 0 0]) ?_ 2 _ rfl; refine blk_put (cs := #[.int .i64 t711, .int .i64 0, .int .i64 0, .slice none 0 0]) ?_ 1 _ rfl; refine blk_put (cs := #[.int .i64 0, .int .i64 0, .int .i64 0, .slice none 0 0]) ?_ 0 _ rfl; exact BK719.out) hb); have n3_ := Aside0.mk (below_step (by repeat ((with_reducible first | exact HB.out | refine below_set ?_ GE719.out))) hb); clear HO710 HO716 BK719 HB; have HO710 := n0_; have HO716 := n1_; have BK719 := n2_; have HB := n3_; clear n0_ n1_ n2_ n3_ hb; obtain ⟨hcz64_0, hcz64_1, hcz64_2, hcz64_3, hfz64_0, hfz64_1, hfz64_2, hfz64_3⟩ := Go.Proofs.YtodbnnfiadcbaaaH.cells4 BK719.out) | (go_at_call 18; (with_reducible refine (expr_Text.calls k _ _ t708 t711 t712 t713 _ _ t714 t721 _ ?side1 ?side2 ?side3 ?side4 A7.out).mono ?_); (case side1 => repeat (exact (Kd.R_reads' HO710.out).2.2)); (case side2 => exact (Kd.R_reads' HO710.out).2.1); (case side3 => repeat (exact (Kd.V_reads' HO716.out).2.2)); (case side4 => exact (Kd.V_reads' HO716.out).2.1); rintro e w65 ⟨rfl, hb⟩; have n0_ := Aside0.mk (Kd.R_below HO710.out hb); have n1_ := Aside0.mk (Kd.V_below HO716.out hb); have n2_ := Aside0.mk (blk_below BK719.out hb); have n3_ := Aside0.mk (below_step HB.out hb); clear HO710 HO716 BK719 HB; have HO710 := n0_; have HO716 := n1_; have BK719 := n2_; have HB := n3_; clear n0_ n1_ n2_ n3_ hb; obtain ⟨hcz66_0, hcz66_1, hcz66_2, hcz66_3, hfz66_0, hfz66_1, hfz66_2, hfz66_3⟩ := Go.Proofs.YtodbnnfiadcbaaaH.cells4 BK719.out) | (go_at_call 17; (with_reducible refine (expr_Check.calls k _ _ t708 t711 t712 t713 _ _ t714 t722 _ ?side1 ?side2 ?side3 ?side4 A9.out).mono ?_); (case side1 => repeat (exact (Kd.R_reads' HO710.out).2.2)); (case side2 => exact (Kd.R_reads' HO710.out).2.1); (case side3 => repeat (exact (Kd.V_reads' HO716.out).2.2)); (case side4 => exact (Kd.V_reads' HO716.out).2.1); rintro e w67 ⟨rfl, hb⟩; have n0_ := Aside0.mk (Kd.R_below HO710.out hb); have n1_ := Aside0.mk (Kd.V_below HO716.out hb); have n2_ := Aside0.mk (blk_below BK719.out hb); have n3_ := Aside0.mk (below_step HB.out hb); clear HO710 HO716 BK719 HB; have HO710 := n0_; have HO716 := n1_; have BK719 := n2_; have HB := n3_; clear n0_ n1_ n2_ n3_ hb; obtain ⟨hcz68_0, hcz68_1, hcz68_2, hcz68_3, hfz68_0, hfz68_1, hfz68_2, hfz68_3⟩ := Go.Proofs.YtodbnnfiadcbaaaH.cells4 BK719.out) | ((with_reducible refine gate_dst (N := 39) rfl ?_); refine R_lit_g (Kd.int .i64) _ 3 ?hg (N := 39) ?hd (xs := ([0, 2, 2, 1] : List Int)) (inner := [.int .i64 0, .int .i64 2, .int .i64 2, .int .i64 1]) (ok := fun _ => True) (okp := fun _ => True) ?hr ?hp (fun _ hk => hk) trivial (Below.refl _ _) (Nat.le_refl _) (by simp) ?_; (case hd => rfl); (case hg => rfl); (case hr => (go_simp; done)); (case hp => exact (Reps.one (show Kd.M (Kd.int .i64) _ _ _ 0 [.int .i64 0] from rfl) (Reps.one (show Kd.M (Kd.int .i64) _ _ _ 2 [.int .i64 2] from rfl) (Reps.one (show Kd.M (Kd.int .i64) _ _ _ 2 [.int .i64 2] from rfl) (Reps.one (show Kd.M (Kd.int .i64) _ _ _ 1 [.int .i64 1] from rfl) (Reps.none _ _)))))); intro v724 w69 ho70 hb hg_ hnew_; clear hg_ hnew_; (rw [← Ny723.out] at ho70); have n0_ := Aside0.mk (Kd.R_below HO710.out hb); have n1_ := Aside0.mk (Kd.V_elder' HO716.out (Kd.R_base ho70) hb); have n2_ := Aside0.mk (Kd.R_lower ho70 (below_size HB.out)); have n3_ := Aside0.mk (blk_below BK719.out hb); have n4_ := Aside0.mk (below_step HB.out hb); clear HO710 HO716 BK719 HB; have HO710 := n0_; have HO716 := n1_; have HO725 := n2_; have BK719 := n3_; have HB := n4_; clear n0_ n1_ n2_ n3_ n4_ hb ho70; obtain ⟨Ao71, co71, eo71⟩ := Kd.R_slice HO725.out; subst eo71) | (go_at_call 27; (with_reducible refine (expr_Has.calls k t711 t712 t713 _ _ t714 _ _ y723 false _ ?side1 ?side2 ?side3 ?side4 A11.out).mono ?_); (case side1 => repeat (exact (Kd.V_reads' HO716.out).2.2)); (case side2 => exact (Kd.V_reads' HO716.out).2.1); (case side3 => repeat (exact (Kd.R_reads' HO725.out).2.2)); (case side4 => exact (Kd.R_reads' HO725.out).2.1); rintro e w72 ⟨rfl, hb⟩; have n0_ := Aside0.mk (Kd.R_below HO710.out hb); have n1_ := Aside0.mk (Kd.V_below HO716.out hb); have n2_ := Aside0.mk (Kd.R_below HO725.out hb); have n3_ := Aside0.mk (blk_below BK719.out hb); have n4_ := Aside0.mk (below_step HB.out hb); clear HO710 HO716 HO725 BK719 HB; have HO710 := n0_; have HO716 := n1_; have HO725 := n2_; have BK719 := n3_; have HB := n4_; clear n0_ n1_ n2_ n3_ n4_ hb))
              go_ret
              exact ⟨by rfl, by with_reducible exact HB.out⟩
          · rw [if_neg c10] at H
            have c10b0 : (t722 == 0) = false := beq_eq_false_iff_ne.mpr c10
            have c10b1 : (t722 != 0) = true := bne_iff_ne.mpr c10
            obtain rfl := Option.some.inj H
            go_enter Try.func13, Try.ntmps13
            go_wp2_with (first | ((with_reducible refine gate_callee (f := 14) rfl ?_); refine goesL_ (some 5) rfl rfl Try.func14 (by kernel_rfl) rfl #[.int .i64 0, .slice none 0 0] rfl (by (simp only [List.map_toArray, List.map_cons, List.map_nil]); rfl) ?_; (refine (canopylaw1_Syms.calls 0 _ _ ([] : List Int) t708 _ ?side1 ?side2 A1.out).mono ?_); (case side1 => exact Kd.C_nil _ _); (case side2 => exact Nat.le_refl _); rintro e w73 ⟨v709, rfl, ho0, hb⟩; refine ⟨_, rfl, ?_⟩; have n0_ := Aside0.mk (Kd.R_lower ho0 (below_size HB.out)); have n1_ := Aside0.mk (below_step HB.out hb); clear HB; have HO710 := n0_; have HB := n1_; clear n0_ n1_ hb ho0; obtain ⟨Ao74, co74, eo74⟩ := Kd.R_slice HO710.out; subst eo74) | ((with_reducible refine gate_callee (f := 19) rfl ?_); refine goesL_ (some 8) rfl rfl Try.func19 (by kernel_rfl) rfl #[.slice Ao74 t708.length co74, .string (⟨#[60, 97, 91, 98, 42, 93, 97, 62, 124, 49]⟩ : ByteArray)] rfl (by (simp only [List.map_toArray, List.map_cons, List.map_nil]); rfl) ?_; (with_reducible refine (expr_Parse.calls k _ _ t708 (⟨#[60, 97, 91, 98, 42, 93, 97, 62, 124, 49]⟩ : ByteArray) t711 t712 t713 t714 t717 t718 _ ?side1 ?side2 A2.out).mono ?_); (case side1 => repeat (exact (Kd.R_reads' HO710.out).2.2)); (case side2 => exact (Kd.R_reads' HO710.out).2.1); rintro e w75 ⟨v715, rfl, ho0, hb⟩; refine ⟨_, rfl, ?_⟩; have n0_ := Aside0.mk (Kd.R_below HO710.out hb); have n1_ := Aside0.mk (Kd.V_lower (Kd.V_mono (ok' := fun k_ => some k_ ≠ (.slice Ao74 t708.length co74 : Value).ownBlock) ho0 (fun k_ hk_ => (Kd.fresh' (Kd.R_lt HO710.out) k_ hk_))) (below_size HB.out)); have n2_ := Aside0.mk (below_step HB.out hb); clear HO710 HB; have HO710 := n0_; have HO716 := n1_; have HB := n2_; clear n0_ n1_ n2_ hb ho0) | ((with_reducible refine gate_dst (N := 2) rfl ?_); refine box_event ?hg (N := 2) ?hd (cs := #[.int .i64 0, .int .i64 0, .int .i64 0, .slice none 0 0]) (t := 28) ?hr ?_; (case hd => rfl); (case hg => rfl); (case hr => (go_simp; done)); intro gb719 hg w76 hbox hb; have n0_ := Aside0.mk (Kd.R_below HO710.out hb); have n1_ := Aside0.mk (Kd.V_below (Kd.V_elderB HO716.out gb719 (Nat.le_of_eq hg.symm)) hb); have n2_ := Aside0.mk (below_step HB.out hb); have n3_ := Aside0.mk (hbox); have n4_ := Aside0.mk ((by rw [hg]; exact (below_size HB.out) : w.heap.size ≤ gb719)); have n5_ := Aside0.mk ((by rw [hg]; exact (below_size HB.out) : w.heap.size ≤ gb719)); clear HO710 HO716 HB; have HO710 := n0_; have HO716 := n1_; have HB := n2_; have BK719 := n3_; have GW719 := n4_; have GE719 := n5_; clear n0_ n1_ n2_ n3_ n4_ n5_ hb hbox hg; obtain ⟨hcz77_0, hcz77_1, hcz77_2, hcz77_3, hfz77_0, hfz77_1, hfz77_2, hfz77_3⟩ := Go.Proofs.YtodbnnfiadcbaaaH.cells4 BK719.out; obtain ⟨Ao78, co78, eo78⟩ := Kd.V_slice HO716.out; subst eo78) | ((with_reducible refine gate_callee (f := 18) rfl ?_); refine goesL_ (some 14) rfl rfl Try.func18 (by kernel_rfl) rfl #[.slice Ao74 t708.length co74, .agg #[.int .i64 1, .int .i64 0, .int .i64 0, .slice none 0 0]] rfl (by (simp only [List.map_toArray, List.map_cons, List.map_nil]); rfl) ?_; (refine (expr_Text.calls k _ _ t708 1 0 0 _ _ ([] : List (S28)) t720 _ ?side1 ?side2 ?side3 ?side4 A3.out).mono ?_); (case side1 => refine (Kd.R_reads' (e := 56) (base := w.heap.size) (ok := fun k_ => True) (n := t708.length) (c := co74) ?_).2.2; exact (by exact (Kd.R_mono (Kd.R_far (p := ⟨gb719, 3, none⟩) (Kd.R_far (p := ⟨gb719, 2, none⟩) (Kd.R_far (p := ⟨gb719, 1, none⟩) (Kd.R_far (p := ⟨gb719, 0, none⟩) (Kd.R_types HO710.out BK719.out (by decide)) (fun _ hk => hk.2) (.int .i64 t711)) (fun _ hk => hk.2) (.int .i64 t712)) (fun _ hk => hk.2) (.int .i64 t713)) (fun _ hk => hk.2) (.slice Ao78 t714.length co78)) (fun _ h_ => h_.1)))); (case side2 => exact (Kd.R_reads' HO710.out).2.1); (case side3 => exact Kd.C_nil _ _); (case side4 => exact Nat.le_refl _); rintro e w79 ⟨rfl, hb⟩; refine ⟨_, rfl, ?_⟩; have n0_ := Aside0.mk (Kd.R_below (by exact (Kd.R_mono (Kd.R_far (p := ⟨gb719, 3, none⟩) (Kd.R_far (p := ⟨gb719, 2, none⟩) (Kd.R_far (p := ⟨gb719, 1, none⟩) (Kd.R_far (p := ⟨gb719, 0, none⟩) (Kd.R_types HO710.out BK719.out (by decide)) (fun _ hk => hk.2) (.int .i64 t711)) (fun _ hk => hk.2) (.int .i64 t712)) (fun _ hk => hk.2) (.int .i64 t713)) (fun _ hk => hk.2) (.slice Ao78 t714.length co78)) (fun _ h_ => h_.1))) hb); have n1_ := Aside0.mk (Kd.V_below (by exact (Kd.V_mono (Kd.V_far (p := ⟨gb719, 3, none⟩) (Kd.V_far (p := ⟨gb719, 2, none⟩) (Kd.V_far (p := ⟨gb719, 1, none⟩) (Kd.V_far (p := ⟨gb719, 0, none⟩) (Kd.V_mono HO716.out (fun k_ hk => (⟨hk, hk.2⟩ : _ ∧ k_ ≠ gb719))) (fun _ hk => hk.2) (.int .i64 t711)) (fun _ hk => hk.2) (.int .i64 t712)) (fun _ hk => hk.2) (.int .i64 t713)) (fun _ hk => hk.2) (.slice Ao78 t714.length co78)) (fun _ h_ => h_.1))) hb); have n2_ := Aside0.mk (blk_below (g := gb719) (o := .cells #[.int .i64 t711, .int .i64 t712, .int .i64 t713, .slice Ao78 t714.length co78] 28 (0, 0)) (by refine blk_put (cs := #[.int .i64 t711, .int .i64 t712, .int .i64 t713, .slice none 0 0]) ?_ 3 _ rfl; refine blk_put (cs := #[.int .i64 t711, .int .i64 t712, .int .i64 0, .slice none 0 0]) ?_ 2 _ rfl; refine blk_put (cs := #[.int .i64 t711, .int .i64 0, .int .i64 0, .slice none 0 0]) ?_ 1 _ rfl; refine blk_put (cs := #[.int .i64 0, .int .i64 0, .int .i64 0, .slice none 0 0]) ?_ 0 _ rfl; exact BK719.out) hb); have n3_ := Aside0.mk (below_step (by repeat ((with_reducible first | exact HB.out | refine below_set ?_ GE719.out))) hb); clear HO710 HO716 BK719 HB; have HO710 := n0_; have HO716 := n1_; have BK719 := n2_; have HB := n3_; clear n0_ n1_ n2_ n3_ hb; obtain ⟨hcz80_0, hcz80_1, hcz80_2, hcz80_3, hfz80_0, hfz80_1, hfz80_2, hfz80_3⟩ := Go.Proofs.YtodbnnfiadcbaaaH.cells4 BK719.out) | (go_at_call 18; (with_reducible refine (expr_Text.calls k _ _ t708 t711 t712 t713 _ _ t714 t721 _ ?side1 ?side2 ?side3 ?side4 A7.out).mono ?_); (case side1 => repeat (exact (Kd.R_reads' HO710.out).2.2)); (case side2 => exact (Kd.R_reads' HO710.out).2.1); (case side3 => repeat (exact (Kd.V_reads' HO716.out).2.2)); (case side4 => exact (Kd.V_reads' HO716.out).2.1); rintro e w81 ⟨rfl, hb⟩; have n0_ := Aside0.mk (Kd.R_below HO710.out hb); have n1_ := Aside0.mk (Kd.V_below HO716.out hb); have n2_ := Aside0.mk (blk_below BK719.out hb); have n3_ := Aside0.mk (below_step HB.out hb); clear HO710 HO716 BK719 HB; have HO710 := n0_; have HO716 := n1_; have BK719 := n2_; have HB := n3_; clear n0_ n1_ n2_ n3_ hb; obtain ⟨hcz82_0, hcz82_1, hcz82_2, hcz82_3, hfz82_0, hfz82_1, hfz82_2, hfz82_3⟩ := Go.Proofs.YtodbnnfiadcbaaaH.cells4 BK719.out) | (go_at_call 17; (with_reducible refine (expr_Check.calls k _ _ t708 t711 t712 t713 _ _ t714 t722 _ ?side1 ?side2 ?side3 ?side4 A9.out).mono ?_); (case side1 => repeat (exact (Kd.R_reads' HO710.out).2.2)); (case side2 => exact (Kd.R_reads' HO710.out).2.1); (case side3 => repeat (exact (Kd.V_reads' HO716.out).2.2)); (case side4 => exact (Kd.V_reads' HO716.out).2.1); rintro e w83 ⟨rfl, hb⟩; have n0_ := Aside0.mk (Kd.R_below HO710.out hb); have n1_ := Aside0.mk (Kd.V_below HO716.out hb); have n2_ := Aside0.mk (blk_below BK719.out hb); have n3_ := Aside0.mk (below_step HB.out hb); clear HO710 HO716 BK719 HB; have HO710 := n0_; have HO716 := n1_; have BK719 := n2_; have HB := n3_; clear n0_ n1_ n2_ n3_ hb))
            go_ret
            exact ⟨by rfl, by with_reducible exact HB.out⟩
        · rw [if_neg c8] at H
          have c8b0 : (t721.toList == ([60, 97, 91, 32, 98, 42, 32, 93, 97, 62, 32, 124, 32, 49] : List UInt8)) = false := beq_eq_false_iff_ne.mpr c8
          have c8b1 : (t721.toList != ([60, 97, 91, 32, 98, 42, 32, 93, 97, 62, 32, 124, 32, 49] : List UInt8)) = true := bne_iff_ne.mpr c8
          obtain rfl := Option.some.inj H
          go_enter Try.func13, Try.ntmps13
          go_wp2_with (first | ((with_reducible refine gate_callee (f := 14) rfl ?_); refine goesL_ (some 5) rfl rfl Try.func14 (by kernel_rfl) rfl #[.int .i64 0, .slice none 0 0] rfl (by (simp only [List.map_toArray, List.map_cons, List.map_nil]); rfl) ?_; (refine (canopylaw1_Syms.calls 0 _ _ ([] : List Int) t708 _ ?side1 ?side2 A1.out).mono ?_); (case side1 => exact Kd.C_nil _ _); (case side2 => exact Nat.le_refl _); rintro e w84 ⟨v709, rfl, ho0, hb⟩; refine ⟨_, rfl, ?_⟩; have n0_ := Aside0.mk (Kd.R_lower ho0 (below_size HB.out)); have n1_ := Aside0.mk (below_step HB.out hb); clear HB; have HO710 := n0_; have HB := n1_; clear n0_ n1_ hb ho0; obtain ⟨Ao85, co85, eo85⟩ := Kd.R_slice HO710.out; subst eo85) | ((with_reducible refine gate_callee (f := 19) rfl ?_); refine goesL_ (some 8) rfl rfl Try.func19 (by kernel_rfl) rfl #[.slice Ao85 t708.length co85, .string (⟨#[60, 97, 91, 98, 42, 93, 97, 62, 124, 49]⟩ : ByteArray)] rfl (by (simp only [List.map_toArray, List.map_cons, List.map_nil]); rfl) ?_; (with_reducible refine (expr_Parse.calls k _ _ t708 (⟨#[60, 97, 91, 98, 42, 93, 97, 62, 124, 49]⟩ : ByteArray) t711 t712 t713 t714 t717 t718 _ ?side1 ?side2 A2.out).mono ?_); (case side1 => repeat (exact (Kd.R_reads' HO710.out).2.2)); (case side2 => exact (Kd.R_reads' HO710.out).2.1); rintro e w86 ⟨v715, rfl, ho0, hb⟩; refine ⟨_, rfl, ?_⟩; have n0_ := Aside0.mk (Kd.R_below HO710.out hb); have n1_ := Aside0.mk (Kd.V_lower (Kd.V_mono (ok' := fun k_ => some k_ ≠ (.slice Ao85 t708.length co85 : Value).ownBlock) ho0 (fun k_ hk_ => (Kd.fresh' (Kd.R_lt HO710.out) k_ hk_))) (below_size HB.out)); have n2_ := Aside0.mk (below_step HB.out hb); clear HO710 HB; have HO710 := n0_; have HO716 := n1_; have HB := n2_; clear n0_ n1_ n2_ hb ho0) | ((with_reducible refine gate_dst (N := 2) rfl ?_); refine box_event ?hg (N := 2) ?hd (cs := #[.int .i64 0, .int .i64 0, .int .i64 0, .slice none 0 0]) (t := 28) ?hr ?_; (case hd => rfl); (case hg => rfl); (case hr => (go_simp; done)); intro gb719 hg w87 hbox hb; have n0_ := Aside0.mk (Kd.R_below HO710.out hb); have n1_ := Aside0.mk (Kd.V_below (Kd.V_elderB HO716.out gb719 (Nat.le_of_eq hg.symm)) hb); have n2_ := Aside0.mk (below_step HB.out hb); have n3_ := Aside0.mk (hbox); have n4_ := Aside0.mk ((by rw [hg]; exact (below_size HB.out) : w.heap.size ≤ gb719)); have n5_ := Aside0.mk ((by rw [hg]; exact (below_size HB.out) : w.heap.size ≤ gb719)); clear HO710 HO716 HB; have HO710 := n0_; have HO716 := n1_; have HB := n2_; have BK719 := n3_; have GW719 := n4_; have GE719 := n5_; clear n0_ n1_ n2_ n3_ n4_ n5_ hb hbox hg; obtain ⟨hcz88_0, hcz88_1, hcz88_2, hcz88_3, hfz88_0, hfz88_1, hfz88_2, hfz88_3⟩ := Go.Proofs.YtodbnnfiadcbaaaH.cells4 BK719.out; obtain ⟨Ao89, co89, eo89⟩ := Kd.V_slice HO716.out; subst eo89) | ((with_reducible refine gate_callee (f := 18) rfl ?_); refine goesL_ (some 14) rfl rfl Try.func18 (by kernel_rfl) rfl #[.slice Ao85 t708.length co85, .agg #[.int .i64 1, .int .i64 0, .int .i64 0, .slice none 0 0]] rfl (by (simp only [List.map_toArray, List.map_cons, List.map_nil]); rfl) ?_; (refine (expr_Text.calls k _ _ t708 1 0 0 _ _ ([] : List (S28)) t720 _ ?side1 ?side2 ?side3 ?side4 A3.out).mono ?_); (case side1 => refine (Kd.R_reads' (e := 56) (base := w.heap.size) (ok := fun k_ => True) (n := t708.length) (c := co85) ?_).2.2; exact (by exact (Kd.R_mono (Kd.R_far (p := ⟨gb719, 3, none⟩) (Kd.R_far (p := ⟨gb719, 2, none⟩) (Kd.R_far (p := ⟨gb719, 1, none⟩) (Kd.R_far (p := ⟨gb719, 0, none⟩) (Kd.R_types HO710.out BK719.out (by decide)) (fun _ hk => hk.2) (.int .i64 t711)) (fun _ hk => hk.2) (.int .i64 t712)) (fun _ hk => hk.2) (.int .i64 t713)) (fun _ hk => hk.2) (.slice Ao89 t714.length co89)) (fun _ h_ => h_.1)))); (case side2 => exact (Kd.R_reads' HO710.out).2.1); (case side3 => exact Kd.C_nil _ _); (case side4 => exact Nat.le_refl _); rintro e w90 ⟨rfl, hb⟩; refine ⟨_, rfl, ?_⟩; have n0_ := Aside0.mk (Kd.R_below (by exact (Kd.R_mono (Kd.R_far (p := ⟨gb719, 3, none⟩) (Kd.R_far (p := ⟨gb719, 2, none⟩) (Kd.R_far (p := ⟨gb719, 1, none⟩) (Kd.R_far (p := ⟨gb719, 0, none⟩) (Kd.R_types HO710.out BK719.out (by decide)) (fun _ hk => hk.2) (.int .i64 t711)) (fun _ hk => hk.2) (.int .i64 t712)) (fun _ hk => hk.2) (.int .i64 t713)) (fun _ hk => hk.2) (.slice Ao89 t714.length co89)) (fun _ h_ => h_.1))) hb); have n1_ := Aside0.mk (Kd.V_below (by exact (Kd.V_mono (Kd.V_far (p := ⟨gb719, 3, none⟩) (Kd.V_far (p := ⟨gb719, 2, none⟩) (Kd.V_far (p := ⟨gb719, 1, none⟩) (Kd.V_far (p := ⟨gb719, 0, none⟩) (Kd.V_mono HO716.out (fun k_ hk => (⟨hk, hk.2⟩ : _ ∧ k_ ≠ gb719))) (fun _ hk => hk.2) (.int .i64 t711)) (fun _ hk => hk.2) (.int .i64 t712)) (fun _ hk => hk.2) (.int .i64 t713)) (fun _ hk => hk.2) (.slice Ao89 t714.length co89)) (fun _ h_ => h_.1))) hb); have n2_ := Aside0.mk (blk_below (g := gb719) (o := .cells #[.int .i64 t711, .int .i64 t712, .int .i64 t713, .slice Ao89 t714.length co89] 28 (0, 0)) (by refine blk_put (cs := #[.int .i64 t711, .int .i64 t712, .int .i64 t713, .slice none 0 0]) ?_ 3 _ rfl; refine blk_put (cs := #[.int .i64 t711, .int .i64 t712, .int .i64 0, .slice none 0 0]) ?_ 2 _ rfl; refine blk_put (cs := #[.int .i64 t711, .int .i64 0, .int .i64 0, .slice none 0 0]) ?_ 1 _ rfl; refine blk_put (cs := #[.int .i64 0, .int .i64 0, .int .i64 0, .slice none 0 0]) ?_ 0 _ rfl; exact BK719.out) hb); have n3_ := Aside0.mk (below_step (by repeat ((with_reducible first | exact HB.out | refine below_set ?_ GE719.out))) hb); clear HO710 HO716 BK719 HB; have HO710 := n0_; have HO716 := n1_; have BK719 := n2_; have HB := n3_; clear n0_ n1_ n2_ n3_ hb; obtain ⟨hcz91_0, hcz91_1, hcz91_2, hcz91_3, hfz91_0, hfz91_1, hfz91_2, hfz91_3⟩ := Go.Proofs.YtodbnnfiadcbaaaH.cells4 BK719.out) | (go_at_call 18; (with_reducible refine (expr_Text.calls k _ _ t708 t711 t712 t713 _ _ t714 t721 _ ?side1 ?side2 ?side3 ?side4 A7.out).mono ?_); (case side1 => repeat (exact (Kd.R_reads' HO710.out).2.2)); (case side2 => exact (Kd.R_reads' HO710.out).2.1); (case side3 => repeat (exact (Kd.V_reads' HO716.out).2.2)); (case side4 => exact (Kd.V_reads' HO716.out).2.1); rintro e w92 ⟨rfl, hb⟩; have n0_ := Aside0.mk (Kd.R_below HO710.out hb); have n1_ := Aside0.mk (Kd.V_below HO716.out hb); have n2_ := Aside0.mk (blk_below BK719.out hb); have n3_ := Aside0.mk (below_step HB.out hb); clear HO710 HO716 BK719 HB; have HO710 := n0_; have HO716 := n1_; have BK719 := n2_; have HB := n3_; clear n0_ n1_ n2_ n3_ hb))
          go_ret
          exact ⟨by rfl, by with_reducible exact HB.out⟩
      · rw [if_neg c6] at H
        have c6b0 : (t711 == 6) = false := beq_eq_false_iff_ne.mpr c6
        have c6b1 : (t711 != 6) = true := bne_iff_ne.mpr c6
        obtain rfl := Option.some.inj H
        go_enter Try.func13, Try.ntmps13
        go_wp2_with (first | ((with_reducible refine gate_callee (f := 14) rfl ?_); refine goesL_ (some 5) rfl rfl Try.func14 (by kernel_rfl) rfl #[.int .i64 0, .slice none 0 0] rfl (by (simp only [List.map_toArray, List.map_cons, List.map_nil]); rfl) ?_; (refine (canopylaw1_Syms.calls 0 _ _ ([] : List Int) t708 _ ?side1 ?side2 A1.out).mono ?_); (case side1 => exact Kd.C_nil _ _); (case side2 => exact Nat.le_refl _); rintro e w93 ⟨v709, rfl, ho0, hb⟩; refine ⟨_, rfl, ?_⟩; have n0_ := Aside0.mk (Kd.R_lower ho0 (below_size HB.out)); have n1_ := Aside0.mk (below_step HB.out hb); clear HB; have HO710 := n0_; have HB := n1_; clear n0_ n1_ hb ho0; obtain ⟨Ao94, co94, eo94⟩ := Kd.R_slice HO710.out; subst eo94) | ((with_reducible refine gate_callee (f := 19) rfl ?_); refine goesL_ (some 8) rfl rfl Try.func19 (by kernel_rfl) rfl #[.slice Ao94 t708.length co94, .string (⟨#[60, 97, 91, 98, 42, 93, 97, 62, 124, 49]⟩ : ByteArray)] rfl (by (simp only [List.map_toArray, List.map_cons, List.map_nil]); rfl) ?_; (with_reducible refine (expr_Parse.calls k _ _ t708 (⟨#[60, 97, 91, 98, 42, 93, 97, 62, 124, 49]⟩ : ByteArray) t711 t712 t713 t714 t717 t718 _ ?side1 ?side2 A2.out).mono ?_); (case side1 => repeat (exact (Kd.R_reads' HO710.out).2.2)); (case side2 => exact (Kd.R_reads' HO710.out).2.1); rintro e w95 ⟨v715, rfl, ho0, hb⟩; refine ⟨_, rfl, ?_⟩; have n0_ := Aside0.mk (Kd.R_below HO710.out hb); have n1_ := Aside0.mk (Kd.V_lower (Kd.V_mono (ok' := fun k_ => some k_ ≠ (.slice Ao94 t708.length co94 : Value).ownBlock) ho0 (fun k_ hk_ => (Kd.fresh' (Kd.R_lt HO710.out) k_ hk_))) (below_size HB.out)); have n2_ := Aside0.mk (below_step HB.out hb); clear HO710 HB; have HO710 := n0_; have HO716 := n1_; have HB := n2_; clear n0_ n1_ n2_ hb ho0) | ((with_reducible refine gate_dst (N := 2) rfl ?_); refine box_event ?hg (N := 2) ?hd (cs := #[.int .i64 0, .int .i64 0, .int .i64 0, .slice none 0 0]) (t := 28) ?hr ?_; (case hd => rfl); (case hg => rfl); (case hr => (go_simp; done)); intro gb719 hg w96 hbox hb; have n0_ := Aside0.mk (Kd.R_below HO710.out hb); have n1_ := Aside0.mk (Kd.V_below (Kd.V_elderB HO716.out gb719 (Nat.le_of_eq hg.symm)) hb); have n2_ := Aside0.mk (below_step HB.out hb); have n3_ := Aside0.mk (hbox); have n4_ := Aside0.mk ((by rw [hg]; exact (below_size HB.out) : w.heap.size ≤ gb719)); have n5_ := Aside0.mk ((by rw [hg]; exact (below_size HB.out) : w.heap.size ≤ gb719)); clear HO710 HO716 HB; have HO710 := n0_; have HO716 := n1_; have HB := n2_; have BK719 := n3_; have GW719 := n4_; have GE719 := n5_; clear n0_ n1_ n2_ n3_ n4_ n5_ hb hbox hg; obtain ⟨hcz97_0, hcz97_1, hcz97_2, hcz97_3, hfz97_0, hfz97_1, hfz97_2, hfz97_3⟩ := Go.Proofs.YtodbnnfiadcbaaaH.cells4 BK719.out; obtain ⟨Ao98, co98, eo98⟩ := Kd.V_slice HO716.out; subst eo98) | ((with_reducible refine gate_callee (f := 18) rfl ?_); refine goesL_ (some 14) rfl rfl Try.func18 (by kernel_rfl) rfl #[.slice Ao94 t708.length co94, .agg #[.int .i64 1, .int .i64 0, .int .i64 0, .slice none 0 0]] rfl (by (simp only [List.map_toArray, List.map_cons, List.map_nil]); rfl) ?_; (refine (expr_Text.calls k _ _ t708 1 0 0 _ _ ([] : List (S28)) t720 _ ?side1 ?side2 ?side3 ?side4 A3.out).mono ?_); (case side1 => refine (Kd.R_reads' (e := 56) (base := w.heap.size) (ok := fun k_ => True) (n := t708.length) (c := co94) ?_).2.2; exact (by exact (Kd.R_mono (Kd.R_far (p := ⟨gb719, 3, none⟩) (Kd.R_far (p := ⟨gb719, 2, none⟩) (Kd.R_far (p := ⟨gb719, 1, none⟩) (Kd.R_far (p := ⟨gb719, 0, none⟩) (Kd.R_types HO710.out BK719.out (by decide)) (fun _ hk => hk.2) (.int .i64 t711)) (fun _ hk => hk.2) (.int .i64 t712)) (fun _ hk => hk.2) (.int .i64 t713)) (fun _ hk => hk.2) (.slice Ao98 t714.length co98)) (fun _ h_ => h_.1)))); (case side2 => exact (Kd.R_reads' HO710.out).2.1); (case side3 => exact Kd.C_nil _ _); (case side4 => exact Nat.le_refl _); rintro e w99 ⟨rfl, hb⟩; refine ⟨_, rfl, ?_⟩; have n0_ := Aside0.mk (Kd.R_below (by exact (Kd.R_mono (Kd.R_far (p := ⟨gb719, 3, none⟩) (Kd.R_far (p := ⟨gb719, 2, none⟩) (Kd.R_far (p := ⟨gb719, 1, none⟩) (Kd.R_far (p := ⟨gb719, 0, none⟩) (Kd.R_types HO710.out BK719.out (by decide)) (fun _ hk => hk.2) (.int .i64 t711)) (fun _ hk => hk.2) (.int .i64 t712)) (fun _ hk => hk.2) (.int .i64 t713)) (fun _ hk => hk.2) (.slice Ao98 t714.length co98)) (fun _ h_ => h_.1))) hb); have n1_ := Aside0.mk (Kd.V_below (by exact (Kd.V_mono (Kd.V_far (p := ⟨gb719, 3, none⟩) (Kd.V_far (p := ⟨gb719, 2, none⟩) (Kd.V_far (p := ⟨gb719, 1, none⟩) (Kd.V_far (p := ⟨gb719, 0, none⟩) (Kd.V_mono HO716.out (fun k_ hk => (⟨hk, hk.2⟩ : _ ∧ k_ ≠ gb719))) (fun _ hk => hk.2) (.int .i64 t711)) (fun _ hk => hk.2) (.int .i64 t712)) (fun _ hk => hk.2) (.int .i64 t713)) (fun _ hk => hk.2) (.slice Ao98 t714.length co98)) (fun _ h_ => h_.1))) hb); have n2_ := Aside0.mk (blk_below (g := gb719) (o := .cells #[.int .i64 t711, .int .i64 t712, .int .i64 t713, .slice Ao98 t714.length co98] 28 (0, 0)) (by refine blk_put (cs := #[.int .i64 t711, .int .i64 t712, .int .i64 t713, .slice none 0 0]) ?_ 3 _ rfl; refine blk_put (cs := #[.int .i64 t711, .int .i64 t712, .int .i64 0, .slice none 0 0]) ?_ 2 _ rfl; refine blk_put (cs := #[.int .i64 t711, .int .i64 0, .int .i64 0, .slice none 0 0]) ?_ 1 _ rfl; refine blk_put (cs := #[.int .i64 0, .int .i64 0, .int .i64 0, .slice none 0 0]) ?_ 0 _ rfl; exact BK719.out) hb); have n3_ := Aside0.mk (below_step (by repeat ((with_reducible first | exact HB.out | refine below_set ?_ GE719.out))) hb); clear HO710 HO716 BK719 HB; have HO710 := n0_; have HO716 := n1_; have BK719 := n2_; have HB := n3_; clear n0_ n1_ n2_ n3_ hb; obtain ⟨hcz100_0, hcz100_1, hcz100_2, hcz100_3, hfz100_0, hfz100_1, hfz100_2, hfz100_3⟩ := Go.Proofs.YtodbnnfiadcbaaaH.cells4 BK719.out))
        go_ret
        exact ⟨by rfl, by with_reducible exact HB.out⟩
    · rw [if_neg c5] at H
      have c5b0 : (t718 == 0) = false := beq_eq_false_iff_ne.mpr c5
      have c5b1 : (t718 != 0) = true := bne_iff_ne.mpr c5
      obtain rfl := Option.some.inj H
      go_enter Try.func13, Try.ntmps13
      go_wp2_with (first | ((with_reducible refine gate_callee (f := 14) rfl ?_); refine goesL_ (some 5) rfl rfl Try.func14 (by kernel_rfl) rfl #[.int .i64 0, .slice none 0 0] rfl (by (simp only [List.map_toArray, List.map_cons, List.map_nil]); rfl) ?_; (refine (canopylaw1_Syms.calls 0 _ _ ([] : List Int) t708 _ ?side1 ?side2 A1.out).mono ?_); (case side1 => exact Kd.C_nil _ _); (case side2 => exact Nat.le_refl _); rintro e w101 ⟨v709, rfl, ho0, hb⟩; refine ⟨_, rfl, ?_⟩; have n0_ := Aside0.mk (Kd.R_lower ho0 (below_size HB.out)); have n1_ := Aside0.mk (below_step HB.out hb); clear HB; have HO710 := n0_; have HB := n1_; clear n0_ n1_ hb ho0; obtain ⟨Ao102, co102, eo102⟩ := Kd.R_slice HO710.out; subst eo102) | ((with_reducible refine gate_callee (f := 19) rfl ?_); refine goesL_ (some 8) rfl rfl Try.func19 (by kernel_rfl) rfl #[.slice Ao102 t708.length co102, .string (⟨#[60, 97, 91, 98, 42, 93, 97, 62, 124, 49]⟩ : ByteArray)] rfl (by (simp only [List.map_toArray, List.map_cons, List.map_nil]); rfl) ?_; (with_reducible refine (expr_Parse.calls k _ _ t708 (⟨#[60, 97, 91, 98, 42, 93, 97, 62, 124, 49]⟩ : ByteArray) t711 t712 t713 t714 t717 t718 _ ?side1 ?side2 A2.out).mono ?_); (case side1 => repeat (exact (Kd.R_reads' HO710.out).2.2)); (case side2 => exact (Kd.R_reads' HO710.out).2.1); rintro e w103 ⟨v715, rfl, ho0, hb⟩; refine ⟨_, rfl, ?_⟩; have n0_ := Aside0.mk (Kd.R_below HO710.out hb); have n1_ := Aside0.mk (Kd.V_lower (Kd.V_mono (ok' := fun k_ => some k_ ≠ (.slice Ao102 t708.length co102 : Value).ownBlock) ho0 (fun k_ hk_ => (Kd.fresh' (Kd.R_lt HO710.out) k_ hk_))) (below_size HB.out)); have n2_ := Aside0.mk (below_step HB.out hb); clear HO710 HB; have HO710 := n0_; have HO716 := n1_; have HB := n2_; clear n0_ n1_ n2_ hb ho0) | ((with_reducible refine gate_dst (N := 2) rfl ?_); refine box_event ?hg (N := 2) ?hd (cs := #[.int .i64 0, .int .i64 0, .int .i64 0, .slice none 0 0]) (t := 28) ?hr ?_; (case hd => rfl); (case hg => rfl); (case hr => (go_simp; done)); intro gb719 hg w104 hbox hb; have n0_ := Aside0.mk (Kd.R_below HO710.out hb); have n1_ := Aside0.mk (Kd.V_below (Kd.V_elderB HO716.out gb719 (Nat.le_of_eq hg.symm)) hb); have n2_ := Aside0.mk (below_step HB.out hb); have n3_ := Aside0.mk (hbox); have n4_ := Aside0.mk ((by rw [hg]; exact (below_size HB.out) : w.heap.size ≤ gb719)); have n5_ := Aside0.mk ((by rw [hg]; exact (below_size HB.out) : w.heap.size ≤ gb719)); clear HO710 HO716 HB; have HO710 := n0_; have HO716 := n1_; have HB := n2_; have BK719 := n3_; have GW719 := n4_; have GE719 := n5_; clear n0_ n1_ n2_ n3_ n4_ n5_ hb hbox hg; obtain ⟨hcz105_0, hcz105_1, hcz105_2, hcz105_3, hfz105_0, hfz105_1, hfz105_2, hfz105_3⟩ := Go.Proofs.YtodbnnfiadcbaaaH.cells4 BK719.out; obtain ⟨Ao106, co106, eo106⟩ := Kd.V_slice HO716.out; subst eo106) | ((with_reducible refine gate_callee (f := 18) rfl ?_); refine goesL_ (some 14) rfl rfl Try.func18 (by kernel_rfl) rfl #[.slice Ao102 t708.length co102, .agg #[.int .i64 1, .int .i64 0, .int .i64 0, .slice none 0 0]] rfl (by (simp only [List.map_toArray, List.map_cons, List.map_nil]); rfl) ?_; (refine (expr_Text.calls k _ _ t708 1 0 0 _ _ ([] : List (S28)) t720 _ ?side1 ?side2 ?side3 ?side4 A3.out).mono ?_); (case side1 => refine (Kd.R_reads' (e := 56) (base := w.heap.size) (ok := fun k_ => True) (n := t708.length) (c := co102) ?_).2.2; exact (by exact (Kd.R_mono (Kd.R_far (p := ⟨gb719, 3, none⟩) (Kd.R_far (p := ⟨gb719, 2, none⟩) (Kd.R_far (p := ⟨gb719, 1, none⟩) (Kd.R_far (p := ⟨gb719, 0, none⟩) (Kd.R_types HO710.out BK719.out (by decide)) (fun _ hk => hk.2) (.int .i64 t711)) (fun _ hk => hk.2) (.int .i64 t712)) (fun _ hk => hk.2) (.int .i64 t713)) (fun _ hk => hk.2) (.slice Ao106 t714.length co106)) (fun _ h_ => h_.1)))); (case side2 => exact (Kd.R_reads' HO710.out).2.1); (case side3 => exact Kd.C_nil _ _); (case side4 => exact Nat.le_refl _); rintro e w107 ⟨rfl, hb⟩; refine ⟨_, rfl, ?_⟩; have n0_ := Aside0.mk (Kd.R_below (by exact (Kd.R_mono (Kd.R_far (p := ⟨gb719, 3, none⟩) (Kd.R_far (p := ⟨gb719, 2, none⟩) (Kd.R_far (p := ⟨gb719, 1, none⟩) (Kd.R_far (p := ⟨gb719, 0, none⟩) (Kd.R_types HO710.out BK719.out (by decide)) (fun _ hk => hk.2) (.int .i64 t711)) (fun _ hk => hk.2) (.int .i64 t712)) (fun _ hk => hk.2) (.int .i64 t713)) (fun _ hk => hk.2) (.slice Ao106 t714.length co106)) (fun _ h_ => h_.1))) hb); have n1_ := Aside0.mk (Kd.V_below (by exact (Kd.V_mono (Kd.V_far (p := ⟨gb719, 3, none⟩) (Kd.V_far (p := ⟨gb719, 2, none⟩) (Kd.V_far (p := ⟨gb719, 1, none⟩) (Kd.V_far (p := ⟨gb719, 0, none⟩) (Kd.V_mono HO716.out (fun k_ hk => (⟨hk, hk.2⟩ : _ ∧ k_ ≠ gb719))) (fun _ hk => hk.2) (.int .i64 t711)) (fun _ hk => hk.2) (.int .i64 t712)) (fun _ hk => hk.2) (.int .i64 t713)) (fun _ hk => hk.2) (.slice Ao106 t714.length co106)) (fun _ h_ => h_.1))) hb); have n2_ := Aside0.mk (blk_below (g := gb719) (o := .cells #[.int .i64 t711, .int .i64 t712, .int .i64 t713, .slice Ao106 t714.length co106] 28 (0, 0)) (by refine blk_put (cs := #[.int .i64 t711, .int .i64 t712, .int .i64 t713, .slice none 0 0]) ?_ 3 _ rfl; refine blk_put (cs := #[.int .i64 t711, .int .i64 t712, .int .i64 0, .slice none 0 0]) ?_ 2 _ rfl; refine blk_put (cs := #[.int .i64 t711, .int .i64 0, .int .i64 0, .slice none 0 0]) ?_ 1 _ rfl; refine blk_put (cs := #[.int .i64 0, .int .i64 0, .int .i64 0, .slice none 0 0]) ?_ 0 _ rfl; exact BK719.out) hb); have n3_ := Aside0.mk (below_step (by repeat ((with_reducible first | exact HB.out | refine below_set ?_ GE719.out))) hb); clear HO710 HO716 BK719 HB; have HO710 := n0_; have HO716 := n1_; have BK719 := n2_; have HB := n3_; clear n0_ n1_ n2_ n3_ hb))
      go_ret
      exact ⟨by rfl, by with_reducible exact HB.out⟩
  · rw [if_neg c4] at H
    have c4b0 : (t720.toList == ([48] : List UInt8)) = false := beq_eq_false_iff_ne.mpr c4
    have c4b1 : (t720.toList != ([48] : List UInt8)) = true := bne_iff_ne.mpr c4
    obtain rfl := Option.some.inj H
    go_enter Try.func13, Try.ntmps13
    go_wp2_with (first | ((with_reducible refine gate_callee (f := 14) rfl ?_); refine goesL_ (some 5) rfl rfl Try.func14 (by kernel_rfl) rfl #[.int .i64 0, .slice none 0 0] rfl (by (simp only [List.map_toArray, List.map_cons, List.map_nil]); rfl) ?_; (refine (canopylaw1_Syms.calls 0 _ _ ([] : List Int) t708 _ ?side1 ?side2 A1.out).mono ?_); (case side1 => exact Kd.C_nil _ _); (case side2 => exact Nat.le_refl _); rintro e w108 ⟨v709, rfl, ho0, hb⟩; refine ⟨_, rfl, ?_⟩; have n0_ := Aside0.mk (Kd.R_lower ho0 (below_size HB.out)); have n1_ := Aside0.mk (below_step HB.out hb); clear HB; have HO710 := n0_; have HB := n1_; clear n0_ n1_ hb ho0; obtain ⟨Ao109, co109, eo109⟩ := Kd.R_slice HO710.out; subst eo109) | ((with_reducible refine gate_callee (f := 19) rfl ?_); refine goesL_ (some 8) rfl rfl Try.func19 (by kernel_rfl) rfl #[.slice Ao109 t708.length co109, .string (⟨#[60, 97, 91, 98, 42, 93, 97, 62, 124, 49]⟩ : ByteArray)] rfl (by (simp only [List.map_toArray, List.map_cons, List.map_nil]); rfl) ?_; (with_reducible refine (expr_Parse.calls k _ _ t708 (⟨#[60, 97, 91, 98, 42, 93, 97, 62, 124, 49]⟩ : ByteArray) t711 t712 t713 t714 t717 t718 _ ?side1 ?side2 A2.out).mono ?_); (case side1 => repeat (exact (Kd.R_reads' HO710.out).2.2)); (case side2 => exact (Kd.R_reads' HO710.out).2.1); rintro e w110 ⟨v715, rfl, ho0, hb⟩; refine ⟨_, rfl, ?_⟩; have n0_ := Aside0.mk (Kd.R_below HO710.out hb); have n1_ := Aside0.mk (Kd.V_lower (Kd.V_mono (ok' := fun k_ => some k_ ≠ (.slice Ao109 t708.length co109 : Value).ownBlock) ho0 (fun k_ hk_ => (Kd.fresh' (Kd.R_lt HO710.out) k_ hk_))) (below_size HB.out)); have n2_ := Aside0.mk (below_step HB.out hb); clear HO710 HB; have HO710 := n0_; have HO716 := n1_; have HB := n2_; clear n0_ n1_ n2_ hb ho0) | ((with_reducible refine gate_dst (N := 2) rfl ?_); refine box_event ?hg (N := 2) ?hd (cs := #[.int .i64 0, .int .i64 0, .int .i64 0, .slice none 0 0]) (t := 28) ?hr ?_; (case hd => rfl); (case hg => rfl); (case hr => (go_simp; done)); intro gb719 hg w111 hbox hb; have n0_ := Aside0.mk (Kd.R_below HO710.out hb); have n1_ := Aside0.mk (Kd.V_below (Kd.V_elderB HO716.out gb719 (Nat.le_of_eq hg.symm)) hb); have n2_ := Aside0.mk (below_step HB.out hb); have n3_ := Aside0.mk (hbox); have n4_ := Aside0.mk ((by rw [hg]; exact (below_size HB.out) : w.heap.size ≤ gb719)); have n5_ := Aside0.mk ((by rw [hg]; exact (below_size HB.out) : w.heap.size ≤ gb719)); clear HO710 HO716 HB; have HO710 := n0_; have HO716 := n1_; have HB := n2_; have BK719 := n3_; have GW719 := n4_; have GE719 := n5_; clear n0_ n1_ n2_ n3_ n4_ n5_ hb hbox hg; obtain ⟨hcz112_0, hcz112_1, hcz112_2, hcz112_3, hfz112_0, hfz112_1, hfz112_2, hfz112_3⟩ := Go.Proofs.YtodbnnfiadcbaaaH.cells4 BK719.out; obtain ⟨Ao113, co113, eo113⟩ := Kd.V_slice HO716.out; subst eo113) | ((with_reducible refine gate_callee (f := 18) rfl ?_); refine goesL_ (some 14) rfl rfl Try.func18 (by kernel_rfl) rfl #[.slice Ao109 t708.length co109, .agg #[.int .i64 1, .int .i64 0, .int .i64 0, .slice none 0 0]] rfl (by (simp only [List.map_toArray, List.map_cons, List.map_nil]); rfl) ?_; (refine (expr_Text.calls k _ _ t708 1 0 0 _ _ ([] : List (S28)) t720 _ ?side1 ?side2 ?side3 ?side4 A3.out).mono ?_); (case side1 => refine (Kd.R_reads' (e := 56) (base := w.heap.size) (ok := fun k_ => True) (n := t708.length) (c := co109) ?_).2.2; exact (by exact (Kd.R_mono (Kd.R_far (p := ⟨gb719, 3, none⟩) (Kd.R_far (p := ⟨gb719, 2, none⟩) (Kd.R_far (p := ⟨gb719, 1, none⟩) (Kd.R_far (p := ⟨gb719, 0, none⟩) (Kd.R_types HO710.out BK719.out (by decide)) (fun _ hk => hk.2) (.int .i64 t711)) (fun _ hk => hk.2) (.int .i64 t712)) (fun _ hk => hk.2) (.int .i64 t713)) (fun _ hk => hk.2) (.slice Ao113 t714.length co113)) (fun _ h_ => h_.1)))); (case side2 => exact (Kd.R_reads' HO710.out).2.1); (case side3 => exact Kd.C_nil _ _); (case side4 => exact Nat.le_refl _); rintro e w114 ⟨rfl, hb⟩; refine ⟨_, rfl, ?_⟩; have n0_ := Aside0.mk (Kd.R_below (by exact (Kd.R_mono (Kd.R_far (p := ⟨gb719, 3, none⟩) (Kd.R_far (p := ⟨gb719, 2, none⟩) (Kd.R_far (p := ⟨gb719, 1, none⟩) (Kd.R_far (p := ⟨gb719, 0, none⟩) (Kd.R_types HO710.out BK719.out (by decide)) (fun _ hk => hk.2) (.int .i64 t711)) (fun _ hk => hk.2) (.int .i64 t712)) (fun _ hk => hk.2) (.int .i64 t713)) (fun _ hk => hk.2) (.slice Ao113 t714.length co113)) (fun _ h_ => h_.1))) hb); have n1_ := Aside0.mk (Kd.V_below (by exact (Kd.V_mono (Kd.V_far (p := ⟨gb719, 3, none⟩) (Kd.V_far (p := ⟨gb719, 2, none⟩) (Kd.V_far (p := ⟨gb719, 1, none⟩) (Kd.V_far (p := ⟨gb719, 0, none⟩) (Kd.V_mono HO716.out (fun k_ hk => (⟨hk, hk.2⟩ : _ ∧ k_ ≠ gb719))) (fun _ hk => hk.2) (.int .i64 t711)) (fun _ hk => hk.2) (.int .i64 t712)) (fun _ hk => hk.2) (.int .i64 t713)) (fun _ hk => hk.2) (.slice Ao113 t714.length co113)) (fun _ h_ => h_.1))) hb); have n2_ := Aside0.mk (blk_below (g := gb719) (o := .cells #[.int .i64 t711, .int .i64 t712, .int .i64 t713, .slice Ao113 t714.length co113] 28 (0, 0)) (by refine blk_put (cs := #[.int .i64 t711, .int .i64 t712, .int .i64 t713, .slice none 0 0]) ?_ 3 _ rfl; refine blk_put (cs := #[.int .i64 t711, .int .i64 t712, .int .i64 0, .slice none 0 0]) ?_ 2 _ rfl; refine blk_put (cs := #[.int .i64 t711, .int .i64 0, .int .i64 0, .slice none 0 0]) ?_ 1 _ rfl; refine blk_put (cs := #[.int .i64 0, .int .i64 0, .int .i64 0, .slice none 0 0]) ?_ 0 _ rfl; exact BK719.out) hb); have n3_ := Aside0.mk (below_step (by repeat ((with_reducible first | exact HB.out | refine below_set ?_ GE719.out))) hb); clear HO710 HO716 BK719 HB; have HO710 := n0_; have HO716 := n1_; have BK719 := n2_; have HB := n3_; clear n0_ n1_ n2_ n3_ hb))
    go_ret
    exact ⟨by rfl, by with_reducible exact HB.out⟩

end Go.Proofs.Ytodbnnfiadcbaaa.P
namespace Go.Proofs.YtodbnnfiadcbaaaL
open Go.RowKit Go.Proofs.Ytodbnnfiadcbaaa.P Go.Proofs.YtodbnnfiadcbaaaW.PrintWords Go.Proofs.YtodbnnfiadcbaaaW.PrintLast Go.Proofs.YtodbnnfiadcbaaaW.PrintMore
theorem known_true : canopylaw5_known.f 60 = some true := by kernel_rfl
theorem known_up : ∀ n, canopylaw5_known.f (60 + n) = some true
  | 0 => known_true
  | n + 1 => canopylaw5_known.mono (60 + n) true (known_up n)
theorem known_ev : Ev (fun k => canopylaw5_known.f k) true := Ev.of canopylaw5_known.mono known_true
end Go.Proofs.YtodbnnfiadcbaaaL
namespace Go.Proofs.Ytodbnnfiadcbaaa.P
open Go.RowKit Go.Proofs.YtodbnnfiadcbaaaW.PrintWords Go.Proofs.YtodbnnfiadcbaaaW.PrintLast Go.Proofs.YtodbnnfiadcbaaaW.PrintMore
attribute [local go_sem] max2_int min2_int max_two min_two max_three min_three max_four min_four   -- for this text's walks alone
set_option linter.unusedVariables false
set_option linter.unusedSimpArgs false

/-! ### canopylaw5_within: function 22 -/
def canopylaw5_within.f (a0 : Int) (a1 : Int) : Option (Int) := if a1 = 0 then (none) else (if (Int.tmod a0 a1) < 0 then (some (wrap64 ((Int.tmod a0 a1) + a1))) else (some (Int.tmod a0 a1)))
set_option maxHeartbeats 8000000 in
set_option maxRecDepth 100000 in
theorem canopylaw5_within.calls (a0 : Int) (a1 : Int) (r : Int) (w : World) (h : canopylaw5_within.f a0 a1 = some r) :
    Calls Try.prog 22 #[.int .i64 a0, .int .i64 a1] w fun e w' => e = .returned (.int .i64 r) ∧ w = w' := by
  have H : (if a1 = 0 then (none) else (if (Int.tmod a0 a1) < 0 then (some (wrap64 ((Int.tmod a0 a1) + a1))) else (some (Int.tmod a0 a1)))) = some r := h
  clear h
  by_cases c3 : a1 = 0
  · rw [if_pos c3] at H
    exact absurd H (by simp)
  · rw [if_neg c3] at H
    have c3b0 : (a1 == 0) = false := beq_eq_false_iff_ne.mpr c3
    have c3b1 : (a1 != 0) = true := bne_iff_ne.mpr c3
    by_cases c4 : (Int.tmod a0 a1) < 0
    · rw [if_pos c4] at H
      have c4b0 : decide ((Int.tmod a0 a1) < 0) = true := decide_eq_true c4
      clear c4
      obtain rfl := Option.some.inj H
      go_enter Try.func22, Try.ntmps22
      go_wp2
      go_ret
      exact ⟨by first | rfl | (simp; done) | (simp [*]; done), rfl⟩
    · rw [if_neg c4] at H
      have c4b0 : decide ((Int.tmod a0 a1) < 0) = false := decide_eq_false c4
      clear c4
      obtain rfl := Option.some.inj H
      go_enter Try.func22, Try.ntmps22
      go_wp2
      go_ret
      exact ⟨by first | rfl | (simp; done) | (simp [*]; done), rfl⟩

end Go.Proofs.Ytodbnnfiadcbaaa.P
namespace Go.Proofs.YtodbnnfiadcbaaaL
open Go.RowKit Go.Proofs.Ytodbnnfiadcbaaa.P Go.Proofs.YtodbnnfiadcbaaaW.PrintWords Go.Proofs.YtodbnnfiadcbaaaW.PrintLast Go.Proofs.YtodbnnfiadcbaaaW.PrintMore
theorem within_eq (a n : Int) (h0 : 0 < n) (h1 : n ≤ 1000000) : canopylaw5_within.f a n = some (a % n) := by
  unfold canopylaw5_within.f
  rw [if_neg (by omega)]
  have e : Int.tmod a n = if a % n = 0 then 0 else if 0 ≤ a then a % n else a % n - n := by
    rw [Int.tmod_eq_emod]
    have : n.natAbs = n := by omega
    by_cases hz : a % n = 0
    · have : n ∣ a := Int.dvd_of_emod_eq_zero hz
      simp [hz, this]
    · have : ¬ n ∣ a := fun h => hz (Int.emod_eq_zero_of_dvd h)
      by_cases ha : 0 ≤ a
      · simp [hz, ha]
      · simp only [hz, ha, this, or_self, if_false]
        omega
  have a0 := Int.emod_nonneg a (show n ≠ 0 by omega)
  have a1 := Int.emod_lt_of_pos a h0
  rw [e]
  split
  · rename_i h; rw [if_neg (by omega), h]
  · split
    · rw [if_neg (by omega)]
    · rw [if_pos (by omega)]
      congr 1
      unfold wrap64
      omega
end Go.Proofs.YtodbnnfiadcbaaaL

/- WordMatches holds: of any word the partners, how deep it is, whether it is whole, are told by the program as by the reference; no condition beside the row's own. -/
import Derived.Test.YtiibfkjfanglbaaPx33
import Derived.Test.YtiibfkjfanglbaaWordMatch
import Derived.Test.YtiibfkjfanglbaaWordKnownTrue
namespace Go.Proofs.Ytiibfkjfanglbaa.Pure
open Go.RowKit Go.Proofs.Ytiibfkjfanglbaa.P Go.Proofs.YtiibfkjfanglbaaW.PrintWords Go.Proofs.YtiibfkjfanglbaaW.PrintLast Go.Proofs.YtiibfkjfanglbaaW.PrintMore Go.Proofs.YtiibfkjfanglbaaL
theorem WordMatches : canopylaw1_WordMatches.Pure := by
  intro n ns _ _ _ _
  obtain ⟨l, hl, hg⟩ := syms_good n ns
  have hlen := good_len hg
  have hf := wordOf_fit l hlen.1 ns 60
  have hw := wordOf_len l ns 60
  refine Ev.rounds (r := true) ?_
  unfold canopylaw1_WordMatches.f
  refine Ev.bind known_ev ?_
  simp only [if_true, hl, Option.bind_some]
  refine Ev.bind (word_ev l hlen.1 (by omega) ns 60 (by omega)) ?_
  refine Ev.bind (pmatch_ev l _ hf (by omega)) ?_
  refine Ev.bind (rmatch_ev l _ hf (by omega)) ?_
  refine Ev.bind (ints_ev _ _ (by rw [mrow_len, kds_len]; simp; omega)) ?_
  simp only [decide_true, if_true]
  refine Ev.bind (pdeep_ev l _ hf (by omega)) ?_
  refine Ev.bind (rdeep_ev l _ hf (by omega)) ?_
  simp only [if_true]
  refine Ev.bind (pwhole_ev l hg _ hf (by omega)) ?_
  refine Ev.bind (rwhole_ev l _ hf (by omega)) ?_
  exact ev_all fun _ => by simp
end Go.Proofs.Ytiibfkjfanglbaa.Pure

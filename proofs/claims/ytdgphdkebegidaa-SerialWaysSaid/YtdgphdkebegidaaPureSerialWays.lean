import Derived.Test.YtdgphdkebegidaaPx1
import Derived.Test.YtdgphdkebegidaaAri
namespace Go.Proofs.Ytdgphdkebegidaa.Pure
open Go.RowKit Go.Proofs.Ytdgphdkebegidaa.P Go.Proofs.YtdgphdkebegidaaW.PrintWords Go.Proofs.YtdgphdkebegidaaW.PrintLast

theorem SerialWays : cuneiformlaw10_SerialWays.Pure := by
  intro a b n ha hb hn
  have ha := u32_of ha
  have hb := u32_of hb
  have hn := i64_of hn
  unfold cuneiformlaw10_SerialWays.f
  simp only [known_true, Way_eq, rWay_eq a b ha hb, Add_eq, rAdd_eq a n ha hn, After_eq, rAfter_eq a b ha hb, rAfter_eq b a hb ha, Diff_eq, rDiff_eq a b ha hb, Option.bind_some, if_true, beq_self_eq_true]
  have h1 : (b + sd a b % 4294967296) % 4294967296 = a := by unfold sd; split <;> omega
  have h2 : ((a + 7 % 4294967296) % 4294967296 - a) % 4294967296 = 7 := by omega
  rw [h1, h2]
  simp

end Go.Proofs.Ytdgphdkebegidaa.Pure

/- The stock's laws: whether stocks speak at all. -/
import Derived.Test.YthlpfafmiakfdaaDoorPstkg
namespace Go.Proofs.YthlpfafmiakfdaaDoor.E
set_option linter.unusedSimpArgs false
set_option linter.unusedVariables false
open Go
set_option maxRecDepth 100000
def sp0 : Cnf := ⟨1, 2, 1, 0, [16]⟩
theorem sp0_ok : sp0.Ok := ⟨⟨by decide, by decide, by decide, by decide, by decide, by decide, by decide, by decide⟩, by decide, by decide, by decide⟩
def ps0 : PS := ⟨[], 0, 0, []⟩
def ps1 : PS := ⟨[(0, 0)], 1, 1, [((0, 0), (), 0)]⟩
def ps3 : PS := ⟨[(0, 0), (1, 1), (1, 0)], 3, 3, [((0, 0), (), 0), ((1, 1), (), 1), ((1, 0), (), 2)]⟩
def ps4 : PS := ⟨[(0, 0), (0, 0), (0, 0)], 1, 3, [((0, 0), (), 0)]⟩
set_option maxHeartbeats 4000000 in
theorem speaks_tri : Tri En 8 [] [] (.bl true) [] := by
  have h0 := new_tri true sp0 sp0_ok 0 (by decide)
  have h1 := push_tri sp0 sp0_ok 0 rawT rawT ps0 (0, 0) (by decide) (by decide) (by decide)
  have h2 := push_tri sp0 sp0_ok 0 rawT rawT ps1 (0, 0) (by decide) (by decide) (by decide)
  rw [show pushOk sp0 0 ps0 (0, 0) = true by decide, show pushS sp0 0 ps0 (0, 0) = ps1 by rfl] at h1
  rw [show pushOk sp0 0 ps1 (0, 0) = false by decide, show pushS sp0 0 ps1 (0, 0) = ps1 by rfl] at h2
  have h3 := low_tri 2
  rw [show lowN 2 = 3 by decide] at h3
  have h4 := fill_tri sp0 sp0_ok 0 rawT rawT ps1 1 3 (by decide) (by decide) (by decide) (by decide)
  rw [show fillS sp0 0 ps1 1 (intsL (bitsL 3)) = ps3 by rfl] at h4
  have h5 := spill_yes sp0 sp0_ok 0 (by decide) rawT rawT ps3 1 (by decide) (by decide) (by decide) ⟨by decide, fun y hy => by
    obtain ⟨b, hb, rfl⟩ := numB_pos.1 hy
    revert hb
    have : ∀ b ∈ ps3.zs.take ps3.m, numB (ps3.zs.take ps3.m) b.1 < numB (ps3.zs.take ps3.m) 1 ∨ (numB (ps3.zs.take ps3.m) b.1 = numB (ps3.zs.take ps3.m) 1 ∧ 1 ≤ b.1) := by decide
    exact this b⟩ (by decide)
  rw [show spillM ps3 1 = 3 by rfl, show spillS ps3 1 = ps4 by rfl] at h5
  have h6 := pop_some sp0 0 rawT rawT ps4.zs 0 ps4.cl ps4.es (0, 0) (by decide) (by decide) (by decide) (by decide) rfl
  have h7 := slen_tri sp0 0 rawT rawT ps4.zs 0 ps4.cl [] (by decide) (by decide)
  rw [show mdel (kk := BlkK) ((0, 0) : Blk) ps4.es = [] by rfl] at h6
  refine Tri.of Tryd.func8 rfl Tryd.call8 rfl ?_
  refine Goods.fin 2000 [.c (.of h0), .c (.of h1), .c (.of h2), .c (.of h3), .c (.of h4), .c (.of h5), .c (.of h6), .s 44 (some true) true true, .s 48 (some true) true true, .s 56 (some true) true true, .c (.of h7), .s 61 (some true) true true] mixed Tryd.func8 ?_
  show Yes _
  repeat' apply And.intro
  (all_goals first | rfl | assumption | trivial | omega | (simp [-List.getD_eq_getElem?_getD] <;> omega) | (simp (disch := omega) only [w64, wu64] <;> omega) | (simp (disch := omega) [-List.getD_eq_getElem?_getD, List.getD_cons_zero, List.getD_cons_succ, kCast_self, dfl_pair, dfl_int, w64, wu64] <;> omega) | (rw [Bool.eq_iff_iff]; simp (disch := omega) [-List.getD_eq_getElem?_getD, List.getD_cons_zero, List.getD_cons_succ, kCast_self, dfl_pair, dfl_int, w64, wu64] <;> omega) | (simp_all [-List.getD_eq_getElem?_getD] <;> omega))
end Go.Proofs.YthlpfafmiakfdaaDoor.E

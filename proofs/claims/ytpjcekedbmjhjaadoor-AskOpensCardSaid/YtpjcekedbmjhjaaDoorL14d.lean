/- AskOpens: the law's contract. -/
import Derived.Test.YtpjcekedbmjhjaaDoorPhallc
namespace Go.Proofs.YtpjcekedbmjhjaaDoor.E
open Go
set_option maxRecDepth 100000

theorem speaks_tri : Tri En 4 [] [] (.bl true) [] := by
  have ok : (⟨1, 1, 1, 0, [16, 64]⟩ : Cnf).Ok := ⟨⟨by simp, by simp, by simp, by simp, by simp, by simp, by simp, by simp⟩, by simp, by simp, by simp [okL, okN]⟩
  have h1 := ask_class true ⟨1, 1, 1, 0, [16, 64]⟩ ok 17 1 ⟨by simp, by simp, by simp, fun j hj => (by have e : j = 0 := (by omega); subst e; exact (by decide : (16 : Int) < 17))⟩
  have n2 : ClsN [16, 64] 65 := .inr fun j hj => by
    match j, hj with
    | 0, _ => simp
    | 1, _ => simp
  have n3 : ClsN [16, 64] 1025 := .inr fun j hj => by
    match j, hj with
    | 0, _ => simp
    | 1, _ => simp
  have h2 := ask_run true ⟨1, 1, 1, 0, [16, 64]⟩ ok 65 n2 (by simp) (by simp)
  have h3 := ask_none true ⟨1, 1, 1, 0, [16, 64]⟩ ok 1025 n3 (by simp)
  have h4 := live_of 1
  have h5 := live_run 1
  refine Tri.of Tryd.func4 rfl Tryd.call4 rfl ?_
  refine Goods.fin 2000 [.c (.of h1), .c (.of h2), .c (.of h3), .s 29 (some true) true true, .s 32 (some true) true true, .s 36 (some true) true true, .c (.of h4), .s 41 (some true) true true, .c (.of h5)] mixed Tryd.func4 ?_
  show Yes _
  repeat' apply And.intro
  (all_goals first | rfl | assumption | trivial | omega | (simp [-List.getD_eq_getElem?_getD, runN] <;> omega) | (simp (disch := omega) only [w64, wu64] <;> omega) | (simp (disch := omega) [-List.getD_eq_getElem?_getD, List.getD_cons_zero, List.getD_cons_succ, kCast_self, dfl_pair, dfl_int, w64, wu64, runN] <;> omega) | (rw [Bool.eq_iff_iff]; simp (disch := omega) [-List.getD_eq_getElem?_getD, List.getD_cons_zero, List.getD_cons_succ, kCast_self, dfl_pair, dfl_int, w64, wu64, runN] <;> omega) | (simp_all [-List.getD_eq_getElem?_getD] <;> omega))

theorem all_none (c : Cnf) (h : c.Ok) (n : Nat) (hn : (n : Int) = c.s) (Z : Nat) (hZ1 : 1 ≤ Z) (hZ2 : Z ≤ 50000) (m : MemS) (hF : FirstW m (Z + 64 * n)) : Tri En 8 [.ptr 0 0 0] [tableC 1 2 Z c, memC 3 m, clsT c, memT m] (.slice 4 0 0) [tableC 1 2 Z c, memC 3 m, clsT c, memT m, .tab true IvK []] := by
  have s1 := h.s1
  have a1 := all_tri c h Z (by omega) m (fun _ => 0) (64 * n) (by omega) fun g hg => ⟨hF.getr (by omega) (by omega), by omega⟩
  rw [allL_none c (64 * n) fun _ _ => th_zero.1] at a1
  exact a1
noncomputable abbrev gAo (c : Cnf) : Frm := ⟨En, 3, Tryd.f3.ntmps, [.tab false (.int .i64) c.cl], .bl true, gones 1⟩
def cfgA (c : Cnf) : AObj := .cells [.int .i64 c.w, .int .i64 c.s, .int .i64 c.b, .int .i64 c.t, .slice 0 0 c.cl.length]
set_option maxHeartbeats 4000000 in
theorem ao_a (c : Cnf) (h : c.Ok) (n : Nat) (hn : (n : Int) = c.s) (Z : Nat) (hZ : 1 + 4 * c.w + 2 * n ≤ (Z : Int)) (hZ2 : Z ≤ 50000) (m : MemS) (hF : FirstW m (Z + 64 * n)) (hf : m.faults = 0) (i : Int) (hi : ¬ 0 ≤ i) (hat : Tri En 25 [.slice 0 0 (2 * n), .int .i64 i] [.tab true (.int .u64) (List.replicate (2 * n) 0)] (.tuple [supAn, .bl false]) [.tab true (.int .u64) (List.replicate (2 * n) 0)]) (op : Tri En 5 [cnfA 0 c] [.tab false (.int .i64) c.cl] (.tuple [.ptr 1 0 0, .int .i64 0]) (.tab false (.int .i64) c.cl :: shopOs 1 c n Z m)) : Tri En 3 [cnfA 0 c, .int .i64 i] [.tab false (.int .i64) c.cl] (.bl true) (gones 1) := by
  have s0 := h.s0
  have s1 := h.s1
  have w0 := h.w0
  have l1 := h.l1
  have al := all_none c h n hn Z (by omega) hZ2 m hF
  have sp := super_tri c h n hn Z hZ m hF i _ _ hat (by first | exact .inl rfl | exact .inr rfl)
  have ct := count_tri c n m
  have fm := mem_faults m
  rw [hf] at fm
  refine Tri.of Tryd.func3 rfl Tryd.call3 rfl ?_
  refine Goods.fin 2000 [.c (.of speaks_tri), .b false, .c (.of op), .c (.of (may_yes false c h)), .s 30 (some false) true true, .k 61 (.of ct), .s 62 (some false) true true, .k 69 (.of al), .s 71 (some false) true true, .s 81 (some false) true true, .c (.of sp), .s 91 (some false) true true, .k 127 (.of fm)] mixed Tryd.func3 ?_
  show Yes _
  repeat' apply And.intro
  (all_goals first | rfl | assumption | trivial | omega | (simp [-List.getD_eq_getElem?_getD] <;> omega) | (simp (disch := omega) only [w64, wu64] <;> omega) | (simp (disch := omega) [-List.getD_eq_getElem?_getD, List.getD_cons_zero, List.getD_cons_succ, kCast_self, dfl_pair, dfl_int, w64, wu64] <;> omega) | (rw [Bool.eq_iff_iff]; simp (disch := omega) [-List.getD_eq_getElem?_getD, List.getD_cons_zero, List.getD_cons_succ, kCast_self, dfl_pair, dfl_int, w64, wu64] <;> omega) | (simp_all [-List.getD_eq_getElem?_getD] <;> omega))
set_option maxHeartbeats 4000000 in
theorem ao_b (c : Cnf) (h : c.Ok) (n : Nat) (hn : (n : Int) = c.s) (Z : Nat) (hZ : 1 + 4 * c.w + 2 * n ≤ (Z : Int)) (hZ2 : Z ≤ 50000) (m : MemS) (hF : FirstW m (Z + 64 * n)) (hf : m.faults = 0) (i : Int) (h0 : 0 ≤ i) (hi : ¬ i < n) (hat : Tri En 25 [.slice 0 0 (2 * n), .int .i64 i] [.tab true (.int .u64) (List.replicate (2 * n) 0)] (.tuple [supAn, .bl false]) [.tab true (.int .u64) (List.replicate (2 * n) 0)]) (op : Tri En 5 [cnfA 0 c] [.tab false (.int .i64) c.cl] (.tuple [.ptr 1 0 0, .int .i64 0]) (.tab false (.int .i64) c.cl :: shopOs 1 c n Z m)) : Tri En 3 [cnfA 0 c, .int .i64 i] [.tab false (.int .i64) c.cl] (.bl true) (gones 1) := by
  have s0 := h.s0
  have s1 := h.s1
  have w0 := h.w0
  have l1 := h.l1
  have al := all_none c h n hn Z (by omega) hZ2 m hF
  have sp := super_tri c h n hn Z hZ m hF i _ _ hat (by first | exact .inl rfl | exact .inr rfl)
  have ct := count_tri c n m
  have fm := mem_faults m
  rw [hf] at fm
  refine Tri.of Tryd.func3 rfl Tryd.call3 rfl ?_
  refine Goods.fin 2000 [.c (.of speaks_tri), .b false, .c (.of op), .c (.of (may_yes false c h)), .s 30 (some false) true true, .k 61 (.of ct), .s 62 (some false) true true, .k 69 (.of al), .s 71 (some false) true true, .s 81 (some false) true true, .c (.of sp), .s 91 (some true) true true, .s 96 (some false) true true, .k 127 (.of fm)] mixed Tryd.func3 ?_
  show Yes _
  repeat' apply And.intro
  (all_goals first | rfl | assumption | trivial | omega | (simp [-List.getD_eq_getElem?_getD] <;> omega) | (simp (disch := omega) only [w64, wu64] <;> omega) | (simp (disch := omega) [-List.getD_eq_getElem?_getD, List.getD_cons_zero, List.getD_cons_succ, kCast_self, dfl_pair, dfl_int, w64, wu64] <;> omega) | (rw [Bool.eq_iff_iff]; simp (disch := omega) [-List.getD_eq_getElem?_getD, List.getD_cons_zero, List.getD_cons_succ, kCast_self, dfl_pair, dfl_int, w64, wu64] <;> omega) | (simp_all [-List.getD_eq_getElem?_getD] <;> omega))
set_option maxHeartbeats 4000000 in
theorem ao_c (c : Cnf) (h : c.Ok) (n : Nat) (hn : (n : Int) = c.s) (Z : Nat) (hZ : 1 + 4 * c.w + 2 * n ≤ (Z : Int)) (hZ2 : Z ≤ 50000) (m : MemS) (hF : FirstW m (Z + 64 * n)) (hf : m.faults = 0) (i : Int) (h0 : 0 ≤ i) (hi : i < n) (hat : Tri En 25 [.slice 0 0 (2 * n), .int .i64 i] [.tab true (.int .u64) (List.replicate (2 * n) 0)] (.tuple [supA0, .bl true]) [.tab true (.int .u64) (List.replicate (2 * n) 0)]) (op : Tri En 5 [cnfA 0 c] [.tab false (.int .i64) c.cl] (.tuple [.ptr 1 0 0, .int .i64 0]) (.tab false (.int .i64) c.cl :: shopOs 1 c n Z m)) : Tri En 3 [cnfA 0 c, .int .i64 i] [.tab false (.int .i64) c.cl] (.bl true) (gones 1) := by
  have s0 := h.s0
  have s1 := h.s1
  have w0 := h.w0
  have l1 := h.l1
  have al := all_none c h n hn Z (by omega) hZ2 m hF
  have sp := super_tri c h n hn Z hZ m hF i _ _ hat (by first | exact .inl rfl | exact .inr rfl)
  have ct := count_tri c n m
  have fm := mem_faults m
  rw [hf] at fm
  refine Tri.of Tryd.func3 rfl Tryd.call3 rfl ?_
  refine Goods.fin 2000 [.c (.of speaks_tri), .b false, .c (.of op), .c (.of (may_yes false c h)), .s 30 (some false) true true, .k 61 (.of ct), .s 62 (some false) true true, .k 69 (.of al), .s 71 (some false) true true, .s 81 (some false) true true, .c (.of sp), .s 91 (some true) true true, .s 96 (some true) true true, .s 108 (some true) true true, .s 113 (some true) true true, .s 118 (some true) true true, .k 127 (.of fm)] mixed Tryd.func3 ?_
  show Yes _
  repeat' apply And.intro
  (all_goals first | rfl | assumption | trivial | omega | (simp [-List.getD_eq_getElem?_getD] <;> omega) | (simp (disch := omega) only [w64, wu64] <;> omega) | (simp (disch := omega) [-List.getD_eq_getElem?_getD, List.getD_cons_zero, List.getD_cons_succ, kCast_self, dfl_pair, dfl_int, w64, wu64] <;> omega) | (rw [Bool.eq_iff_iff]; simp (disch := omega) [-List.getD_eq_getElem?_getD, List.getD_cons_zero, List.getD_cons_succ, kCast_self, dfl_pair, dfl_int, w64, wu64] <;> omega) | (simp_all [-List.getD_eq_getElem?_getD] <;> omega))
set_option maxHeartbeats 4000000 in
theorem AskOpens_tri (c : Cnf) (hcl : c.cl.length ≤ 9223372036854775807) (i : Int) : Tri En 3 [cnfA 0 c, .int .i64 i] [.tab false (.int .i64) c.cl] (.bl true) (gones 1) := by
  by_cases hl : c.cl.length ≤ 100
  · by_cases h : c.Ok
    · have s0 := h.s0
      have s1 := h.s1
      have w0 := h.w0
      obtain ⟨n, hn⟩ : ∃ n : Nat, (n : Int) = c.s := ⟨c.s.toNat, by omega⟩
      obtain ⟨Z, hZ, hZ1, hZ2⟩ := hall_sz h hn
      obtain ⟨hF, hf⟩ := first_w (Z + 64 * n) (by omega)
      have op := open_yes false c h n hn Z hZ hZ2 _ rfl
      generalize (((⟨List.replicate (Z + 64 * n) 0, 0, 0, 0, 0⟩ : MemS).acc 2 0).put 0 (refN 0 0 0 : Nat)) = m at *
      have hlen : (List.replicate (2 * n) (0 : Int)).length = 2 * n := List.length_replicate
      have hz : ∀ j, j < 2 * n → (List.replicate (2 * n) (0 : Int)).getD j 0 = ((0 : Nat) : Int) := fun j hj => by simp [List.getD, hj]
      by_cases h0 : 0 ≤ i
      · by_cases h1 : i < n
        · obtain ⟨k, rfl⟩ : ∃ k : Nat, i = k := ⟨i.toNat, by omega⟩
          exact ao_c c h n hn Z hZ1 hZ2 m hF hf _ h0 h1 (zat_0 true n (by omega) _ hlen hz k (by omega)) op
        · exact ao_b c h n hn Z hZ1 hZ2 m hF hf _ h0 h1 (zat_none true n (by omega) _ hlen i (by omega)) op
      · exact ao_a c h n hn Z hZ1 hZ2 m hF hf _ h0 (zat_none true n (by omega) _ hlen i (by omega)) op
    · have op := open_no false c hcl h
      refine Tri.of Tryd.func3 rfl Tryd.call3 rfl ?_
      refine Goods.fin 2000 [.c (.of speaks_tri), .b false, .c (.of op), .c (.of (may_no false c hcl h)), .s 24 (some true) true true] mixed Tryd.func3 ?_
      show Yes _
      repeat' apply And.intro
      (all_goals first | rfl | assumption | trivial | omega | (simp [-List.getD_eq_getElem?_getD] <;> omega) | (simp (disch := omega) only [w64, wu64] <;> omega) | (simp (disch := omega) [-List.getD_eq_getElem?_getD, List.getD_cons_zero, List.getD_cons_succ, kCast_self, dfl_pair, dfl_int, w64, wu64] <;> omega) | (rw [Bool.eq_iff_iff]; simp (disch := omega) [-List.getD_eq_getElem?_getD, List.getD_cons_zero, List.getD_cons_succ, kCast_self, dfl_pair, dfl_int, w64, wu64] <;> omega) | (simp_all [-List.getD_eq_getElem?_getD] <;> omega))
  · refine Tri.of Tryd.func3 rfl Tryd.call3 rfl ?_
    refine Goods.fin 2000 [.c (.of speaks_tri), .b true] mixed Tryd.func3 ?_
    show Yes _
    repeat' apply And.intro
    (all_goals first | rfl | assumption | trivial | omega | (simp [-List.getD_eq_getElem?_getD] <;> omega) | (simp (disch := omega) only [w64, wu64] <;> omega) | (simp (disch := omega) [-List.getD_eq_getElem?_getD, List.getD_cons_zero, List.getD_cons_succ, kCast_self, dfl_pair, dfl_int, w64, wu64] <;> omega) | (rw [Bool.eq_iff_iff]; simp (disch := omega) [-List.getD_eq_getElem?_getD, List.getD_cons_zero, List.getD_cons_succ, kCast_self, dfl_pair, dfl_int, w64, wu64] <;> omega) | (simp_all [-List.getD_eq_getElem?_getD] <;> omega))
theorem AskOpens_law (d : dats ([(true, (.pair (.int .i64) (.pair (.int .i64) (.pair (.int .i64) (.pair (.int .i64) (.pair (.slice (.int .i64)) .unit)))))), (false, (.int .i64))] : List (Bool × Sh))) (hd : datsOk ([(true, (.pair (.int .i64) (.pair (.int .i64) (.pair (.int .i64) (.pair (.int .i64) (.pair (.slice (.int .i64)) .unit)))))), (false, (.int .i64))] : List (Bool × Sh)) d) : Tri En 3 (argsOf ([(true, (.pair (.int .i64) (.pair (.int .i64) (.pair (.int .i64) (.pair (.int .i64) (.pair (.slice (.int .i64)) .unit)))))), (false, (.int .i64))] : List (Bool × Sh)) d 0) (objsOf ([(true, (.pair (.int .i64) (.pair (.int .i64) (.pair (.int .i64) (.pair (.int .i64) (.pair (.slice (.int .i64)) .unit)))))), (false, (.int .i64))] : List (Bool × Sh)) d) (.bl true) (gones (cnts ([(true, (.pair (.int .i64) (.pair (.int .i64) (.pair (.int .i64) (.pair (.int .i64) (.pair (.slice (.int .i64)) .unit)))))), (false, (.int .i64))] : List (Bool × Sh)))) := by
  obtain ⟨⟨w, s, b, t, cl, _⟩, i, _⟩ := d
  obtain ⟨⟨h0, h1, h2, h3, ⟨h4, _⟩, _⟩, h5, _⟩ := hd
  exact AskOpens_tri ⟨w, s, b, t, cl⟩ (maxLen_le h4) i
end Go.Proofs.YtpjcekedbmjhjaaDoor.E

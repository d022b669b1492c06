/- MemDoes, MemOne: the laws' contracts. -/
import Derived.Test.YtlmoifbklpflaaaL03a
namespace Go.Proofs.Ytlmoifbklpflaaa.E
open Go
set_option maxRecDepth 100000

theorem speaks_tri : Tri En 9 [] [] (.bl true) [] := by
  have h1 := mem_new 2
  have h2 := mem_store ⟨[0, 0], 0, 0, 0, 0⟩ 1 5
  have h3 := swing_yes ⟨[0, 5], 1, 0, 2, 1⟩ 1 5 7 (by decide) (by decide)
  have h4 := swing_no ⟨[0, 7], 2, 0, 4, 1⟩ 1 5 7 (by decide) (by decide)
  have h5 := mem_load ⟨[0, 7], 3, 0, 4, 1⟩ 1
  have h6 := mem_ops ⟨[0, 7], 4, 0, 1, 1⟩
  have h7 := mem_faults ⟨[0, 7], 4, 0, 1, 1⟩
  have h8 := mem_len ⟨[0, 7], 4, 0, 1, 1⟩
  have h9 := mem_last ⟨[0, 7], 4, 0, 1, 1⟩
  refine Tri.of Try.func9 rfl Try.call9 rfl ?_
  refine Goods.fin 2000 [.c (.of h1), .c (.of h2), .c (.of h3), .c (.of h4), .c (.of h5), .s 21 (some true) true true, .c (.of h6), .s 26 (some true) true true, .c (.of h7), .s 31 (some true) true true, .c (.of h8), .s 36 (some true) true true, .c (.of h9)] mixed Try.func9 ?_
  show Yes _
  repeat' apply And.intro
  (all_goals first | rfl | assumption | trivial | omega | (simp [-List.getD_eq_getElem?_getD] <;> omega) | (simp (disch := omega) only [w64, wu64] <;> omega) | (simp (disch := omega) [-List.getD_eq_getElem?_getD, List.getD_cons_zero, List.getD_cons_succ, kCast_self, dfl_pair, dfl_int, w64, wu64] <;> omega) | (rw [Bool.eq_iff_iff]; simp (disch := omega) [-List.getD_eq_getElem?_getD, List.getD_cons_zero, List.getD_cons_succ, kCast_self, dfl_pair, dfl_int, w64, wu64] <;> omega) | (simp_all [-List.getD_eq_getElem?_getD] <;> omega))
abbrev OpsK : K := .pair (.int .i64) (.pair (.int .i64) (.pair (.int .u64) (.int .u64)))
noncomputable abbrev gDoes (l : List (ty OpsK)) : Frm := ⟨En, 6, Try.f6.ntmps, [.tab false OpsK l], .bl true, gones 1⟩
theorem does_1 (l : List (ty OpsK)) (m : MemS) (hm : m.words.length ≤ 1000000) : ∀ (j k : Nat), k + j = m.words.length → Goods (gDoes l) ⟨.none, lp Try.f6 1,
    [(5, .ptr 1 0 0), (6, .ptr 2 0 0), (10, .slice 3 0 m.words.length), (57, .slice 4 0 m.words.length), (58, .int .i64 m.words.length), (59, .int .i64 k)],
    hp [.gone, memC 5 m, .cells [.slice 4 0 m.words.length, .int .i64 m.ops, .int .i64 m.faults], .tab true (.int .u64) m.words, .tab true (.int .u64) m.words, memT m]⟩
  | 0, k, h => by
    have hl := mem_len m
    refine Goods.fin 2000 [.b false, .s 82 (some true) true true, .c (.of hl)] mixed Try.func6 ?_
    show Yes _
    repeat' apply And.intro
    (all_goals first | rfl | assumption | trivial | omega | (simp [-List.getD_eq_getElem?_getD] <;> omega) | (simp (disch := omega) only [w64, wu64] <;> omega) | (simp (disch := omega) [-List.getD_eq_getElem?_getD, List.getD_cons_zero, List.getD_cons_succ, kCast_self, dfl_pair, dfl_int, w64, wu64] <;> omega) | (rw [Bool.eq_iff_iff]; simp (disch := omega) [-List.getD_eq_getElem?_getD, List.getD_cons_zero, List.getD_cons_succ, kCast_self, dfl_pair, dfl_int, w64, wu64] <;> omega) | (simp_all [-List.getD_eq_getElem?_getD] <;> omega))
  | j + 1, k, h => by
    have ih := does_1 l m hm j (k + 1) (by omega)
    refine Goods.to 2000 [.b true, .s 67 (some false) true true, .b false, .l, .stop] mixed (ih) (by kernel_rfl) ?_
    show Yes _
    repeat' apply And.intro
    (all_goals first | rfl | assumption | trivial | omega | (simp [-List.getD_eq_getElem?_getD] <;> omega) | (simp (disch := omega) only [w64, wu64] <;> omega) | (simp (disch := omega) [-List.getD_eq_getElem?_getD, List.getD_cons_zero, List.getD_cons_succ, kCast_self, dfl_pair, dfl_int, w64, wu64] <;> omega) | (rw [Bool.eq_iff_iff]; simp (disch := omega) [-List.getD_eq_getElem?_getD, List.getD_cons_zero, List.getD_cons_succ, kCast_self, dfl_pair, dfl_int, w64, wu64] <;> omega) | (simp_all [-List.getD_eq_getElem?_getD] <;> omega))
theorem does_0 (l : List (ty OpsK)) (hl : l.length ≤ 300) : ∀ (j k : Nat) (m : MemS), k + j = l.length → m.words.length ≤ 1000000 → Goods (gDoes l) ⟨.none, lp Try.f6 0,
    [(5, .ptr 1 0 0), (6, .ptr 2 0 0), (24, .slice 0 0 l.length), (25, .int .i64 l.length), (26, .int .i64 k)],
    hp [.tab false OpsK l, memC 3 m, .cells [.slice 4 0 m.words.length, .int .i64 m.ops, .int .i64 m.faults], memT m, .tab true (.int .u64) m.words]⟩
  | 0, k, m, h, hm => by
    have hw := mem_words m (by omega)
    have ih := does_1 l m hm m.words.length 0 (by omega)
    refine Goods.to 2000 [.b false, .c (.of hw), .l, .stop] mixed (ih) (by kernel_rfl) ?_
    show Yes _
    repeat' apply And.intro
    (all_goals first | rfl | assumption | trivial | omega | (simp [-List.getD_eq_getElem?_getD] <;> omega) | (simp (disch := omega) only [w64, wu64] <;> omega) | (simp (disch := omega) [-List.getD_eq_getElem?_getD, List.getD_cons_zero, List.getD_cons_succ, kCast_self, dfl_pair, dfl_int, w64, wu64] <;> omega) | (rw [Bool.eq_iff_iff]; simp (disch := omega) [-List.getD_eq_getElem?_getD, List.getD_cons_zero, List.getD_cons_succ, kCast_self, dfl_pair, dfl_int, w64, wu64] <;> omega) | (simp_all [-List.getD_eq_getElem?_getD] <;> omega))
  | j + 1, k, m, h, hm => by
    obtain ⟨⟨kk, a, x, old⟩, hn⟩ : ∃ p : Int × Int × Int × Int, l.getD k (0, 0, 0, 0) = p := ⟨_, rfl⟩
    by_cases hk : 1 ≤ kk ∧ kk ≤ 5
    · have hd := do_tri true m (by omega) kk a x old hk.1 hk.2
      have ih := does_0 l hl j (k + 1) (opS m kk a x old) (by omega) (by rw [opS_len]; exact hm)
      have h1 := mem_ops (opS m kk a x old)
      have h2 := mem_faults (opS m kk a x old)
      refine Goods.to 2000 [.b true, .c (.of hd), .c (.of h1), .s 44 (some false) true true, .c (.of h2), .s 51 (some false) true true, .l, .stop] mixed (ih) (by kernel_rfl) ?_
      show Yes _
      repeat' apply And.intro
      (all_goals first | rfl | assumption | trivial | omega | (simp [-List.getD_eq_getElem?_getD, hn] <;> omega) | (simp (disch := omega) only [w64, wu64] <;> omega) | (simp (disch := omega) [-List.getD_eq_getElem?_getD, List.getD_cons_zero, List.getD_cons_succ, kCast_self, dfl_pair, dfl_int, w64, wu64, hn] <;> omega) | (rw [Bool.eq_iff_iff]; simp (disch := omega) [-List.getD_eq_getElem?_getD, List.getD_cons_zero, List.getD_cons_succ, kCast_self, dfl_pair, dfl_int, w64, wu64, hn] <;> omega) | (simp_all [-List.getD_eq_getElem?_getD] <;> omega))
    · have hd := do_none true m kk a x old (by omega)
      have ih := does_0 l hl j (k + 1) m (by omega) hm
      have h1 := mem_ops m
      have h2 := mem_faults m
      refine Goods.to 2000 [.b true, .c (.of hd), .c (.of h1), .s 44 (some false) true true, .c (.of h2), .s 51 (some false) true true, .l, .stop] mixed (ih) (by kernel_rfl) ?_
      show Yes _
      repeat' apply And.intro
      (all_goals first | rfl | assumption | trivial | omega | (simp [-List.getD_eq_getElem?_getD, hn] <;> omega) | (simp (disch := omega) only [w64, wu64] <;> omega) | (simp (disch := omega) [-List.getD_eq_getElem?_getD, List.getD_cons_zero, List.getD_cons_succ, kCast_self, dfl_pair, dfl_int, w64, wu64, hn] <;> omega) | (rw [Bool.eq_iff_iff]; simp (disch := omega) [-List.getD_eq_getElem?_getD, List.getD_cons_zero, List.getD_cons_succ, kCast_self, dfl_pair, dfl_int, w64, wu64, hn] <;> omega) | (simp_all [-List.getD_eq_getElem?_getD] <;> omega))
theorem MemDoes_tri (n : Nat) (hn : n ≤ 255) (l : List (ty OpsK)) : Tri En 6 [.int .u8 n, .slice 0 0 l.length] [.tab false OpsK l] (.bl true) (gones 1) := by
  refine Tri.of Try.func6 rfl Try.call6 rfl ?_
  by_cases hl : 300 < l.length
  · refine Goods.fin 2000 [.c (.of speaks_tri), .b true] mixed Try.func6 ?_
    show Yes _
    repeat' apply And.intro
    (all_goals first | rfl | assumption | trivial | omega | (simp [-List.getD_eq_getElem?_getD] <;> omega) | (simp (disch := omega) only [w64, wu64] <;> omega) | (simp (disch := omega) [-List.getD_eq_getElem?_getD, List.getD_cons_zero, List.getD_cons_succ, kCast_self, dfl_pair, dfl_int, w64, wu64] <;> omega) | (rw [Bool.eq_iff_iff]; simp (disch := omega) [-List.getD_eq_getElem?_getD, List.getD_cons_zero, List.getD_cons_succ, kCast_self, dfl_pair, dfl_int, w64, wu64] <;> omega) | (simp_all [-List.getD_eq_getElem?_getD] <;> omega))
  · have h1 := mem_new n
    rw [show (min (max (n : Int) 0) 16777216).toNat = n by omega] at h1
    have h2 := ref_new n (by omega)
    have ih := does_0 l (by omega) l.length 0 ⟨List.replicate n 0, 0, 0, 0, 0⟩ (by omega) (by simp; omega)
    refine Goods.to 2000 [.c (.of speaks_tri), .b false, .c (.of h1), .c (.of h2), .l, .stop] mixed (ih) (by kernel_rfl) ?_
    show Yes _
    repeat' apply And.intro
    (all_goals first | rfl | assumption | trivial | omega | (simp [-List.getD_eq_getElem?_getD] <;> omega) | (simp (disch := omega) only [w64, wu64] <;> omega) | (simp (disch := omega) [-List.getD_eq_getElem?_getD, List.getD_cons_zero, List.getD_cons_succ, kCast_self, dfl_pair, dfl_int, w64, wu64] <;> omega) | (rw [Bool.eq_iff_iff]; simp (disch := omega) [-List.getD_eq_getElem?_getD, List.getD_cons_zero, List.getD_cons_succ, kCast_self, dfl_pair, dfl_int, w64, wu64] <;> omega) | (simp_all [-List.getD_eq_getElem?_getD] <;> omega))
theorem MemDoes_law (d : dats ([(false, (.int .u8)), (false, (.slice (.pair (.int .i64) (.pair (.int .i64) (.pair (.int .u64) (.pair (.int .u64) .unit))))))] : List (Bool × Sh))) (hd : datsOk ([(false, (.int .u8)), (false, (.slice (.pair (.int .i64) (.pair (.int .i64) (.pair (.int .u64) (.pair (.int .u64) .unit))))))] : List (Bool × Sh)) d) : Tri En 6 (argsOf ([(false, (.int .u8)), (false, (.slice (.pair (.int .i64) (.pair (.int .i64) (.pair (.int .u64) (.pair (.int .u64) .unit))))))] : List (Bool × Sh)) d 0) (objsOf ([(false, (.int .u8)), (false, (.slice (.pair (.int .i64) (.pair (.int .i64) (.pair (.int .u64) (.pair (.int .u64) .unit))))))] : List (Bool × Sh)) d) (.bl true) (gones (cnts ([(false, (.int .u8)), (false, (.slice (.pair (.int .i64) (.pair (.int .i64) (.pair (.int .u64) (.pair (.int .u64) .unit))))))] : List (Bool × Sh)))) := by
  obtain ⟨n, l, _⟩ := d
  obtain ⟨h0, _⟩ := hd
  obtain ⟨n, rfl, hn⟩ := wf_u8 h0
  exact MemDoes_tri n hn l
end Go.Proofs.Ytlmoifbklpflaaa.E

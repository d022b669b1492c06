/- LiveOnce: the law's contract. -/
import Derived.Test.YtokblanedeiegaaDoorL13a
namespace Go.Proofs.YtokblanedeiegaaDoor.E
open Go
set_option maxRecDepth 100000

theorem tmod_nat (a b : Nat) : Int.tmod (a : Int) (b : Int) = ((a % b : Nat) : Int) := by
  rw [Int.tmod_eq_emod_of_nonneg (by omega)]
  simp
def ZeroW (m : MemS) (n : Nat) : Prop := m.words = List.replicate n 0
theorem ZeroW.get {m : MemS} {n : Nat} (h : ZeroW m n) (a : Int) : m.get a = ((0 : Nat) : Int) := by
  by_cases hi : m.inr a
  · rw [MemS.get_in hi, h]
    simp only [List.getD, List.getElem?_replicate]
    split <;> rfl
  · rw [MemS.get_out hi]; rfl
theorem ZeroW.put {m : MemS} {n : Nat} (h : ZeroW m n) (k a : Int) : ZeroW ((m.acc k a).put a 0) n := by
  unfold ZeroW
  by_cases hi : m.inr a
  · rw [MemS.put_words hi, h]
    refine List.ext_getElem? fun i => ?_
    rw [List.getElem?_set, List.getElem?_replicate]
    split
    · rename_i e
      subst e
      rw [List.length_replicate]
    · rfl
  · rw [MemS.put_out (m := m.acc k a) hi]; exact h
noncomputable abbrev gOnce (c : Cnf) : Frm := ⟨En, 5, Tryd.f5.ntmps, [.tab false (.int .i64) c.cl], .bl true, gones 1⟩
theorem once_1 (c : Cnf) (h : c.Ok) (G : Nat) (hG : (G : Int) = 64 * c.s) (x : ThT) (g : Nat) (hg : (g : Int) < 64 * c.s) (n : Nat) (hn : n ≤ 300) : ∀ (j k : Nat) (m : MemS), k + j = n → ZeroW m (G + 2) → Goods (gOnce c) ⟨.none, lp Tryd.f5 0, [(7, .ptr 1 0 0), (8, .ptr 2 0 0), (9, .int .i64 (65536 + 16 * (g : Int))), (10, .int .i64 1), (11, .ptr 3 0 0), (56, .int .i64 n), (57, .int .i64 k)], hp [.tab false (.int .i64) c.cl, memC 4 m, tableC 1 5 (1 : Nat) c, .cells [.int .i64 x.1, .int .i64 x.2], memT m, clsT c]⟩
  | 0, k, m, hk, hm => by
    obtain rfl : k = n := by omega
    have s0 := h.s0
    have s1 := h.s1
    have hl : m.words.length = G + 2 := by rw [hm]; simp
    have p0 := mem_peek m 0
    rw [hm.get] at p0
    have p1 := mem_peek m ((m.words.length : Int) - 1)
    rw [hm.get] at p1
    have ln := mem_len m
    have al := all_tri c h 1 (by omega) m (fun _ => 0) G hG (fun g _ => ⟨hm.get _, by omega⟩)
    rw [allL_none c G (fun _ _ => th_zero.1)] at al
    refine Goods.fin 2000 [.b false, .s 73 (some true) true true, .k 76 (.of p0), .s 77 (some true) true true, .k 82 (.of ln), .k 84 (.of p1), .s 85 (some true) true true, .k 89 (.of al)] mixed Tryd.func5 ?_
    show Yes _
    repeat' apply And.intro
    (all_goals first | rfl | assumption | trivial | omega | (simp [-List.getD_eq_getElem?_getD] <;> omega) | (simp (disch := omega) only [w64, wu64] <;> omega) | (simp (disch := omega) [-List.getD_eq_getElem?_getD, List.getD_cons_zero, List.getD_cons_succ, kCast_self, dfl_pair, dfl_int, w64, wu64] <;> omega) | (rw [Bool.eq_iff_iff]; simp (disch := omega) [-List.getD_eq_getElem?_getD, List.getD_cons_zero, List.getD_cons_succ, kCast_self, dfl_pair, dfl_int, w64, wu64] <;> omega) | (simp_all [-List.getD_eq_getElem?_getD] <;> omega))
  | j + 1, k, m, hk, hm => by
    have tk := (take_yes c h 1 (by omega) m g hg 0 (hm.get _) (by omega)).tup th_zero.1
    rw [th_zero.2] at tk
    have ih := once_1 c h G hG x g hg n hn j (k + 1) _ (by omega) (hm.put 3 ((1 + g : Nat) : Int))
    refine Goods.to 2000 [.b true, .c (.of tk), .l, .stop] mixed (ih) (by kernel_rfl) ?_
    show Yes _
    repeat' apply And.intro
    (all_goals first | rfl | assumption | trivial | omega | (simp [-List.getD_eq_getElem?_getD] <;> omega) | (simp (disch := omega) only [w64, wu64] <;> omega) | (simp (disch := omega) [-List.getD_eq_getElem?_getD, List.getD_cons_zero, List.getD_cons_succ, kCast_self, dfl_pair, dfl_int, w64, wu64] <;> omega) | (rw [Bool.eq_iff_iff]; simp (disch := omega) [-List.getD_eq_getElem?_getD, List.getD_cons_zero, List.getD_cons_succ, kCast_self, dfl_pair, dfl_int, w64, wu64] <;> omega) | (simp_all [-List.getD_eq_getElem?_getD] <;> omega))
theorem once_0 (c : Cnf) (h : c.Ok) (G : Nat) (hG : (G : Int) = 64 * c.s) (x : ThT) (hx : thOk c x) (g : Nat) (hg : (g : Int) < 64 * c.s) (n : Nat) (hn : n ≤ 300) (hn0 : 1 ≤ n) (m : MemS) (hm : m.words = (List.replicate (G + 2) 0).set (1 + g) (codeN x : Int)) : Goods (gOnce c) ⟨.none, lp Tryd.f5 0, [(7, .ptr 1 0 0), (8, .ptr 2 0 0), (9, .int .i64 (65536 + 16 * (g : Int))), (10, .int .i64 0), (11, .ptr 3 0 0), (56, .int .i64 n), (57, .int .i64 0)], hp [.tab false (.int .i64) c.cl, memC 4 m, tableC 1 5 (1 : Nat) c, .cells [.int .i64 x.1, .int .i64 x.2], memT m, clsT c]⟩ := by
  have s1 := h.s1
  have hl : m.words.length = G + 2 := by rw [hm]; simp
  have hin : m.inr ((1 + g : Nat) : Int) := ⟨by omega, by omega⟩
  have hg1 : m.get ((1 + g : Nat) : Int) = (codeN x : Int) := by
    rw [MemS.get_in hin, hm, Int.toNat_natCast]
    simp [List.getD, show 1 + g < G + 2 by omega]
  obtain ⟨t1, t2⟩ := code_of h hx
  have tk := (take_yes c h 1 (by omega) m g hg (codeN x) hg1 (code_lt x)).tup t1
  rw [t2] at tk
  have hz : ZeroW ((m.acc 3 ((1 + g : Nat) : Int)).put ((1 + g : Nat) : Int) 0) (G + 2) := by
    unfold ZeroW
    rw [MemS.put_words hin, hm, Int.toNat_natCast, List.set_set]
    refine List.ext_getElem? fun i => ?_
    rw [List.getElem?_set, List.getElem?_replicate]
    split
    · rename_i e
      subst e
      rw [List.length_replicate]
    · rfl
  have ih := once_1 c h G hG x g hg n hn (n - 1) 1 _ (by omega) hz
  obtain ⟨p, q⟩ := x
  refine Goods.to 2000 [.b true, .c (.of tk), .b false, .l, .stop] mixed (ih) (by kernel_rfl) ?_
  show Yes _
  repeat' apply And.intro
  (all_goals first | rfl | assumption | trivial | omega | (simp [-List.getD_eq_getElem?_getD] <;> omega) | (simp (disch := omega) only [w64, wu64] <;> omega) | (simp (disch := omega) [-List.getD_eq_getElem?_getD, List.getD_cons_zero, List.getD_cons_succ, kCast_self, dfl_pair, dfl_int, w64, wu64] <;> omega) | (rw [Bool.eq_iff_iff]; simp (disch := omega) [-List.getD_eq_getElem?_getD, List.getD_cons_zero, List.getD_cons_succ, kCast_self, dfl_pair, dfl_int, w64, wu64] <;> omega) | (simp_all [-List.getD_eq_getElem?_getD] <;> omega))
theorem LiveOnce_tri (c : Cnf) (hc : c.cl.length ≤ 9223372036854775807) (gr cs many : Nat) (hgr : gr ≤ 65535) (hcs : cs ≤ 255) (hmany : many ≤ 255) : Tri En 5 [.agg [.int .i64 c.w, .int .i64 c.s, .int .i64 c.b, .int .i64 c.t, .slice 0 0 c.cl.length, .int .u16 gr, .int .u8 cs, .int .u8 many]] [.tab false (.int .i64) c.cl] (.bl true) (gones 1) := by
  refine Tri.of Tryd.func5 rfl Tryd.call5 rfl ?_
  by_cases h : c.Ok
  · have s0 := h.s0
    have s1 := h.s1
    have l0 := h.l0
    have l1 := h.l1
    obtain ⟨G, hG⟩ : ∃ G : Nat, (G : Int) = 64 * c.s := ⟨(64 * c.s).toNat, by omega⟩
    have ls := live_size false c h.toSmall
    rw [← hG] at ls
    have hm := mem_new ((G : Int) + 2)
    rw [show (min (max ((G : Int) + 2) 0) 16777216).toNat = G + 2 by omega] at hm
    have hw0 : (⟨List.replicate (G + 2) 0, 0, 0, 0, 0⟩ : MemS).words = List.replicate (G + 2) 0 := rfl
    generalize (⟨List.replicate (G + 2) 0, 0, 0, 0, 0⟩ : MemS) = m0 at hm hw0
    have nw := new_tri m0 false (1 : Nat) c l1
    have eg := tmod_nat gr G
    have hgl : gr % G < G := Nat.mod_lt _ (by omega)
    generalize gr % G = g at eg hgl
    have ei := tmod_nat cs c.cl.length
    have hil : cs % c.cl.length < c.cl.length := Nat.mod_lt _ (by omega)
    generalize cs % c.cl.length = i at ei hil
    have hx : thOk c ((i : Int), 0) := .inl ⟨by simp only; omega, by simp only; omega, rfl⟩
    have lo := live_of i
    have mk := mark_yes c h 1 (by omega) m0 g (by omega) ((i : Int), 0) hx
    have hin : m0.inr ((1 + g : Nat) : Int) := ⟨by omega, by rw [hw0, List.length_replicate]; omega⟩
    have ih := once_0 c h G hG ((i : Int), 0) hx g (by omega) (1 + many) (by omega) (by omega) _ (by rw [MemS.put_words (m := m0) (k := 2) hin, hw0, Int.toNat_natCast])
    rw [hG] at eg
    refine Goods.to 2000 [.c (.of speaks_tri), .c (.of (may_yes false c h)), .c (.of ls), .c (.of hm), .c (.of nw), .c (.of lo), .c (.of mk), .l, .stop] mixed (ih) (by kernel_rfl) ?_
    show Yes _
    repeat' apply And.intro
    (all_goals first | rfl | assumption | trivial | omega | (simp [-List.getD_eq_getElem?_getD, eg, ei] <;> omega) | (simp (disch := omega) only [w64, wu64] <;> omega) | (simp (disch := omega) [-List.getD_eq_getElem?_getD, List.getD_cons_zero, List.getD_cons_succ, kCast_self, dfl_pair, dfl_int, w64, wu64, eg, ei] <;> omega) | (rw [Bool.eq_iff_iff]; simp (disch := omega) [-List.getD_eq_getElem?_getD, List.getD_cons_zero, List.getD_cons_succ, kCast_self, dfl_pair, dfl_int, w64, wu64, eg, ei] <;> omega) | (simp_all [-List.getD_eq_getElem?_getD] <;> omega))
  · refine Goods.fin 2000 [.c (.of speaks_tri), .c (.of (may_no false c hc h))] mixed Tryd.func5 ?_
    show Yes _
    repeat' apply And.intro
    (all_goals first | rfl | assumption | trivial | omega | (simp [-List.getD_eq_getElem?_getD] <;> omega) | (simp (disch := omega) only [w64, wu64] <;> omega) | (simp (disch := omega) [-List.getD_eq_getElem?_getD, List.getD_cons_zero, List.getD_cons_succ, kCast_self, dfl_pair, dfl_int, w64, wu64] <;> omega) | (rw [Bool.eq_iff_iff]; simp (disch := omega) [-List.getD_eq_getElem?_getD, List.getD_cons_zero, List.getD_cons_succ, kCast_self, dfl_pair, dfl_int, w64, wu64] <;> omega) | (simp_all [-List.getD_eq_getElem?_getD] <;> omega))
theorem LiveOnce_law (d : dats ([(true, (.pair (.pair (.int .i64) (.pair (.int .i64) (.pair (.int .i64) (.pair (.int .i64) (.pair (.slice (.int .i64)) .unit))))) (.pair (.int .u16) (.pair (.int .u8) (.pair (.int .u8) .unit)))))] : List (Bool × Sh))) (hd : datsOk ([(true, (.pair (.pair (.int .i64) (.pair (.int .i64) (.pair (.int .i64) (.pair (.int .i64) (.pair (.slice (.int .i64)) .unit))))) (.pair (.int .u16) (.pair (.int .u8) (.pair (.int .u8) .unit)))))] : List (Bool × Sh)) d) : Tri En 5 (argsOf ([(true, (.pair (.pair (.int .i64) (.pair (.int .i64) (.pair (.int .i64) (.pair (.int .i64) (.pair (.slice (.int .i64)) .unit))))) (.pair (.int .u16) (.pair (.int .u8) (.pair (.int .u8) .unit)))))] : List (Bool × Sh)) d 0) (objsOf ([(true, (.pair (.pair (.int .i64) (.pair (.int .i64) (.pair (.int .i64) (.pair (.int .i64) (.pair (.slice (.int .i64)) .unit))))) (.pair (.int .u16) (.pair (.int .u8) (.pair (.int .u8) .unit)))))] : List (Bool × Sh)) d) (.bl true) (gones (cnts ([(true, (.pair (.pair (.int .i64) (.pair (.int .i64) (.pair (.int .i64) (.pair (.int .i64) (.pair (.slice (.int .i64)) .unit))))) (.pair (.int .u16) (.pair (.int .u8) (.pair (.int .u8) .unit)))))] : List (Bool × Sh)))) := by
  obtain ⟨⟨⟨w, s, b, t, cl, _⟩, gr, cs, many, _⟩, _⟩ := d
  obtain ⟨⟨⟨h0, h1, h2, h3, ⟨h4, _⟩, _⟩, h5, h6, h7, _⟩, _⟩ := hd
  obtain ⟨gr, rfl, hgr⟩ := wf_u16 h5
  obtain ⟨cs, rfl, hcs⟩ := wf_u8 h6
  obtain ⟨many, rfl, hmany⟩ := wf_u8 h7
  exact LiveOnce_tri ⟨w, s, b, t, cl⟩ (maxLen_le h4) gr cs many hgr hcs hmany
end Go.Proofs.YtokblanedeiegaaDoor.E

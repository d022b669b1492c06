/- StockFills: the law's contract. -/
import Derived.Test.YthlpfafmiakfdaaDoorL12b
namespace Go.Proofs.YthlpfafmiakfdaaDoor.E
set_option linter.unusedSimpArgs false
set_option linter.unusedVariables false
open Go
set_option maxRecDepth 100000
abbrev xAt (L : List Nat) (j : Nat) : Nat := L.getD j 0
theorem rev_at (i : Int) (L : List Nat) {j : Nat} (hj : j < L.length) : (L.reverse.map fun x : Nat => ((i : Int), (x : Int))).getD (L.length - 1 - j) (0, 0) = (i, (xAt L j : Int)) := by
  simp [List.getD, xAt, hj, show L.length - 1 - j < L.length by omega, show L.length - 1 - (L.length - 1 - j) = j by omega]
theorem pile_at {s : PS} {l : List Blk} (h : s.pile = l) {j : Nat} (hj : j < s.m) : s.zs.getD j (0, 0) = l.getD j (0, 0) := by
  rw [← h]
  unfold PS.pile
  simp [List.getD, List.getElem?_take_of_lt hj]
noncomputable abbrev gFl (own : Bool) (c : Cnf) : Frm := ⟨En, 7, Tryd.f7.ntmps, [.tab own (.int .i64) c.cl], .bl true, [.gone]⟩
theorem fl_0 (own : Bool) (c : Cnf) (h : c.Ok) (k : Nat) (hk : k < c.cl.length) (i : Nat) (m : Nat) (hm : m < 18446744073709551616) (zs : List Blk) (cl : Nat) (L : List Nat) (hL : L = bitsL (m &&& lowN (capN c k))) (hzl : L.length ≤ zs.length) (hz : ∀ j, j < L.length → zs.getD (L.length - 1 - j) (0, 0) = ((i : Int), (xAt L j : Int))) : ∀ (r j : Nat) (es : TMap) (last : Int), j + r = L.length → (∀ y ∈ L.drop j, last < (y : Int)) → last ≤ 64 →
    Goods (gFl own c) ⟨.none, lp Tryd.f7 0, [(3, .ptr 1 0 0), (6, .int .u64 m), (7, .ptr 2 0 0), (8, .int .i64 k), (9, .int .i64 i), (10, .int .i64 L.length), (11, .int .i64 last), (48, .int .i64 L.length), (49, .int .i64 j)], hp [.tab own (.int .i64) c.cl, cnfC c, stkC 3 c, clsO c, .mix k rawT (.slice 6 0 r), .mix k rawT (.map 7), .tab true BlkK zs, .map BlkK .unit cl es]⟩
  | 0, j, es, last, hj, hlast, hl64 => by
    have l1 := h.l1
    have hle : L.length ≤ 64 := by rw [hL]; exact L_le _
    obtain ⟨z, z1, z2, z3, z4, z5, z6, z7⟩ := cap_eq h hk
    have e : IntKind.i64.wrap (Int.tdiv 1024 (z : Int)) = ((1024 / z : Nat) : Int) := by
      rw [show Int.tdiv 1024 (z : Int) = ((1024 / z : Nat) : Int) by rw [Int.tdiv_eq_ediv_of_nonneg (by omega)]; rfl]
      exact w64 (by omega) (by omega)
    have h1 := low_tri ((1024 / z : Nat) : Int)
    have hlo := lowN_lt ((1024 / z : Nat) : Int)
    have h2 := count_tri (m &&& lowN ((1024 / z : Nat) : Int)) (and_lt64 _ _ hm)
    have g0 := and_eq m (lowN ((1024 / z : Nat) : Int)) hm hlo
    rw [z5] at hL
    rw [← hL] at h2
    refine Goods.fin 2000 [.b false, .c (.of h1), .c (.of h2)] mixed Tryd.func7 ?_
    show Yes _
    repeat' apply And.intro
    all_goals try exact g0
    (all_goals first | rfl | assumption | trivial | omega | (simp [-List.getD_eq_getElem?_getD, z1, e] <;> omega) | (simp (disch := omega) only [w64, wu64] <;> omega) | (simp (disch := omega) [-List.getD_eq_getElem?_getD, List.getD_cons_zero, List.getD_cons_succ, kCast_self, dfl_pair, dfl_int, w64, wu64, z1, e] <;> omega) | (rw [Bool.eq_iff_iff]; simp (disch := omega) [-List.getD_eq_getElem?_getD, List.getD_cons_zero, List.getD_cons_succ, kCast_self, dfl_pair, dfl_int, w64, wu64, z1, e] <;> omega) | (simp_all [-List.getD_eq_getElem?_getD] <;> omega))
  | r + 1, j, es, last, hj, hlast, hl64 => by
    have l1 := h.l1
    have hle : L.length ≤ 64 := by rw [hL]; exact L_le _
    have hb := hz j (by omega)
    rw [show L.length - 1 - j = r by omega] at hb
    have h1 := pop_some c k rawT rawT zs r cl es ((i : Int), (xAt L j : Int)) l1 hk (by omega) (by omega) hb
    have hmem : xAt L j ∈ L.drop j := by
      have hlt : j < L.length := by omega
      have e1 : xAt L j = L[j] := by simp [xAt, List.getD, hlt]
      rw [List.drop_eq_getElem_cons hlt, e1]
      exact List.mem_cons_self ..
    have hgt := hlast _ hmem
    have hin : xAt L j ∈ L := List.mem_of_mem_drop hmem
    have hx64 : xAt L j < 64 ∧ m.testBit (xAt L j) = true := by
      rw [hL, mem_bitsL, Nat.testBit_and, Bool.and_eq_true, ← hL] at hin
      exact ⟨hin.1, hin.2.1⟩
    have hhas : hasN m (xAt L j : Int) = true := by
      unfold hasN
      rw [decide_eq_true (by omega), Int.toNat_natCast, hx64.2]; rfl
    have h2 := (has_tri m hm (xAt L j : Int)).bl hhas
    have hsort : L.Pairwise (· < ·) := by rw [hL]; exact L_sorted _
    have hnext : ∀ y ∈ L.drop (j + 1), ((xAt L j : Nat) : Int) < (y : Int) := by
      intro y hy
      have hp : (L.drop j).Pairwise (· < ·) := hsort.sublist (List.drop_sublist ..)
      rw [List.drop_eq_getElem_cons (by omega), List.pairwise_cons] at hp
      have := hp.1 y hy
      simp only [xAt, List.getD, List.getElem?_eq_getElem (show j < L.length by omega), Option.getD_some]
      omega
    have ih := fl_0 own c h k hk i m hm zs cl L hL hzl hz r (j + 1) (mdel (kk := BlkK) (((i : Int), (xAt L j : Int)) : Blk) es) (xAt L j : Int) (by omega) hnext (by omega)
    generalize xAt L j = x at *
    refine Goods.to 2000 [.b true, .c (.of h1), .s 63 (some false) true true, .s 69 (some false) true true, .c (.of h2), .l, .stop] mixed (ih) (by kernel_rfl) ?_
    show Yes _
    repeat' apply And.intro
    (all_goals first | rfl | assumption | trivial | omega | (simp [-List.getD_eq_getElem?_getD] <;> omega) | (simp (disch := omega) only [w64, wu64] <;> omega) | (simp (disch := omega) [-List.getD_eq_getElem?_getD, List.getD_cons_zero, List.getD_cons_succ, kCast_self, dfl_pair, dfl_int, w64, wu64] <;> omega) | (rw [Bool.eq_iff_iff]; simp (disch := omega) [-List.getD_eq_getElem?_getD, List.getD_cons_zero, List.getD_cons_succ, kCast_self, dfl_pair, dfl_int, w64, wu64] <;> omega) | (simp_all [-List.getD_eq_getElem?_getD] <;> omega))
theorem tmod_nat (a b : Nat) : Int.tmod (a : Int) (b : Int) = ((a % b : Nat) : Int) := rfl
theorem StockFills_tri (own : Bool) (c : Cnf) (hcl : c.cl.length ≤ 9223372036854775807) (u v m : Nat) (hu : u < 256) (hv : v < 256) (hm : m < 18446744073709551616) : Tri En 7 [.agg [.int .i64 c.w, .int .i64 c.s, .int .i64 c.b, .int .i64 c.t, .slice 0 0 c.cl.length, .int .u8 u, .int .u8 v, .int .u64 m]] [.tab own (.int .i64) c.cl] (.bl true) [.gone] := by
  refine Tri.of Tryd.func7 rfl Tryd.call7 rfl ?_
  by_cases h : c.Ok
  · have l1 := h.l1
    have l0 := h.l0
    have s0 := h.s0
    have s1 := h.s1
    have hy := may_yes own c h
    obtain ⟨S, hS⟩ : ∃ S : Nat, c.s = S := ⟨c.s.toNat, by omega⟩
    obtain ⟨k, hk⟩ : ∃ k, k = u % c.cl.length := ⟨_, rfl⟩
    obtain ⟨i, hi⟩ : ∃ i, i = v % S := ⟨_, rfl⟩
    have hkl : k < c.cl.length := by rw [hk]; exact Nat.mod_lt _ (by omega)
    have hil : i < S := by rw [hi]; exact Nat.mod_lt _ (by omega)
    have g0 : Int.tmod (IntKind.i64.wrap (u : Int)) (c.cl.length : Int) = (k : Int) := by rw [w64 (by omega) (by omega), hk]; rfl
    have g1 : Int.tmod (IntKind.i64.wrap (v : Int)) c.s = (i : Int) := by rw [w64 (by omega) (by omega), hi, hS]; rfl
    have hn := new_tri own c h k hkl
    have hf := fill_tri c h k rawT rawT ps0 i m hkl (by decide) (by decide) hm
    obtain ⟨hg, hp'⟩ := fill_pile h hkl (i := i) (by omega) m
    obtain ⟨L, hL⟩ : ∃ L, L = bitsL (m &&& lowN (capN c k)) := ⟨_, rfl⟩
    rw [← hL] at hp'
    have hlen : (fillS c k ps0 i (intsL (bitsL m))).m = L.length := by rw [← hg.len, hp']; simp
    have hle := hg.le
    have hat : ∀ j, j < L.length → (fillS c k ps0 i (intsL (bitsL m))).zs.getD (L.length - 1 - j) (0, 0) = ((i : Int), (xAt L j : Int)) := fun j hj => by
      rw [pile_at hp' (by omega), rev_at (i : Int) L hj]
    generalize fillS c k ps0 i (intsL (bitsL m)) = s at *
    obtain ⟨zs, sm, cl, es⟩ := s
    simp only at hlen hle hat hf
    subst hlen
    have hlt64 : L.length ≤ 64 := by rw [hL]; exact L_le _
    have hlen := slen_tri c k rawT rawT zs L.length cl es l1 hkl
    have ih := fl_0 own c h k hkl i m hm zs cl L hL hle hat L.length 0 es (-1) (by omega) (fun y _ => by omega) (by omega)
    refine Goods.to 2000 [.c (.of speaks_tri), .c (.of hy), .k 28 (.of hn), .c (.of hf), .c (.of hlen), .l, .stop] mixed (ih) (by kernel_rfl) ?_
    show Yes _
    repeat' apply And.intro
    all_goals try first | exact g0 | exact g1
    (all_goals first | rfl | assumption | trivial | omega | (simp [-List.getD_eq_getElem?_getD] <;> omega) | (simp (disch := omega) only [w64, wu64] <;> omega) | (simp (disch := omega) [-List.getD_eq_getElem?_getD, List.getD_cons_zero, List.getD_cons_succ, kCast_self, dfl_pair, dfl_int, w64, wu64] <;> omega) | (rw [Bool.eq_iff_iff]; simp (disch := omega) [-List.getD_eq_getElem?_getD, List.getD_cons_zero, List.getD_cons_succ, kCast_self, dfl_pair, dfl_int, w64, wu64] <;> omega) | (simp_all [-List.getD_eq_getElem?_getD] <;> omega))
  · have hy := may_no own c hcl h
    refine Goods.fin 2000 [.c (.of speaks_tri), .c (.of hy)] mixed Tryd.func7 ?_
    show Yes _
    repeat' apply And.intro
    (all_goals first | rfl | assumption | trivial | omega | (simp [-List.getD_eq_getElem?_getD] <;> omega) | (simp (disch := omega) only [w64, wu64] <;> omega) | (simp (disch := omega) [-List.getD_eq_getElem?_getD, List.getD_cons_zero, List.getD_cons_succ, kCast_self, dfl_pair, dfl_int, w64, wu64] <;> omega) | (rw [Bool.eq_iff_iff]; simp (disch := omega) [-List.getD_eq_getElem?_getD, List.getD_cons_zero, List.getD_cons_succ, kCast_self, dfl_pair, dfl_int, w64, wu64] <;> omega) | (simp_all [-List.getD_eq_getElem?_getD] <;> omega))
theorem StockFills_law (d : dats ([(true, (.pair (.pair (.int .i64) (.pair (.int .i64) (.pair (.int .i64) (.pair (.int .i64) (.pair (.slice (.int .i64)) .unit))))) (.pair (.int .u8) (.pair (.int .u8) (.pair (.int .u64) .unit)))))] : List (Bool × Sh))) (hd : datsOk ([(true, (.pair (.pair (.int .i64) (.pair (.int .i64) (.pair (.int .i64) (.pair (.int .i64) (.pair (.slice (.int .i64)) .unit))))) (.pair (.int .u8) (.pair (.int .u8) (.pair (.int .u64) .unit)))))] : List (Bool × Sh)) d) : Tri En 7 (argsOf ([(true, (.pair (.pair (.int .i64) (.pair (.int .i64) (.pair (.int .i64) (.pair (.int .i64) (.pair (.slice (.int .i64)) .unit))))) (.pair (.int .u8) (.pair (.int .u8) (.pair (.int .u64) .unit)))))] : List (Bool × Sh)) d 0) (objsOf ([(true, (.pair (.pair (.int .i64) (.pair (.int .i64) (.pair (.int .i64) (.pair (.int .i64) (.pair (.slice (.int .i64)) .unit))))) (.pair (.int .u8) (.pair (.int .u8) (.pair (.int .u64) .unit)))))] : List (Bool × Sh)) d) (.bl true) (gones (cnts ([(true, (.pair (.pair (.int .i64) (.pair (.int .i64) (.pair (.int .i64) (.pair (.int .i64) (.pair (.slice (.int .i64)) .unit))))) (.pair (.int .u8) (.pair (.int .u8) (.pair (.int .u64) .unit)))))] : List (Bool × Sh)))) := by
  obtain ⟨⟨⟨w, s, b, t, cl, _⟩, u, v, m, _⟩, _⟩ := d
  obtain ⟨⟨⟨h0, h1, h2, h3, ⟨h4, _⟩, _⟩, h5, h6, h7, _⟩, _⟩ := hd
  obtain ⟨u, rfl, hu⟩ := wf_u8 h5
  obtain ⟨v, rfl, hv⟩ := wf_u8 h6
  obtain ⟨m0, m1⟩ := wf_u64 h7
  obtain ⟨m, rfl⟩ : ∃ q : Nat, m = (q : Int) := ⟨Int.toNat m, (Int.toNat_of_nonneg m0).symm⟩
  exact StockFills_tri false ⟨w, s, b, t, cl⟩ (maxLen_le h4) u v m (Nat.lt_succ_of_le hu) (Nat.lt_succ_of_le hv) (Int.ofNat_lt.1 (Int.lt_of_le_of_lt m1 (by decide)))
end Go.Proofs.YthlpfafmiakfdaaDoor.E

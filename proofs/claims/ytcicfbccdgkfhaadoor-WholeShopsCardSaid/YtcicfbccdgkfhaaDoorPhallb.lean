/- Package hall: the state of a hall at first; the shop. -/
import Derived.Test.YtcicfbccdgkfhaaDoorPhall
import Derived.Test.YtcicfbccdgkfhaaDoorPlivev
namespace Go.Proofs.YtcicfbccdgkfhaaDoor.E
set_option linter.unusedSimpArgs false
set_option linter.unusedVariables false
open Go
set_option maxRecDepth 100000

/-- The words of a hall at first: its head, and noughts. -/
structure FirstW (m : MemS) (S : Nat) : Prop where
  len : S ≤ m.words.length
  head : m.words.getD 0 0 = (refN 0 0 0 : Nat)
  rest : ∀ i, 1 ≤ i → i < S → m.words.getD i 0 = 0
theorem FirstW.get0 {m : MemS} {S : Nat} (h : FirstW m S) (hS : 1 ≤ S) : m.get 0 = ((refN 0 0 0 : Nat) : Int) := by
  have := h.len; rw [MemS.get_in ⟨by omega, by omega⟩]; exact h.head
theorem FirstW.getr {m : MemS} {S : Nat} (h : FirstW m S) {i : Nat} (h1 : 1 ≤ i) (h2 : i < S) : m.get (i : Int) = ((0 : Nat) : Int) := by
  have := h.len; rw [MemS.get_in ⟨by omega, by omega⟩, Int.toNat_natCast]; exact h.rest i h1 h2
noncomputable abbrev gHs (c : Cnf) (n : Nat) (m : MemS) : Frm := ⟨En, 60, Tryd.f60.ntmps, [hallC 1 2 3 4 0 n c, memC 5 m, .tab true (.int .i64) c.cl, askedT c, callsT c, memT m], .slice 6 0 (2 * n), [hallC 1 2 3 4 0 n c, memC 5 m, .tab true (.int .i64) c.cl, askedT c, callsT c, memT m, .tab true (.int .u64) (List.replicate (2 * n) 0)]⟩
noncomputable abbrev hsSt (c : Cnf) (n : Nat) (m : MemS) (k : Nat) (L : List Int) : Cfg := ⟨.none, lp Tryd.f60 0, [(0, .ptr 0 0 0), (3, .ptr 6 0 0), (5, .slice 7 0 L.length), (25, .int .i64 (2 * n : Nat)), (26, .int .i64 k)], hp [hallC 1 2 3 4 0 n c, memC 5 m, .tab true (.int .i64) c.cl, askedT c, callsT c, memT m, .cells [.int .i64 0, .int .i64 0, .int .i64 0], .tab true (.int .u64) L]⟩
set_option maxHeartbeats 4000000 in
theorem hs_0 (c : Cnf) (h : c.Ok) (n : Nat) (hn : (n : Int) = c.s) (m : MemS) (S : Nat) (hS : ((S : Nat) : Int) ≥ 1 + 4 * c.w + 2 * n) (hF : FirstW m S) : ∀ (j k : Nat), k + j = 2 * n → Goods (gHs c n m) (hsSt c n m k (List.replicate k 0))
  | 0, k, hk => by
    obtain rfl : k = 2 * n := by omega
    have s1 := h.s1
    have w1 := h.w1
    have hl : (List.replicate (2 * n) (0 : Int)).length = 2 * n := List.length_replicate
    refine Goods.fin 2000 [.b false] mixed Tryd.func60 ?_
    show Yes _
    repeat' apply And.intro
    (all_goals first | rfl | assumption | trivial | omega | (simp [-List.getD_eq_getElem?_getD] <;> omega) | (simp (disch := omega) only [w64, wu64] <;> omega) | (simp (disch := omega) [-List.getD_eq_getElem?_getD, List.getD_cons_zero, List.getD_cons_succ, kCast_self, dfl_pair, dfl_int, w64, wu64] <;> omega) | (rw [Bool.eq_iff_iff]; simp (disch := omega) [-List.getD_eq_getElem?_getD, List.getD_cons_zero, List.getD_cons_succ, kCast_self, dfl_pair, dfl_int, w64, wu64] <;> omega) | (simp_all [-List.getD_eq_getElem?_getD] <;> omega))
  | j + 1, k, hk => by
    have s1 := h.s1
    have w0 := h.w0
    have w1 := h.w1
    have ih := hs_0 c h n hn m S hS hF j (k + 1) (by omega)
    have fa := fr_at (hfr h hn) (i := 0) (s := 0) (by omega) (by omega) (by omega) (by omega)
    rw [show (0 : Int) + 1 + 4 * c.w + (2 * 0 + 0) * fRec ((2 * n : Nat) : Int) c.w = 1 + 4 * c.w by rw [show (2 * (0 : Int) + 0) = 0 by omega, Int.zero_mul]; omega] at fa
    obtain ⟨x, hx⟩ : ∃ x : Nat, (x : Int) = 1 + 4 * c.w := ⟨(1 + 4 * c.w).toNat, by omega⟩
    rw [← hx] at fa
    have pk := mem_peek m ((x + k : Nat) : Int)
    rw [hF.getr (i := x + k) (by omega) (by omega)] at pk
    have e1 : List.replicate (k + 1) (0 : Int) = List.replicate k 0 ++ [0] := List.replicate_succ'
    have hl : (List.replicate k (0 : Int)).length = k := List.length_replicate
    rw [e1] at ih
    unfold hsSt at *
    rw [List.length_append] at ih
    generalize List.replicate k (0 : Int) = L at *
    refine Goods.to 2000 [.b true, .k 42 (.of fa), .k 45 (.of pk), .l, .stop] mixed (ih) (by kernel_rfl) ?_
    show Yes _
    repeat' apply And.intro
    (all_goals first | rfl | assumption | trivial | omega | (simp [-List.getD_eq_getElem?_getD] <;> omega) | (simp (disch := omega) only [w64, wu64] <;> omega) | (simp (disch := omega) [-List.getD_eq_getElem?_getD, List.getD_cons_zero, List.getD_cons_succ, kCast_self, dfl_pair, dfl_int, w64, wu64] <;> omega) | (rw [Bool.eq_iff_iff]; simp (disch := omega) [-List.getD_eq_getElem?_getD, List.getD_cons_zero, List.getD_cons_succ, kCast_self, dfl_pair, dfl_int, w64, wu64] <;> omega) | (simp_all [-List.getD_eq_getElem?_getD] <;> omega))
set_option maxHeartbeats 4000000 in
theorem hall_state (c : Cnf) (h : c.Ok) (n : Nat) (hn : (n : Int) = c.s) (m : MemS) (S : Nat) (hS : ((S : Nat) : Int) ≥ 1 + 4 * c.w + 2 * n) (hF : FirstW m S) : Tri En 60 [.ptr 0 0 0] [hallC 1 2 3 4 0 n c, memC 5 m, .tab true (.int .i64) c.cl, askedT c, callsT c, memT m] (.slice 6 0 (2 * n)) [hallC 1 2 3 4 0 n c, memC 5 m, .tab true (.int .i64) c.cl, askedT c, callsT c, memT m, .tab true (.int .u64) (List.replicate (2 * n) 0)] := by
  have w0 := h.w0
  have f1 := fr_head (hfr h hn)
  have pk := mem_peek m 0
  rw [hF.get0 (by omega)] at pk
  have t1 := to_of 0 0 0 (by omega) (by omega) (by omega)
  have i0 := hs_0 c h n hn m S hS hF (2 * n) 0 (by omega)
  have ih := Goods.nilTmp (tp := [(0, .ptr 0 0 0), (3, .ptr 6 0 0)]) (tq := [(25, .int .i64 (2 * n : Nat)), (26, .int .i64 ((0 : Nat) : Int))]) (os := [hallC 1 2 3 4 0 n c, memC 5 m, .tab true (.int .i64) c.cl, askedT c, callsT c, memT m, .cells [.int .i64 0, .int .i64 0, .int .i64 0]]) (.int .u64) i0
  generalize refN 0 0 0 = z at *
  refine Tri.of Tryd.func60 rfl Tryd.call60 rfl ?_
  refine Goods.to 2000 [.k 16 (.of f1), .k 17 (.of pk), .k 18 (.of t1), .l, .stop] mixed (ih) (by kernel_rfl) ?_
  show Yes _
  repeat' apply And.intro
  (all_goals first | rfl | assumption | trivial | omega | (simp [-List.getD_eq_getElem?_getD] <;> omega) | (simp (disch := omega) only [w64, wu64] <;> omega) | (simp (disch := omega) [-List.getD_eq_getElem?_getD, List.getD_cons_zero, List.getD_cons_succ, kCast_self, dfl_pair, dfl_int, w64, wu64] <;> omega) | (rw [Bool.eq_iff_iff]; simp (disch := omega) [-List.getD_eq_getElem?_getD, List.getD_cons_zero, List.getD_cons_succ, kCast_self, dfl_pair, dfl_int, w64, wu64] <;> omega) | (simp_all [-List.getD_eq_getElem?_getD] <;> omega))
end Go.Proofs.YtcicfbccdgkfhaaDoor.E

/- LiveMoves: the law's contract. -/
import Derived.Test.YtokblanedeiegaaDoorL13b
namespace Go.Proofs.YtokblanedeiegaaDoor.E
open Go
set_option maxRecDepth 100000

/-- One word alone may be another one than 0. -/
def OneW (m : MemS) (n g w : Nat) : Prop := m.words = (List.replicate n 0).set g (w : Int)
def oneF (g w i : Nat) : Nat := if i = g then w else 0
theorem OneW.len {m : MemS} {n g w : Nat} (h : OneW m n g w) : m.words.length = n := by rw [h]; simp
theorem OneW.get {m : MemS} {n g w : Nat} (h : OneW m n g w) (i : Nat) (hi : i < n) : m.get ((0 + i : Nat) : Int) = (oneF g w i : Int) := by
  rw [MemS.get_in ⟨by omega, by rw [h.len]; omega⟩, h, Int.toNat_natCast, Nat.zero_add]
  unfold oneF
  simp only [List.getD, List.getElem?_set, List.length_replicate, List.getElem?_replicate]
  by_cases e : g = i
  · subst e; simp [hi]
  · rw [if_neg e, if_pos hi, if_neg (show ¬ i = g from fun hh => e hh.symm)]; rfl
theorem OneW.put {m : MemS} {n g w : Nat} (h : OneW m n g w) (hg : g < n) (k : Int) (x : Nat) : OneW ((m.acc k ((0 + g : Nat) : Int)).put ((0 + g : Nat) : Int) x) n g x := by
  unfold OneW
  rw [MemS.put_words ⟨by omega, by rw [h.len]; omega⟩, h, Int.toNat_natCast, Nat.zero_add, List.set_set]
theorem oneF_lt {g w : Nat} (hw : w < 18446744073709551616) (i : Nat) : oneF g w i < 18446744073709551616 := by unfold oneF; split <;> omega
theorem oneF_self (g w : Nat) : oneF g w g = w := if_pos rfl
theorem oneF_else {g w i : Nat} (h : i ≠ g) : oneF g w i = 0 := if_neg h
def cfgC (c : Cnf) : AObj := .cells [.int .i64 c.w, .int .i64 c.s, .int .i64 c.b, .int .i64 c.t, .slice 0 0 c.cl.length]
noncomputable abbrev gMov (c : Cnf) (l : List ThT) : Frm := ⟨En, 4, Tryd.f4.ntmps, [.tab false (.int .i64) c.cl, .tab false IvK l], .bl true, gones 2⟩
noncomputable abbrev mvSt (c : Cnf) (l : List ThT) (g : Nat) (k : Nat) (p q : Int) (b : Bool) (m : MemS) : Cfg := ⟨.none, lp Tryd.f4 0, [(3, .ptr 2 0 0), (8, .ptr 3 0 0), (9, .int .i64 (65536 + 16 * (g : Int))), (10, .ptr 4 0 0), (11, .bool b), (43, .slice 1 0 l.length), (44, .int .i64 l.length), (45, .int .i64 k)], hp [.tab false (.int .i64) c.cl, .tab false IvK l, cfgC c, tableC 5 6 (0 : Nat) c, .cells [.int .i64 p, .int .i64 q], memC 7 m, clsT c, memT m]⟩
theorem mov_end (c : Cnf) (h : c.Ok) (l : List ThT) (hl : l.length ≤ 60) (G : Nat) (hG : (G : Int) = 64 * c.s) (g : Nat) (hg : g < G) (w : Nat) (hw : w < 18446744073709551616) (p q : Int) (b : Bool) (hb : thIs w = b) (ht : thOf w = (p, q)) (m : MemS) (hm : OneW m G g w) : Goods (gMov c l) (mvSt c l g l.length p q b m) := by
  have s1 := h.s1
  have tk := take_yes c h 0 (by omega) m g (by omega) w (by rw [hm.get g hg, oneF_self]) hw
  rw [ht, hb] at tk
  have hm2 := hm.put hg 3 0
  have al := all_tri c h 0 (by omega) _ (oneF g 0) G hG (fun i hi => ⟨hm2.get i hi, oneF_lt (by omega) i⟩)
  rw [allL_none c G (fun i _ => by
    by_cases e : i = g
    · subst e; rw [oneF_self]; exact th_zero.1
    · rw [oneF_else e]; exact th_zero.1)] at al
  refine Goods.fin 2000 [.b false, .c (.of tk), .s 87 (some true) true true, .s 91 (some true) true true, .c (.of al)] mixed Tryd.func4 ?_
  show Yes _
  repeat' apply And.intro
  (all_goals first | rfl | assumption | trivial | omega | (simp [-List.getD_eq_getElem?_getD] <;> omega) | (simp (disch := omega) only [w64, wu64] <;> omega) | (simp (disch := omega) [-List.getD_eq_getElem?_getD, List.getD_cons_zero, List.getD_cons_succ, kCast_self, dfl_pair, dfl_int, w64, wu64] <;> omega) | (rw [Bool.eq_iff_iff]; simp (disch := omega) [-List.getD_eq_getElem?_getD, List.getD_cons_zero, List.getD_cons_succ, kCast_self, dfl_pair, dfl_int, w64, wu64] <;> omega) | (simp_all [-List.getD_eq_getElem?_getD] <;> omega))
set_option maxHeartbeats 1000000 in
theorem mov_step (c : Cnf) (h : c.Ok) (l : List ThT) (hl : l.length ≤ 60) (G : Nat) (hG : (G : Int) = 64 * c.s) (g : Nat) (hg : g < G) (w : Nat) (p q : Int) (b : Bool) (m : MemS) (hm : OneW m G g w) (k : Nat) (hk : k < l.length) (p1 q1 : Int) (hy : l.getD k (dfl IvK) = (p1, q1)) (hx : thOk c (p1, q1)) (hq : -9223372036854775808 ≤ q1 ∧ q1 ≤ 9223372036854775807)
    (ih : ∀ m, OneW m G g (codeN (p1, q1)) → Goods (gMov c l) (mvSt c l g (k + 1) p1 q1 true m)) : Goods (gMov c l) (mvSt c l g k p q b m) := by
  have s1 := h.s1
  have sz := law_size false c h p1 q1 hq
  have hne := (size_ne c h (p1, q1)).2 hx
  have mk := mark_yes c h 0 (by omega) m g (by omega) (p1, q1) hx
  have hm2 := hm.put hg 2 (codeN (p1, q1))
  obtain ⟨t1, t2⟩ := code_of h hx
  have hlt := code_lt (p1, q1)
  generalize codeN (p1, q1) = v at *
  generalize ((m.acc 2 ((0 + g : Nat) : Int)).put ((0 + g : Nat) : Int) (v : Int)) = m2 at *
  have lk := (look_yes c h 0 (by omega) m2 g (by omega) v (by rw [hm2.get g hg, oneF_self]) hlt).tup t1
  rw [t2] at lk
  have hm3 : OneW (m2.acc 1 ((0 + g : Nat) : Int)) G g v := hm2
  have al := all_tri c h 0 (by omega) (m2.acc 1 ((0 + g : Nat) : Int)) (oneF g v) G hG (fun i hi => ⟨hm3.get i hi, oneF_lt hlt i⟩)
  rw [allL_one c g (by rw [oneF_self]; exact t1) G (fun i _ e => by rw [oneF_else e]; exact th_zero.1), if_pos hg, oneF_self, t2] at al
  have ih := ih _ hm3
  generalize sizeN c (p1, q1) = z at *
  refine Goods.to 2000 [.b true, .c (.of sz), .b false, .c (.of mk), .c (.of lk), .s 70 (some false) true true, .c (.of al), .b false, .l, .stop] mixed (ih) (by kernel_rfl) ?_
  show Yes _
  repeat' apply And.intro
  (all_goals first | rfl | assumption | trivial | omega | (simp [-List.getD_eq_getElem?_getD, hy] <;> omega) | (simp (disch := omega) only [w64, wu64] <;> omega) | (simp (disch := omega) [-List.getD_eq_getElem?_getD, List.getD_cons_zero, List.getD_cons_succ, kCast_self, dfl_pair, dfl_int, w64, wu64, hy] <;> omega) | (rw [Bool.eq_iff_iff]; simp (disch := omega) [-List.getD_eq_getElem?_getD, List.getD_cons_zero, List.getD_cons_succ, kCast_self, dfl_pair, dfl_int, w64, wu64, hy] <;> omega) | (simp_all [-List.getD_eq_getElem?_getD] <;> omega))
theorem mov_skip (c : Cnf) (h : c.Ok) (l : List ThT) (hl : l.length ≤ 60) (g : Nat) (p q : Int) (b : Bool) (m : MemS) (k : Nat) (hk : k < l.length) (p1 q1 : Int) (hy : l.getD k (dfl IvK) = (p1, q1)) (hx : ¬ thOk c (p1, q1)) (hq : -9223372036854775808 ≤ q1 ∧ q1 ≤ 9223372036854775807)
    (ih : Goods (gMov c l) (mvSt c l g (k + 1) p q b m)) : Goods (gMov c l) (mvSt c l g k p q b m) := by
  have sz := law_size false c h p1 q1 hq
  have hz : sizeN c (p1, q1) = 0 := by
    apply Classical.byContradiction; intro hn
    exact hx ((size_ne c h (p1, q1)).1 hn)
  rw [hz] at sz
  refine Goods.to 2000 [.b true, .c (.of sz), .b true, .l, .stop] mixed (ih) (by kernel_rfl) ?_
  show Yes _
  repeat' apply And.intro
  (all_goals first | rfl | assumption | trivial | omega | (simp [-List.getD_eq_getElem?_getD, hy] <;> omega) | (simp (disch := omega) only [w64, wu64] <;> omega) | (simp (disch := omega) [-List.getD_eq_getElem?_getD, List.getD_cons_zero, List.getD_cons_succ, kCast_self, dfl_pair, dfl_int, w64, wu64, hy] <;> omega) | (rw [Bool.eq_iff_iff]; simp (disch := omega) [-List.getD_eq_getElem?_getD, List.getD_cons_zero, List.getD_cons_succ, kCast_self, dfl_pair, dfl_int, w64, wu64, hy] <;> omega) | (simp_all [-List.getD_eq_getElem?_getD] <;> omega))
theorem mov_0 (c : Cnf) (h : c.Ok) (l : List ThT) (hl : l.length ≤ 60) (hq : ∀ k, k < l.length → -9223372036854775808 ≤ (l.getD k (0, 0)).2 ∧ (l.getD k (0, 0)).2 ≤ 9223372036854775807) (G : Nat) (hG : (G : Int) = 64 * c.s) (g : Nat) (hg : g < G) : ∀ (j k w : Nat) (p q : Int) (b : Bool) (m : MemS), k + j = l.length → w < 18446744073709551616 → thIs w = b → thOf w = (p, q) → OneW m G g w → Goods (gMov c l) (mvSt c l g k p q b m)
  | 0, k, w, p, q, b, m, hk, hw, hb, ht, hm => by
    obtain rfl : k = l.length := by omega
    exact mov_end c h l hl G hG g hg w hw p q b hb ht m hm
  | j + 1, k, w, p, q, b, m, hk, hw, hb, ht, hm => by
    obtain ⟨⟨p1, q1⟩, hy⟩ : ∃ x, l.getD k (0, 0) = x := ⟨_, rfl⟩
    have hq1 := hq k (by omega)
    rw [hy] at hq1
    by_cases hx : thOk c (p1, q1)
    · obtain ⟨t1, t2⟩ := code_of h hx
      exact mov_step c h l hl G hG g hg w p q b m hm k (by omega) p1 q1 hy hx hq1 fun m' hm' => mov_0 c h l hl hq G hG g hg j (k + 1) _ p1 q1 true m' (by omega) (code_lt _) t1 t2 hm'
    · exact mov_skip c h l hl g p q b m k (by omega) p1 q1 hy hx hq1 (mov_0 c h l hl hq G hG g hg j (k + 1) w p q b m (by omega) hw hb ht hm)
set_option maxHeartbeats 2000000 in
theorem LiveMoves_tri (c : Cnf) (hc : c.cl.length ≤ 9223372036854775807) (gr : Nat) (hgr : gr ≤ 65535) (l : List ThT) (hll : l.length ≤ 9223372036854775807) (hq : ∀ k, k < l.length → -9223372036854775808 ≤ (l.getD k (0, 0)).2 ∧ (l.getD k (0, 0)).2 ≤ 9223372036854775807) : Tri En 4 [cnfA 0 c, .int .u16 gr, .slice 1 0 l.length] [.tab false (.int .i64) c.cl, .tab false IvK l] (.bl true) (gones 2) := by
  refine Tri.of Tryd.func4 rfl Tryd.call4 rfl ?_
  by_cases h : c.Ok
  · by_cases hl : l.length ≤ 60
    · have s0 := h.s0
      have s1 := h.s1
      have l1 := h.l1
      obtain ⟨G, hG⟩ : ∃ G : Nat, (G : Int) = 64 * c.s := ⟨(64 * c.s).toNat, by omega⟩
      have ls := live_size false c h.toSmall
      rw [← hG] at ls
      have hm := mem_new (G : Int)
      rw [show (min (max (G : Int) 0) 16777216).toNat = G by omega] at hm
      have hw0 : (⟨List.replicate G 0, 0, 0, 0, 0⟩ : MemS).words = List.replicate G 0 := rfl
      generalize (⟨List.replicate G 0, 0, 0, 0, 0⟩ : MemS) = m0 at hm hw0
      have nw := new_tri m0 false (0 : Nat) c l1
      have eg := tmod_nat gr G
      have hgl : gr % G < G := Nat.mod_lt _ (by omega)
      generalize gr % G = g at eg hgl
      rw [hG] at eg
      have h0 : OneW m0 G g 0 := by
        unfold OneW
        rw [hw0]
        refine List.ext_getElem? fun i => ?_
        rw [List.getElem?_set, List.getElem?_replicate, List.length_replicate]
        by_cases e : g = i
        · subst e; simp [hgl]
        · rw [if_neg e]
      have ih := mov_0 c h l hl hq G hG g hgl l.length 0 0 0 0 false m0 (by omega) (by omega) th_zero.1 th_zero.2 h0
      refine Goods.to 2000 [.c (.of speaks_tri), .c (.of (may_yes false c h)), .b false, .c (.of ls), .c (.of hm), .c (.of nw), .l, .stop] mixed (ih) (by kernel_rfl) ?_
      show Yes _
      repeat' apply And.intro
      (all_goals first | rfl | assumption | trivial | omega | (simp [-List.getD_eq_getElem?_getD, eg] <;> omega) | (simp (disch := omega) only [w64, wu64] <;> omega) | (simp (disch := omega) [-List.getD_eq_getElem?_getD, List.getD_cons_zero, List.getD_cons_succ, kCast_self, dfl_pair, dfl_int, w64, wu64, eg] <;> omega) | (rw [Bool.eq_iff_iff]; simp (disch := omega) [-List.getD_eq_getElem?_getD, List.getD_cons_zero, List.getD_cons_succ, kCast_self, dfl_pair, dfl_int, w64, wu64, eg] <;> omega) | (simp_all [-List.getD_eq_getElem?_getD] <;> omega))
    · refine Goods.fin 2000 [.c (.of speaks_tri), .c (.of (may_yes false c h)), .b true] mixed Tryd.func4 ?_
      show Yes _
      repeat' apply And.intro
      (all_goals first | rfl | assumption | trivial | omega | (simp [-List.getD_eq_getElem?_getD] <;> omega) | (simp (disch := omega) only [w64, wu64] <;> omega) | (simp (disch := omega) [-List.getD_eq_getElem?_getD, List.getD_cons_zero, List.getD_cons_succ, kCast_self, dfl_pair, dfl_int, w64, wu64] <;> omega) | (rw [Bool.eq_iff_iff]; simp (disch := omega) [-List.getD_eq_getElem?_getD, List.getD_cons_zero, List.getD_cons_succ, kCast_self, dfl_pair, dfl_int, w64, wu64] <;> omega) | (simp_all [-List.getD_eq_getElem?_getD] <;> omega))
  · refine Goods.fin 2000 [.c (.of speaks_tri), .c (.of (may_no false c hc h))] mixed Tryd.func4 ?_
    show Yes _
    repeat' apply And.intro
    (all_goals first | rfl | assumption | trivial | omega | (simp [-List.getD_eq_getElem?_getD] <;> omega) | (simp (disch := omega) only [w64, wu64] <;> omega) | (simp (disch := omega) [-List.getD_eq_getElem?_getD, List.getD_cons_zero, List.getD_cons_succ, kCast_self, dfl_pair, dfl_int, w64, wu64] <;> omega) | (rw [Bool.eq_iff_iff]; simp (disch := omega) [-List.getD_eq_getElem?_getD, List.getD_cons_zero, List.getD_cons_succ, kCast_self, dfl_pair, dfl_int, w64, wu64] <;> omega) | (simp_all [-List.getD_eq_getElem?_getD] <;> omega))
theorem th_bounds {l : List ThT} (h : ∀ y ∈ l, okK IvK y) : ∀ k, k < l.length → -9223372036854775808 ≤ (l.getD k (0, 0)).2 ∧ (l.getD k (0, 0)).2 ≤ 9223372036854775807 := fun k hk => wf_i64 (h (l.getD k (0, 0)) (by simp [List.getD, hk])).2
theorem LiveMoves_law (d : dats ([(true, (.pair (.int .i64) (.pair (.int .i64) (.pair (.int .i64) (.pair (.int .i64) (.pair (.slice (.int .i64)) .unit)))))), (false, (.int .u16)), (false, (.slice (.pair (.int .i64) (.pair (.int .i64) .unit))))] : List (Bool × Sh))) (hd : datsOk ([(true, (.pair (.int .i64) (.pair (.int .i64) (.pair (.int .i64) (.pair (.int .i64) (.pair (.slice (.int .i64)) .unit)))))), (false, (.int .u16)), (false, (.slice (.pair (.int .i64) (.pair (.int .i64) .unit))))] : List (Bool × Sh)) d) : Tri En 4 (argsOf ([(true, (.pair (.int .i64) (.pair (.int .i64) (.pair (.int .i64) (.pair (.int .i64) (.pair (.slice (.int .i64)) .unit)))))), (false, (.int .u16)), (false, (.slice (.pair (.int .i64) (.pair (.int .i64) .unit))))] : List (Bool × Sh)) d 0) (objsOf ([(true, (.pair (.int .i64) (.pair (.int .i64) (.pair (.int .i64) (.pair (.int .i64) (.pair (.slice (.int .i64)) .unit)))))), (false, (.int .u16)), (false, (.slice (.pair (.int .i64) (.pair (.int .i64) .unit))))] : List (Bool × Sh)) d) (.bl true) (gones (cnts ([(true, (.pair (.int .i64) (.pair (.int .i64) (.pair (.int .i64) (.pair (.int .i64) (.pair (.slice (.int .i64)) .unit)))))), (false, (.int .u16)), (false, (.slice (.pair (.int .i64) (.pair (.int .i64) .unit))))] : List (Bool × Sh)))) := by
  obtain ⟨⟨w, s, b, t, cl, _⟩, gr, l, _⟩ := d
  obtain ⟨⟨h0, h1, h2, h3, ⟨h4, _⟩, _⟩, h5, ⟨h6, h7⟩, _⟩ := hd
  obtain ⟨gr, rfl, hgr⟩ := wf_u16 h5
  exact LiveMoves_tri ⟨w, s, b, t, cl⟩ (maxLen_le h4) gr hgr l (maxLen_le h6) (th_bounds h7)
end Go.Proofs.YtokblanedeiegaaDoor.E

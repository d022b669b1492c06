/- Package stock: a new stock, all classes; classes that there aren't. -/
import Derived.Test.YthlpfafmiakfdaaDoorPstkx
import Derived.Test.YthlpfafmiakfdaaDoorEw
namespace Go.Proofs.YthlpfafmiakfdaaDoor.E
set_option linter.unusedSimpArgs false
set_option linter.unusedVariables false
open Go
set_option maxRecDepth 100000
theorem Goods.turn {α : Type} {G : Frm} {todo : List Item} {tm : Tm} {os : List AObj} {os' : α → List AObj} (h : ∀ x, Goods G ⟨.none, todo, tm, hp (os' x)⟩)
    (hs : ∀ B ρ w, RelH B ρ (hp os) w → ∃ x ρ', RelH B ρ' (hp (os' x)) w ∧ (∀ q l, ρ q = some l → ρ' q = some l) ∧ ∀ b, Blks ρ' (hp (os' x)) b → Blks ρ (hp os) b) : Goods G ⟨.none, todo, tm, hp os⟩ := by
  intro B ρ0 w0 ρ a w hi ht ha
  obtain ⟨x, ρ', h1, h2, h3⟩ := hs _ ρ w hi.rel
  exact h x B ρ0 w0 ρ' a w ⟨h1, hi.kept, fun q hq => hi.own q (h3 q hq), fun i l h4 h5 => h2 i l (hi.stable i l h4 h5), hi.glob⟩ (fun t => (ht t).mono h2) ha
def psN : PS := ⟨[], 0, 0, []⟩
abbrev nils (n : Nat) : List Value := List.replicate n (.slice none 0 0)
theorem nil_fam (w : World) (n : Nat) : FamAt w (fun _ => True) (List.replicate n (pileX psN)) (nils n) (List.replicate n ⟨0, 0, 2, 0⟩) ∧ ∀ b, ¬ famFoot (fun _ => True) (List.replicate n (pileX psN)) (List.replicate n ⟨0, 0, 2, 0⟩) b := by
  have get : ∀ {β : Type} (z v : β) (i : Nat), (List.replicate n z)[i]? = some v → v = z := fun z v i hv => by
    rw [List.getElem?_replicate] at hv
    split at hv
    · exact (Option.some.inj hv).symm
    · cases hv
  have nf : ∀ b, ¬ Foot ⟨0, 0, 2, 0⟩ (pileX psN).1 b := fun b hb => absurd (hb.small rfl).1.2 (Nat.lt_irrefl 0)
  refine ⟨⟨by simp [nils], by simp, fun i x l u _ h1 h2 h3 => ?_, fun i j x y l m b _ _ _ h1 _ h3 _ h5 _ => ?_⟩, ?_⟩
  · rw [get _ _ _ h1, get _ _ _ h2, get _ _ _ h3]
    exact ⟨⟨rfl, Nat.le_refl _, fun j x hj => by simp [pileX, psN] at hj, fun h => absurd h (Nat.lt_irrefl 0)⟩, den_nil0 (l := ⟨0, 0, 2, 0⟩) (by simp [upd]), rfl⟩
  · rw [get _ _ _ h1, get _ _ _ h3] at h5
    exact nf b h5
  · rintro b ⟨i, x, l, _, h1, h2, h3⟩
    rw [get _ _ _ h1, get _ _ _ h2] at h3
    exact nf b h3
noncomputable abbrev gNewB (own : Bool) (c : Cnf) : Frm := ⟨En, 10, Tryd.f10.ntmps, [.tab own (.int .i64) c.cl], .ptr 1 0 0, [.tab own (.int .i64) c.cl, stkC 2 c, clsO c, .link 5, .link 6, .big (FQ ((List.replicate c.cl.length psN).map pileX)), .big (FQ ((List.replicate c.cl.length psN).map mapX))]⟩
abbrev nwO (own : Bool) (c : Cnf) (i : Nat) (us : List Value) : List AObj := [.tab own (.int .i64) c.cl, cnfC c, stkN c i, clsO c, .tab true .raw (nils c.cl.length), .tab true .raw us, .big (GQ us (List.replicate i (mapX psN)))]
theorem newB_0 (own : Bool) (c : Cnf) (hc : c.cl.length ≤ 16) (h0 : 1 ≤ c.cl.length) : ∀ (j i : Nat) (us : List Value), i + j = c.cl.length → us.length = i →
    Goods (gNewB own c) ⟨.none, lp Tryd.f10 0, newTm c i, hp (nwO own c i us)⟩
  | 0, i, us, hi, hu => by
    obtain rfl : i = c.cl.length := by omega
    have ih : Goods (gNewB own c) ⟨.none, lp Tryd.f10 0, newTm c c.cl.length, hp [.tab own (.int .i64) c.cl, cnfC c, stkN c c.cl.length, clsO c, .link 8, .link 9, .gone, .gone, .big (FQ ((List.replicate c.cl.length psN).map pileX)), .big (FQ ((List.replicate c.cl.length psN).map mapX))]⟩ := by
      refine Goods.fin 2000 [.b false] mixed Tryd.func10 ?_
      show Yes _
      repeat' apply And.intro
      (all_goals first | rfl | assumption | trivial | omega | (simp [-List.getD_eq_getElem?_getD] <;> omega) | (simp (disch := omega) only [w64, wu64] <;> omega) | (simp (disch := omega) [-List.getD_eq_getElem?_getD, List.getD_cons_zero, List.getD_cons_succ, kCast_self, dfl_pair, dfl_int, w64, wu64] <;> omega) | (rw [Bool.eq_iff_iff]; simp (disch := omega) [-List.getD_eq_getElem?_getD, List.getD_cons_zero, List.getD_cons_succ, kCast_self, dfl_pair, dfl_int, w64, wu64] <;> omega) | (simp_all [-List.getD_eq_getElem?_getD] <;> omega))
    refine Goods.turn (α := Unit) (fun _ => ih) fun B ρ w h => ?_
    obtain ⟨f1, f2⟩ := nil_fam w c.cl.length
    obtain ⟨r1, b1⟩ := h.emptyG f1 f2
    have m1 := upd_mono h ⟨0, 0, 0, 0⟩
    obtain ⟨ρ2, r2, m2, b2⟩ := r1.wrapG (i := 4) (r := 7) rfl rfl (by simp [nils]; omega)
    obtain ⟨ρ3, r3, m3, b3⟩ := r2.wrapG (i := 5) (r := 6) (us := us) (xs := List.replicate c.cl.length (mapX psN)) rfl rfl (by omega)
    obtain ⟨r4, b4⟩ := hp_eq (os := [.tab own (.int .i64) c.cl, cnfC c, stkN c c.cl.length, clsO c, .link 8, .link 9, .gone, .gone, .big (FQ ((List.replicate c.cl.length psN).map pileX)), .big (FQ ((List.replicate c.cl.length psN).map mapX))]) rfl (fun i hi => match i, hi with
      | 0, _ => rfl | 1, _ => rfl | 2, _ => rfl | 3, _ => rfl | 4, _ => rfl | 5, _ => rfl | 6, _ => rfl | 7, _ => rfl | 8, _ => by show _ = AObj.big (FQ ((List.replicate c.cl.length psN).map pileX)); rw [List.map_replicate]; rfl | 9, _ => by show _ = AObj.big (FQ ((List.replicate c.cl.length psN).map mapX)); rw [List.map_replicate]; rfl | n + 10, h => absurd h (by simp)) r3
    exact ⟨(), ρ3, r4, fun q l hq => m3 q l (m2 q l (m1 q l hq)), fun b hb => b1 b (b2 b (b3 b (b4 b hb)))⟩
  | j + 1, i, us, hi, hu => by
    have next := fun u : Value => newB_0 own c hc h0 j (i + 1) (us ++ [u]) (by omega) (by simp [hu])
    have mid : ∀ u : Value, Goods (gNewB own c) ⟨.none, lp Tryd.f10 0, newTm c (i + 1), hp [.tab own (.int .i64) c.cl, cnfC c, stkN c (i + 1), clsO c, .tab true .raw (nils c.cl.length), .tab true .raw (us ++ [u]), .gone, .gone, .big (GQ (us ++ [u]) (List.replicate (i + 1) (mapX psN)))]⟩ := fun u => by
      have nx := next u
      refine Goods.to 2000 [.stop] mixed (nx) (by kernel_rfl) ?_
      show Yes _
      repeat' apply And.intro
      (all_goals first | rfl | assumption | trivial | omega | (simp [-List.getD_eq_getElem?_getD] <;> omega) | (simp (disch := omega) only [w64, wu64] <;> omega) | (simp (disch := omega) [-List.getD_eq_getElem?_getD, List.getD_cons_zero, List.getD_cons_succ, kCast_self, dfl_pair, dfl_int, w64, wu64] <;> omega) | (rw [Bool.eq_iff_iff]; simp (disch := omega) [-List.getD_eq_getElem?_getD, List.getD_cons_zero, List.getD_cons_succ, kCast_self, dfl_pair, dfl_int, w64, wu64] <;> omega) | (simp_all [-List.getD_eq_getElem?_getD] <;> omega))
    have ih : Goods (gNewB own c) ⟨.none, lp Tryd.f10 0, newTm c (i + 1), hp ([.tab own (.int .i64) c.cl, cnfC c, stkN c (i + 1), clsO c, .tab true .raw (nils c.cl.length)] ++ .mix us.length (eqP us []) (.map 7) :: [.big (GQ us (List.replicate i (mapX psN))), .map BlkK .unit 0 []])⟩ := by
      refine Goods.turn mid fun B ρ w h => ?_
      obtain ⟨l5, h5, ho5⟩ := h.obj 5 (by intro hh; cases hh)
      obtain ⟨us', u, ws', e1, ⟨rfl, rfl⟩, hd, hz, hlen, hel, hrow⟩ := (ho5 : ObjRel B ρ w l5 (.mix us.length (eqP us []) (.map 7)))
      obtain ⟨l7, h7, _⟩ := h.obj 7 (by intro hh; cases hh)
      obtain ⟨r1, b1⟩ := h.mid (x := .tab true .raw (us' ++ [u])) h5 (by simp) ⟨hz, hlen, hel, hrow⟩ (fun hh => hh)
      obtain ⟨ρ2, r2, m2, b2⟩ := r1.absorbG (j := 7) (r := 6) (us := us') (u := u) (xs := List.replicate i (mapX psN)) (o := .map BlkK .unit 0 []) (av := .map 0) h7 rfl rfl rfl (by simp) (den_map0 h7 hd)
      obtain ⟨r3, b3⟩ := hp_eq (os := [.tab own (.int .i64) c.cl, cnfC c, stkN c (i + 1), clsO c, .tab true .raw (nils c.cl.length), .tab true .raw (us' ++ [u]), .gone, .gone, .big (GQ (us' ++ [u]) (List.replicate (i + 1) (mapX psN)))]) rfl (fun q hq => match q, hq with
        | 0, _ => rfl | 1, _ => rfl | 2, _ => rfl | 3, _ => rfl | 4, _ => rfl | 5, _ => rfl | 6, _ => rfl | 7, _ => rfl | 8, _ => by rw [List.replicate_succ']; rfl | n + 9, h => absurd h (by simp)) r2
      exact ⟨u, ρ2, r3, m2, fun b hb => b1 b (b2 b (b3 b hb))⟩
    refine Goods.to 2000 [.b true, .l, .stop] mixed (ih) (by kernel_rfl) ?_
    show Yes _
    repeat' apply And.intro
    (all_goals first | rfl | assumption | trivial | omega | (simp [-List.getD_eq_getElem?_getD] <;> omega) | (simp (disch := omega) only [w64, wu64] <;> omega) | (simp (disch := omega) [-List.getD_eq_getElem?_getD, List.getD_cons_zero, List.getD_cons_succ, kCast_self, dfl_pair, dfl_int, w64, wu64] <;> omega) | (rw [Bool.eq_iff_iff]; simp (disch := omega) [-List.getD_eq_getElem?_getD, List.getD_cons_zero, List.getD_cons_succ, kCast_self, dfl_pair, dfl_int, w64, wu64] <;> omega) | (simp_all [-List.getD_eq_getElem?_getD] <;> omega))
theorem new_B (own : Bool) (c : Cnf) (h : c.Ok) : Tri En 10 [cnfA 0 c] [.tab own (.int .i64) c.cl] (.ptr 1 0 0) [.tab own (.int .i64) c.cl, stkC 2 c, clsO c, .link 5, .link 6, .big (FQ ((List.replicate c.cl.length psN).map pileX)), .big (FQ ((List.replicate c.cl.length psN).map mapX))] := by
  have l1 := h.l1
  have l0 := h.l0
  have h1 := conf_copy own c (by omega)
  have ih2 : Goods (gNewB own c) ⟨.none, lp Tryd.f10 0, newTm c 0, hp [.tab own (.int .i64) c.cl, cnfC c, stkN c 0, clsO c, .tab true .raw (nils c.cl.length), .tab true .raw []]⟩ := by
    refine Goods.turn (α := Unit) (fun _ => newB_0 own c l1 l0 c.cl.length 0 [] (by omega) rfl) fun B ρ w h => ?_
    obtain ⟨r1, b1⟩ := h.emptyG (us := []) (xs := []) (ls := []) ⟨rfl, rfl, fun i x l u _ hh => by simp at hh, fun i j x y l m b _ _ _ hh => by simp at hh⟩ (fun b ⟨i, x, l, _, hh, _⟩ => by simp at hh)
    have m1 := upd_mono h ⟨0, 0, 0, 0⟩
    obtain ⟨r2, b2⟩ := hp_eq (os := nwO own c 0 []) rfl (fun q hq => match q, hq with
      | 0, _ => rfl | 1, _ => rfl | 2, _ => rfl | 3, _ => rfl | 4, _ => rfl | 5, _ => rfl | 6, _ => rfl | n + 7, h => absurd h (by simp)) r1
    exact ⟨(), _, r2, m1, fun b hb => b1 b (b2 b hb)⟩
  have ih : Goods (gNewB own c) ⟨.none, lp Tryd.f10 0, newTm c 0, hp [.tab own (.int .i64) c.cl, cnfC c, .cells ([.int .i64 c.w, .int .i64 c.s, .int .i64 c.b, .int .i64 c.t, .slice 3 0 c.cl.length, .slice 4 0 c.cl.length] ++ .nilslice :: []), clsO c, .tab true .raw (nils c.cl.length)]⟩ :=
    Goods.nilCell .raw (pre := [.tab own (.int .i64) c.cl, cnfC c]) (post := [clsO c, .tab true .raw (nils c.cl.length)]) ih2
  refine Tri.of Tryd.func10 rfl Tryd.call10 rfl ?_
  refine Goods.to 2000 [.c (.of h1), .l, .stop] mixed (ih) (by kernel_rfl) ?_
  show Yes _
  repeat' apply And.intro
  (all_goals first | rfl | assumption | trivial | omega | (simp [-List.getD_eq_getElem?_getD] <;> omega) | (simp (disch := omega) only [w64, wu64] <;> omega) | (simp (disch := omega) [-List.getD_eq_getElem?_getD, List.getD_cons_zero, List.getD_cons_succ, kCast_self, dfl_pair, dfl_int, w64, wu64] <;> omega) | (rw [Bool.eq_iff_iff]; simp (disch := omega) [-List.getD_eq_getElem?_getD, List.getD_cons_zero, List.getD_cons_succ, kCast_self, dfl_pair, dfl_int, w64, wu64] <;> omega) | (simp_all [-List.getD_eq_getElem?_getD] <;> omega))
/-! Classes that there aren't. -/
theorem is_N (c : Cnf) (hc : c.cl.length ≤ 16) (pl : List PS) (k : Int) (hk : ¬ (0 ≤ k ∧ k < c.cl.length)) : Tri En 28 [.ptr 0 0 0, .int .i64 k] (stkB c pl) (.bl false) (stkB c pl) := by
  refine Tri.of Tryd.func28 rfl Tryd.call28 rfl ?_
  by_cases h0 : 0 ≤ k
  · refine Goods.fin 2000 [.s 6 (some true) true true, .s 14 (some false) true true] mixed Tryd.func28 ?_
    show Yes _
    repeat' apply And.intro
    (all_goals first | rfl | assumption | trivial | omega | (simp [-List.getD_eq_getElem?_getD] <;> omega) | (simp (disch := omega) only [w64, wu64] <;> omega) | (simp (disch := omega) [-List.getD_eq_getElem?_getD, List.getD_cons_zero, List.getD_cons_succ, kCast_self, dfl_pair, dfl_int, w64, wu64] <;> omega) | (rw [Bool.eq_iff_iff]; simp (disch := omega) [-List.getD_eq_getElem?_getD, List.getD_cons_zero, List.getD_cons_succ, kCast_self, dfl_pair, dfl_int, w64, wu64] <;> omega) | (simp_all [-List.getD_eq_getElem?_getD] <;> omega))
  · refine Goods.fin 2000 [.s 6 (some false) true true] mixed Tryd.func28 ?_
    show Yes _
    repeat' apply And.intro
    (all_goals first | rfl | assumption | trivial | omega | (simp [-List.getD_eq_getElem?_getD] <;> omega) | (simp (disch := omega) only [w64, wu64] <;> omega) | (simp (disch := omega) [-List.getD_eq_getElem?_getD, List.getD_cons_zero, List.getD_cons_succ, kCast_self, dfl_pair, dfl_int, w64, wu64] <;> omega) | (rw [Bool.eq_iff_iff]; simp (disch := omega) [-List.getD_eq_getElem?_getD, List.getD_cons_zero, List.getD_cons_succ, kCast_self, dfl_pair, dfl_int, w64, wu64] <;> omega) | (simp_all [-List.getD_eq_getElem?_getD] <;> omega))
theorem len_N (c : Cnf) (hc : c.cl.length ≤ 16) (pl : List PS) (k : Int) (hk : ¬ (0 ≤ k ∧ k < c.cl.length)) : Tri En 19 [.ptr 0 0 0, .int .i64 k] (stkB c pl) (.int .i64 0) (stkB c pl) := by
  have h1 := is_N c hc pl k hk
  refine Tri.of Tryd.func19 rfl Tryd.call19 rfl ?_
  refine Goods.fin 2000 [.c (.of h1)] mixed Tryd.func19 ?_
  show Yes _
  repeat' apply And.intro
  (all_goals first | rfl | assumption | trivial | omega | (simp [-List.getD_eq_getElem?_getD] <;> omega) | (simp (disch := omega) only [w64, wu64] <;> omega) | (simp (disch := omega) [-List.getD_eq_getElem?_getD, List.getD_cons_zero, List.getD_cons_succ, kCast_self, dfl_pair, dfl_int, w64, wu64] <;> omega) | (rw [Bool.eq_iff_iff]; simp (disch := omega) [-List.getD_eq_getElem?_getD, List.getD_cons_zero, List.getD_cons_succ, kCast_self, dfl_pair, dfl_int, w64, wu64] <;> omega) | (simp_all [-List.getD_eq_getElem?_getD] <;> omega))
theorem pop_N (c : Cnf) (hc : c.cl.length ≤ 16) (pl : List PS) (k : Int) (hk : ¬ (0 ≤ k ∧ k < c.cl.length)) : Tri En 18 [.ptr 0 0 0, .int .i64 k] (stkB c pl) (.tuple [blkA (0, 0), .bl false]) (stkB c pl) := by
  have h1 := len_N c hc pl k hk
  refine Tri.of Tryd.func18 rfl Tryd.call18 rfl ?_
  refine Goods.fin 2000 [.c (.of h1), .b true] mixed Tryd.func18 ?_
  show Yes _
  repeat' apply And.intro
  (all_goals first | rfl | assumption | trivial | omega | (simp [-List.getD_eq_getElem?_getD] <;> omega) | (simp (disch := omega) only [w64, wu64] <;> omega) | (simp (disch := omega) [-List.getD_eq_getElem?_getD, List.getD_cons_zero, List.getD_cons_succ, kCast_self, dfl_pair, dfl_int, w64, wu64] <;> omega) | (rw [Bool.eq_iff_iff]; simp (disch := omega) [-List.getD_eq_getElem?_getD, List.getD_cons_zero, List.getD_cons_succ, kCast_self, dfl_pair, dfl_int, w64, wu64] <;> omega) | (simp_all [-List.getD_eq_getElem?_getD] <;> omega))
theorem spill_N (c : Cnf) (h : c.Ok) (pl : List PS) (k : Int) (hk : ¬ (0 ≤ k ∧ k < c.cl.length)) : Tri En 15 [.ptr 0 0 0, .int .i64 k] (stkB c pl) (.tuple [.int .i64 0, .int .u64 0, .bl false]) (stkB c pl) := by
  have b1 := h.b1
  have b0 := h.b0
  have h1 := len_N c h.l1 pl k hk
  refine Tri.of Tryd.func15 rfl Tryd.call15 rfl ?_
  refine Goods.fin 2000 [.c (.of h1), .b true] mixed Tryd.func15 ?_
  show Yes _
  repeat' apply And.intro
  (all_goals first | rfl | assumption | trivial | omega | (simp [-List.getD_eq_getElem?_getD] <;> omega) | (simp (disch := omega) only [w64, wu64] <;> omega) | (simp (disch := omega) [-List.getD_eq_getElem?_getD, List.getD_cons_zero, List.getD_cons_succ, kCast_self, dfl_pair, dfl_int, w64, wu64] <;> omega) | (rw [Bool.eq_iff_iff]; simp (disch := omega) [-List.getD_eq_getElem?_getD, List.getD_cons_zero, List.getD_cons_succ, kCast_self, dfl_pair, dfl_int, w64, wu64] <;> omega) | (simp_all [-List.getD_eq_getElem?_getD] <;> omega))
theorem blocks_N (c : Cnf) (hc : c.cl.length ≤ 16) (pl : List PS) (k : Int) (hk : ¬ (0 ≤ k ∧ k < c.cl.length)) : Tri En 13 [.ptr 0 0 0, .int .i64 k] (stkB c pl) .nilslice (stkB c pl) := by
  have h1 := is_N c hc pl k hk
  refine Tri.of Tryd.func13 rfl Tryd.call13 rfl ?_
  refine Goods.fin 2000 [.c (.of h1)] mixed Tryd.func13 ?_
  show Yes _
  repeat' apply And.intro
  (all_goals first | rfl | assumption | trivial | omega | (simp [-List.getD_eq_getElem?_getD] <;> omega) | (simp (disch := omega) only [w64, wu64] <;> omega) | (simp (disch := omega) [-List.getD_eq_getElem?_getD, List.getD_cons_zero, List.getD_cons_succ, kCast_self, dfl_pair, dfl_int, w64, wu64] <;> omega) | (rw [Bool.eq_iff_iff]; simp (disch := omega) [-List.getD_eq_getElem?_getD, List.getD_cons_zero, List.getD_cons_succ, kCast_self, dfl_pair, dfl_int, w64, wu64] <;> omega) | (simp_all [-List.getD_eq_getElem?_getD] <;> omega))
theorem push_N (c : Cnf) (h : c.Ok) (pl : List PS) (k : Int) (hk : ¬ (0 ≤ k ∧ k < c.cl.length)) (b : Blk) : Tri En 14 [.ptr 0 0 0, .int .i64 k, blkA b] (stkB c pl) (.bl false) (stkB c pl) := by
  have h1 := aadr_tri true c h k b
  have e : adrN c k b = 0 := (adrN_zero h).2 fun hb => by
    have := hb.2.2
    unfold capN at this
    rw [if_neg hk] at this
    omega
  rw [e] at h1
  refine Tri.of Tryd.func14 rfl Tryd.call14 rfl ?_
  refine Goods.fin 2000 [.c (.of h1), .b true] mixed Tryd.func14 ?_
  show Yes _
  repeat' apply And.intro
  (all_goals first | rfl | assumption | trivial | omega | (simp [-List.getD_eq_getElem?_getD] <;> omega) | (simp (disch := omega) only [w64, wu64] <;> omega) | (simp (disch := omega) [-List.getD_eq_getElem?_getD, List.getD_cons_zero, List.getD_cons_succ, kCast_self, dfl_pair, dfl_int, w64, wu64] <;> omega) | (rw [Bool.eq_iff_iff]; simp (disch := omega) [-List.getD_eq_getElem?_getD, List.getD_cons_zero, List.getD_cons_succ, kCast_self, dfl_pair, dfl_int, w64, wu64] <;> omega) | (simp_all [-List.getD_eq_getElem?_getD] <;> omega))
noncomputable abbrev gFillN (c : Cnf) (pl : List PS) : Frm := ⟨En, 20, Tryd.f20.ntmps, stkB c pl, .tuple [], stkB c pl⟩
theorem fillN_0 (c : Cnf) (h : c.Ok) (pl : List PS) (k : Int) (hk : ¬ (0 ≤ k ∧ k < c.cl.length)) (super : Int) (l : List Int) (hl : l.length ≤ 64) : ∀ (j i : Nat), i + j = l.length →
    Goods (gFillN c pl) ⟨.none, lp Tryd.f20 0, [(0, .ptr 0 0 0), (1, .int .i64 k), (2, .int .i64 super), (8, .slice 6 0 l.length), (13, .int .i64 l.length), (14, .int .i64 i)], hp (stkB c pl ++ [.tab true (.int .i64) l])⟩
  | 0, i, hi => by
    refine Goods.fin 2000 [.b false] mixed Tryd.func20 ?_
    show Yes _
    repeat' apply And.intro
    (all_goals first | rfl | assumption | trivial | omega | (simp [-List.getD_eq_getElem?_getD] <;> omega) | (simp (disch := omega) only [w64, wu64] <;> omega) | (simp (disch := omega) [-List.getD_eq_getElem?_getD, List.getD_cons_zero, List.getD_cons_succ, kCast_self, dfl_pair, dfl_int, w64, wu64] <;> omega) | (rw [Bool.eq_iff_iff]; simp (disch := omega) [-List.getD_eq_getElem?_getD, List.getD_cons_zero, List.getD_cons_succ, kCast_self, dfl_pair, dfl_int, w64, wu64] <;> omega) | (simp_all [-List.getD_eq_getElem?_getD] <;> omega))
  | j + 1, i, hi => by
    have h1 := push_N c h pl k hk (super, l.getD j 0)
    have ih := fillN_0 c h pl k hk super l hl j (i + 1) (by omega)
    have g0 : IntKind.i64.wrap (IntKind.i64.wrap ((l.length : Int) - 1) - (i : Int)) = (j : Int) := by
      rw [w64 (x := (l.length : Int) - 1) (by omega) (by omega), w64 (by omega) (by omega)]; omega
    have g1 : l.getD (IntKind.i64.wrap (IntKind.i64.wrap ((l.length : Int) - 1) - (i : Int))).toNat 0 = l.getD j 0 := by rw [g0, Int.toNat_natCast]
    refine Goods.to 2000 [.b true, .c (.of h1), .l, .stop] mixed (ih) (by kernel_rfl) ?_
    show Yes _
    repeat' apply And.intro
    all_goals try exact g1
    (all_goals first | rfl | assumption | trivial | omega | (simp [-List.getD_eq_getElem?_getD, g0] <;> omega) | (simp (disch := omega) only [w64, wu64] <;> omega) | (simp (disch := omega) [-List.getD_eq_getElem?_getD, List.getD_cons_zero, List.getD_cons_succ, kCast_self, dfl_pair, dfl_int, w64, wu64, g0] <;> omega) | (rw [Bool.eq_iff_iff]; simp (disch := omega) [-List.getD_eq_getElem?_getD, List.getD_cons_zero, List.getD_cons_succ, kCast_self, dfl_pair, dfl_int, w64, wu64, g0] <;> omega) | (simp_all [-List.getD_eq_getElem?_getD] <;> omega))
theorem fill_N (c : Cnf) (h : c.Ok) (pl : List PS) (k : Int) (hk : ¬ (0 ≤ k ∧ k < c.cl.length)) (super : Int) (m : Nat) (hm : m < 18446744073709551616) : Tri En 20 [.ptr 0 0 0, .int .i64 k, .int .i64 super, .int .u64 m] (stkB c pl) (.tuple []) (stkB c pl) := by
  have h1 := list_tri m hm
  have hl : (intsL (bitsL m)).length ≤ 64 := by rw [intsL_len]; exact L_le m
  generalize intsL (bitsL m) = l at *
  have ih := fillN_0 c h pl k hk super l hl l.length 0 (by omega)
  refine Tri.of Tryd.func20 rfl Tryd.call20 rfl ?_
  refine Goods.to 2000 [.c (.of h1), .l, .stop] mixed (ih) (by kernel_rfl) ?_
  show Yes _
  repeat' apply And.intro
  (all_goals first | rfl | assumption | trivial | omega | (simp [-List.getD_eq_getElem?_getD] <;> omega) | (simp (disch := omega) only [w64, wu64] <;> omega) | (simp (disch := omega) [-List.getD_eq_getElem?_getD, List.getD_cons_zero, List.getD_cons_succ, kCast_self, dfl_pair, dfl_int, w64, wu64] <;> omega) | (rw [Bool.eq_iff_iff]; simp (disch := omega) [-List.getD_eq_getElem?_getD, List.getD_cons_zero, List.getD_cons_succ, kCast_self, dfl_pair, dfl_int, w64, wu64] <;> omega) | (simp_all [-List.getD_eq_getElem?_getD] <;> omega))
end Go.Proofs.YthlpfafmiakfdaaDoor.E

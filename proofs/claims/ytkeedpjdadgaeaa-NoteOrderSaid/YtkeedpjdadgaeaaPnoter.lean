/- Books: what the document says, and how a book keeps to it. -/
import Derived.Test.YtkeedpjdadgaeaaPnote
namespace Go.Proofs.Ytkeedpjdadgaeaa.E
open Go
set_option maxRecDepth 100000

abbrev evEnd_ (e : EvT) : Int := e.2.2.2.2.2.2
/-- Where a worker's event stands that didn't end, among the first k. -/
def findK (l : List EvT) (w : Int) : Nat → Int
  | 0 => -1
  | k + 1 => if (l.getD k evD).1 = w then (if evEnd_ (l.getD k evD) = 0 then (k : Int) else -1) else findK l w k
def findI (l : List EvT) (w : Int) : Int := findK l w l.length
theorem findK_range (l : List EvT) (w : Int) : ∀ k, -1 ≤ findK l w k ∧ findK l w k < k
  | 0 => by simp [findK]
  | k + 1 => by
    have := findK_range l w k
    simp only [findK]
    split
    · split <;> omega
    · omega
theorem findI_range (l : List EvT) (w : Int) : -1 ≤ findI l w ∧ findI l w < l.length := findK_range l w _
theorem findK_spec {l : List EvT} {w : Int} : ∀ {k : Nat}, 0 ≤ findK l w k → (l.getD (findK l w k).toNat evD).1 = w ∧ evEnd_ (l.getD (findK l w k).toNat evD) = 0
  | 0, h => by simp [findK] at h
  | k + 1, h => by
    simp only [findK] at h ⊢
    split
    · rename_i h1
      rw [if_pos h1] at h
      split
      · rename_i h2; exact ⟨h1, h2⟩
      · rename_i h2; rw [if_neg h2] at h; omega
    · rename_i h1
      rw [if_neg h1] at h
      exact findK_spec h
theorem findK_congr {l l' : List EvT} {w : Int} : ∀ {k : Nat}, (∀ i, i < k → ((l.getD i evD).1 = (l'.getD i evD).1 ∧ evEnd_ (l.getD i evD) = evEnd_ (l'.getD i evD))) → findK l w k = findK l' w k
  | 0, _ => rfl
  | k + 1, h => by
    obtain ⟨h1, h2⟩ := h k (by omega)
    simp only [findK, h1, h2]
    rw [findK_congr fun i hi => h i (by omega)]
theorem getD_append_left {l : List EvT} {e : EvT} {i : Nat} (h : i < l.length) : (l ++ [e]).getD i evD = l.getD i evD := by simp [List.getD, List.getElem?_append_left h]
theorem getD_append_last {l : List EvT} {e : EvT} : (l ++ [e]).getD l.length evD = e := by simp [List.getD]
theorem findI_snoc (l : List EvT) (e : EvT) (w : Int) : findI (l ++ [e]) w = if e.1 = w then (if evEnd_ e = 0 then (l.length : Int) else -1) else findI l w := by
  unfold findI
  rw [List.length_append, List.length_singleton, findK, getD_append_last]
  rw [findK_congr (l := l ++ [e]) (l' := l) fun i hi => by rw [getD_append_left hi]; exact ⟨rfl, rfl⟩]
theorem getD_set_ne {l : List EvT} {i j : Nat} {e : EvT} (h : i ≠ j) : (l.set i e).getD j evD = l.getD j evD := by simp [List.getD, List.getElem?_set_ne h]
theorem findI_set {l : List EvT} {i : Nat} {e : EvT} (w : Int) (h1 : e.1 = (l.getD i evD).1) (h2 : evEnd_ e = evEnd_ (l.getD i evD)) (hi : i < l.length) : findI (l.set i e) w = findI l w := by
  unfold findI
  rw [List.length_set]
  refine findK_congr fun j hj => ?_
  by_cases hij : i = j
  · subst hij; rw [getD_set_ev hi]; exact ⟨h1, h2⟩
  · rw [getD_set_ne hij]; exact ⟨rfl, rfl⟩
theorem findK_end {l : List EvT} {e : EvT} {w0 : Int} {i : Nat} (w : Int) (h1 : e.1 = w0) (h2 : evEnd_ e ≠ 0) (hi : i < l.length) : ∀ {k : Nat}, k ≤ l.length → findK l w0 k = (i : Int) → findK (l.set i e) w k = if w = w0 then -1 else findK l w k
  | 0, _, h => by simp [findK] at h
  | k + 1, hk, h => by
    have hr := findK_range l w0 (k + 1)
    simp only [findK] at h ⊢
    by_cases hik : i = k
    · subst hik
      rw [getD_set_ev hi, h1]
      by_cases hw : w0 = w
      · rw [if_pos hw, if_neg h2, if_pos hw.symm]
      · have hw' : ¬ w = w0 := fun e => hw e.symm
        rw [if_neg hw, if_neg hw']
        have hl : (l.getD i evD).1 = w0 := by
          by_cases hc : (l.getD i evD).1 = w0
          · exact hc
          · rw [if_neg hc] at h
            have := findK_range l w0 i
            omega
        rw [if_neg (by rw [hl]; exact hw)]
        refine findK_congr fun j hj => ?_
        rw [getD_set_ne (by omega)]; exact ⟨rfl, rfl⟩
    · rw [getD_set_ne hik]
      have hl : ¬ (l.getD k evD).1 = w0 := by
        intro hc
        rw [if_pos hc] at h
        split at h <;> omega
      rw [if_neg hl] at h
      have ih := findK_end w h1 h2 hi (k := k) (by omega) h
      rw [ih]
      by_cases hw : w = w0
      · rw [if_pos hw, if_pos hw, if_neg (by rw [hw]; exact hl)]
      · rw [if_neg hw, if_neg hw]
theorem findI_end {l : List EvT} {e : EvT} {w0 : Int} {i : Nat} (w : Int) (h1 : e.1 = w0) (h2 : evEnd_ e ≠ 0) (hi : i < l.length) (h : findI l w0 = (i : Int)) : findI (l.set i e) w = if w = w0 then -1 else findI l w := by
  unfold findI at h ⊢
  rw [List.length_set]
  exact findK_end w h1 h2 hi (Nat.le_refl _) h

/-- A book that keeps to the document's list. -/
structure BookOk (b : BookS) : Prop where
  keys : keysOk (k := .i64) (vk := .int .i64) b.es
  get : ∀ w, getB b w = if 0 ≤ findI b.evs w then some (findI b.evs w) else none
  made : b.made = false → b.evs = []
def book0 : BookS := ⟨[], false, 0, []⟩
theorem book0_ok : BookOk book0 := ⟨List.nodup_nil, fun w => rfl, fun _ => rfl⟩
theorem BookOk.no {b : BookS} (h : BookOk b) {w : Int} (hf : findI b.evs w < 0) : getB b w = none := by rw [h.get, if_neg (by omega)]
theorem BookOk.yes {b : BookS} (h : BookOk b) {w : Int} (hf : 0 ≤ findI b.evs w) : ∃ i : Nat, i < b.evs.length ∧ findI b.evs w = (i : Int) ∧ getB b w = some (i : Int) ∧ (evAt b i).1 = w ∧ evEnd_ (evAt b i) = 0 := by
  have hr := findI_range b.evs w
  have hs := findK_spec (l := b.evs) (w := w) (k := b.evs.length) hf
  refine ⟨(findI b.evs w).toNat, by omega, by omega, ?_, hs.1, hs.2⟩
  rw [h.get, if_pos hf]; congr 1; omega
theorem BookOk.begin {b : BookS} (h : BookOk b) {w k n s : Int} (hf : findI b.evs w < 0) : BookOk (beginB b w k n s) := by
  obtain ⟨evs, made, clock, es⟩ := b
  have key : ∀ (c : Nat) (m : MapT), keysOk (k := .i64) (vk := .int .i64) m → (∀ w, mget (kk := .int .i64) (vk := .int .i64) w m = if 0 ≤ findI evs w then some (findI evs w) else none) →
      BookOk ⟨evs ++ [(w, (k, n), (0, 0), 0, s, 0, 0)], true, mclock (kk := .int .i64) w c m, mput (kk := .int .i64) (vk := .int .i64) w (evs.length : Int) c m⟩ := by
    intro c m h1 h2
    refine ⟨keysOk_put h1, fun w' => ?_, fun h => by cases h⟩
    show mget (kk := .int .i64) (vk := .int .i64) w' (mput (kk := .int .i64) (vk := .int .i64) w (evs.length : Int) c m) = _
    rw [mget_put, findI_snoc, h2]
    by_cases hw : w' = w
    · rw [if_pos hw, if_pos hw.symm, if_pos rfl, if_pos (by omega)]
    · have hw' : ¬ w = w' := fun e => hw e.symm
      rw [if_neg hw, if_neg hw']
  cases made
  · obtain rfl : evs = [] := h.made rfl
    exact key 0 [] List.nodup_nil fun w => rfl
  · exact key clock es h.keys h.get
theorem BookOk.set {b : BookS} (h : BookOk b) {i : Nat} {e : EvT} (h1 : e.1 = (evAt b i).1) (h2 : evEnd_ e = evEnd_ (evAt b i)) (hi : i < b.evs.length) : BookOk (setB b i e) := by
  refine ⟨h.keys, fun w => ?_, fun hm => ?_⟩
  · have := h.get w
    show getB b w = _
    rw [this]
    show _ = if 0 ≤ findI (b.evs.set i e) w then some (findI (b.evs.set i e) w) else none
    rw [findI_set w h1 h2 hi]
  · have := h.made hm
    rw [this] at hi; simp at hi
theorem BookOk.end {b : BookS} (h : BookOk b) {i : Nat} {w0 : Int} {e : EvT} (h1 : e.1 = w0) (h2 : evEnd_ e ≠ 0) (hi : i < b.evs.length) (hf : findI b.evs w0 = (i : Int)) : BookOk (endB b i w0 e) := by
  obtain ⟨evs, made, clock, es⟩ := b
  simp only at hi hf
  cases made
  · have := h.made rfl
    simp only at this; subst this; simp at hi
  · refine ⟨keysOk_del h.keys, fun w => ?_, fun hm => by cases hm⟩
    show mget (kk := .int .i64) (vk := .int .i64) w (mdel (kk := .int .i64) w0 es) = if 0 ≤ findI (evs.set i e) w then some (findI (evs.set i e) w) else none
    have hg := h.get w
    simp only [getB] at hg
    rw [mget_del w h.keys, hg, findI_end w h1 h2 hi hf]
    by_cases hw : w = w0
    · rw [if_pos hw, if_pos hw, if_neg (by omega)]
    · rw [if_neg hw, if_neg hw]

noncomputable abbrev gFind (own : Bool) (l : List EvT) (w : Int) : Frm := ⟨En, 19, Try.f19.ntmps, [.tab own evK l], .int .i64 (findI l w), [.tab own evK l]⟩
theorem find_0 (own : Bool) (l : List EvT) (w : Int) (hl : l.length < 1000000) : ∀ (k : Nat), k ≤ l.length → findI l w = findK l w k → Goods (gFind own l w) ⟨.none, lp Try.f19 0, [(0, .slice 0 0 l.length), (1, .int .i64 w), (5, .int .i64 ((k : Int) - 1))], hp [.tab own evK l]⟩
  | 0, hk, h => by
    have e : findI l w = -1 := h
    refine Goods.fin 2000 [.b false] mixed Try.func19 ?_
    show Yes _
    repeat' apply And.intro
    (all_goals first | rfl | assumption | trivial | omega | (simp [-List.getD_eq_getElem?_getD, e] <;> omega) | (simp (disch := omega) only [w64, wu64] <;> omega) | (simp (disch := omega) [-List.getD_eq_getElem?_getD, List.getD_cons_zero, List.getD_cons_succ, kCast_self, dfl_pair, dfl_int, w64, wu64, e] <;> omega) | (rw [Bool.eq_iff_iff]; simp (disch := omega) [-List.getD_eq_getElem?_getD, List.getD_cons_zero, List.getD_cons_succ, kCast_self, dfl_pair, dfl_int, w64, wu64, e] <;> omega) | (simp_all [-List.getD_eq_getElem?_getD] <;> omega))
  | k + 1, hk, h => by
    have e1 : (((k + 1 : Nat) : Int) - 1).toNat = k := by omega
    have e3 : ((k + 1 : Nat) : Int) - 1 = k := by omega
    rw [e3]
    simp only [findK] at h
    by_cases h1 : (l.getD k evD).1 = w
    · rw [if_pos h1] at h
      by_cases h2 : evEnd_ (l.getD k evD) = 0
      · rw [if_pos h2] at h
        have q1 : ((l.getD k evD).1 == w) = true := by simpa using h1
        have q2 : (evEnd_ (l.getD k evD) == 0) = true := by simpa using h2
        refine Goods.fin 2000 [.b true, .b true, .b true] mixed Try.func19 ?_
        show Yes _
        repeat' apply And.intro
        all_goals (try first | exact q1 | exact q2)
        (all_goals first | rfl | assumption | trivial | omega | (simp [-List.getD_eq_getElem?_getD, h] <;> omega) | (simp (disch := omega) only [w64, wu64] <;> omega) | (simp (disch := omega) [-List.getD_eq_getElem?_getD, List.getD_cons_zero, List.getD_cons_succ, kCast_self, dfl_pair, dfl_int, w64, wu64, h] <;> omega) | (rw [Bool.eq_iff_iff]; simp (disch := omega) [-List.getD_eq_getElem?_getD, List.getD_cons_zero, List.getD_cons_succ, kCast_self, dfl_pair, dfl_int, w64, wu64, h] <;> omega) | (simp_all [-List.getD_eq_getElem?_getD] <;> omega))
      · rw [if_neg h2] at h
        have q1 : ((l.getD k evD).1 == w) = true := by simpa using h1
        have q2 : (evEnd_ (l.getD k evD) == 0) = false := by simpa using h2
        refine Goods.fin 2000 [.b true, .b true, .b false] mixed Try.func19 ?_
        show Yes _
        repeat' apply And.intro
        all_goals (try first | exact q1 | exact q2)
        (all_goals first | rfl | assumption | trivial | omega | (simp [-List.getD_eq_getElem?_getD, h] <;> omega) | (simp (disch := omega) only [w64, wu64] <;> omega) | (simp (disch := omega) [-List.getD_eq_getElem?_getD, List.getD_cons_zero, List.getD_cons_succ, kCast_self, dfl_pair, dfl_int, w64, wu64, h] <;> omega) | (rw [Bool.eq_iff_iff]; simp (disch := omega) [-List.getD_eq_getElem?_getD, List.getD_cons_zero, List.getD_cons_succ, kCast_self, dfl_pair, dfl_int, w64, wu64, h] <;> omega) | (simp_all [-List.getD_eq_getElem?_getD] <;> omega))
    · rw [if_neg h1] at h
      have ih := find_0 own l w hl k (by omega) h
      have q1 : ((l.getD k evD).1 == w) = false := by simpa using h1
      refine Goods.to 2000 [.b true, .b false, .l, .stop] mixed (ih) (by kernel_rfl) ?_
      show Yes _
      repeat' apply And.intro
      all_goals (try exact q1)
      (all_goals first | rfl | assumption | trivial | omega | (simp [-List.getD_eq_getElem?_getD] <;> omega) | (simp (disch := omega) only [w64, wu64] <;> omega) | (simp (disch := omega) [-List.getD_eq_getElem?_getD, List.getD_cons_zero, List.getD_cons_succ, kCast_self, dfl_pair, dfl_int, w64, wu64] <;> omega) | (rw [Bool.eq_iff_iff]; simp (disch := omega) [-List.getD_eq_getElem?_getD, List.getD_cons_zero, List.getD_cons_succ, kCast_self, dfl_pair, dfl_int, w64, wu64] <;> omega) | (simp_all [-List.getD_eq_getElem?_getD] <;> omega))
theorem find_tri (own : Bool) (l : List EvT) (w : Int) (hl : l.length < 1000000) : Tri En 19 [.slice 0 0 l.length, .int .i64 w] [.tab own evK l] (.int .i64 (findI l w)) [.tab own evK l] := by
  have ih := find_0 own l w hl l.length (Nat.le_refl _) rfl
  refine Tri.of Try.func19 rfl Try.call19 rfl ?_
  refine Goods.to 2000 [.l, .stop] mixed (ih) (by kernel_rfl) ?_
  show Yes _
  repeat' apply And.intro
  (all_goals first | rfl | assumption | trivial | omega | (simp [-List.getD_eq_getElem?_getD] <;> omega) | (simp (disch := omega) only [w64, wu64] <;> omega) | (simp (disch := omega) [-List.getD_eq_getElem?_getD, List.getD_cons_zero, List.getD_cons_succ, kCast_self, dfl_pair, dfl_int, w64, wu64] <;> omega) | (rw [Bool.eq_iff_iff]; simp (disch := omega) [-List.getD_eq_getElem?_getD, List.getD_cons_zero, List.getD_cons_succ, kCast_self, dfl_pair, dfl_int, w64, wu64] <;> omega) | (simp_all [-List.getD_eq_getElem?_getD] <;> omega))
theorem with_tri (own : Bool) (l : List EvT) (i : Nat) (e : EvT) (hi : i < l.length) (hl : l.length < 1000000) : Tri En 22 [.slice 0 0 l.length, .int .i64 i, evA e] [.tab own evK l] (.slice 1 0 (l.set i e).length) [.tab own evK l, .tab true evK (l.set i e)] := by
  refine Tri.of Try.func22 rfl Try.call22 rfl ?_
  refine Goods.fin 2000 [] mixed Try.func22 ?_
  show Yes _
  repeat' apply And.intro
  (all_goals first | rfl | assumption | trivial | omega | (simp [-List.getD_eq_getElem?_getD] <;> omega) | (simp (disch := omega) only [w64, wu64] <;> omega) | (simp (disch := omega) [-List.getD_eq_getElem?_getD, List.getD_cons_zero, List.getD_cons_succ, kCast_self, dfl_pair, dfl_int, w64, wu64] <;> omega) | (rw [Bool.eq_iff_iff]; simp (disch := omega) [-List.getD_eq_getElem?_getD, List.getD_cons_zero, List.getD_cons_succ, kCast_self, dfl_pair, dfl_int, w64, wu64] <;> omega) | (simp_all [-List.getD_eq_getElem?_getD] <;> omega))
theorem rbegin_no (own : Bool) (l : List EvT) (w k n s : Int) (hl : l.length < 1000000) (h : 0 ≤ findI l w) : Tri En 14 [.slice 0 0 l.length, .int .i64 w, .agg [.int .i64 k, .int .i64 n], .int .i64 s] [.tab own evK l] (.tuple [.slice 0 0 l.length, .bl false]) [.tab own evK l] := by
  have hf := find_tri own l w hl
  refine Tri.of Try.func14 rfl Try.call14 rfl ?_
  refine Goods.fin 2000 [.c (.of hf), .b true] mixed Try.func14 ?_
  show Yes _
  repeat' apply And.intro
  (all_goals first | rfl | assumption | trivial | omega | (simp [-List.getD_eq_getElem?_getD] <;> omega) | (simp (disch := omega) only [w64, wu64] <;> omega) | (simp (disch := omega) [-List.getD_eq_getElem?_getD, List.getD_cons_zero, List.getD_cons_succ, kCast_self, dfl_pair, dfl_int, w64, wu64] <;> omega) | (rw [Bool.eq_iff_iff]; simp (disch := omega) [-List.getD_eq_getElem?_getD, List.getD_cons_zero, List.getD_cons_succ, kCast_self, dfl_pair, dfl_int, w64, wu64] <;> omega) | (simp_all [-List.getD_eq_getElem?_getD] <;> omega))
theorem rbegin_yes (own : Bool) (l : List EvT) (w k n s : Int) (hl : l.length < 1000000) (h : findI l w < 0) : Tri En 14 [.slice 0 0 l.length, .int .i64 w, .agg [.int .i64 k, .int .i64 n], .int .i64 s] [.tab own evK l] (.tuple [.slice 1 0 (l ++ [((w, (k, n), (0, 0), 0, s, 0, 0) : EvT)]).length, .bl true]) [.tab own evK l, .tab true evK (l ++ [((w, (k, n), (0, 0), 0, s, 0, 0) : EvT)])] := by
  have hf := find_tri own l w hl
  refine Tri.of Try.func14 rfl Try.call14 rfl ?_
  refine Goods.fin 2000 [.c (.of hf), .b false] mixed Try.func14 ?_
  show Yes _
  repeat' apply And.intro
  all_goals (try (show 0 + l.length = l.length; omega))
  (all_goals first | rfl | assumption | trivial | omega | (simp [-List.getD_eq_getElem?_getD] <;> omega) | (simp (disch := omega) only [w64, wu64] <;> omega) | (simp (disch := omega) [-List.getD_eq_getElem?_getD, List.getD_cons_zero, List.getD_cons_succ, kCast_self, dfl_pair, dfl_int, w64, wu64] <;> omega) | (rw [Bool.eq_iff_iff]; simp (disch := omega) [-List.getD_eq_getElem?_getD, List.getD_cons_zero, List.getD_cons_succ, kCast_self, dfl_pair, dfl_int, w64, wu64] <;> omega) | (simp_all [-List.getD_eq_getElem?_getD] <;> omega))
theorem rstep_no (own : Bool) (l : List EvT) (w : Int) (hl : l.length < 1000000) (h : findI l w < 0) : Tri En 15 [.slice 0 0 l.length, .int .i64 w] [.tab own evK l] (.tuple [.slice 0 0 l.length, .bl false]) [.tab own evK l] := by
  have hf := find_tri own l w hl
  refine Tri.of Try.func15 rfl Try.call15 rfl ?_
  refine Goods.fin 2000 [.c (.of hf), .b true] mixed Try.func15 ?_
  show Yes _
  repeat' apply And.intro
  (all_goals first | rfl | assumption | trivial | omega | (simp [-List.getD_eq_getElem?_getD] <;> omega) | (simp (disch := omega) only [w64, wu64] <;> omega) | (simp (disch := omega) [-List.getD_eq_getElem?_getD, List.getD_cons_zero, List.getD_cons_succ, kCast_self, dfl_pair, dfl_int, w64, wu64] <;> omega) | (rw [Bool.eq_iff_iff]; simp (disch := omega) [-List.getD_eq_getElem?_getD, List.getD_cons_zero, List.getD_cons_succ, kCast_self, dfl_pair, dfl_int, w64, wu64] <;> omega) | (simp_all [-List.getD_eq_getElem?_getD] <;> omega))
theorem rstep_yes (own : Bool) (l : List EvT) (w : Int) (i : Nat) (hl : l.length < 1000000) (hi : i < l.length) (h : findI l w = (i : Int)) : Tri En 15 [.slice 0 0 l.length, .int .i64 w] [.tab own evK l] (.tuple [.slice 1 0 (l.set i (stepE (l.getD i evD))).length, .bl true]) [.tab own evK l, .tab true evK (l.set i (stepE (l.getD i evD)))] := by
  have hf := find_tri own l w hl
  rw [h] at hf
  have hw := with_tri own l i (stepE (l.getD i evD)) hi hl
  refine Tri.of Try.func15 rfl Try.call15 rfl ?_
  refine Goods.fin 2000 [.c (.of hf), .b false, .c (.of hw)] mixed Try.func15 ?_
  show Yes _
  repeat' apply And.intro
  (all_goals first | rfl | assumption | trivial | omega | (simp [-List.getD_eq_getElem?_getD] <;> omega) | (simp (disch := omega) only [w64, wu64] <;> omega) | (simp (disch := omega) [-List.getD_eq_getElem?_getD, List.getD_cons_zero, List.getD_cons_succ, kCast_self, dfl_pair, dfl_int, w64, wu64] <;> omega) | (rw [Bool.eq_iff_iff]; simp (disch := omega) [-List.getD_eq_getElem?_getD, List.getD_cons_zero, List.getD_cons_succ, kCast_self, dfl_pair, dfl_int, w64, wu64] <;> omega) | (simp_all [-List.getD_eq_getElem?_getD] <;> omega))
theorem rcount_none (own : Bool) (l : List EvT) (w c n s : Int) (hl : l.length < 1000000) (h : findI l w < 0) : Tri En 16 [.slice 0 0 l.length, .int .i64 w, .agg [.int .i64 c, .int .i64 n], .int .i64 s] [.tab own evK l] (.tuple [.slice 0 0 l.length, .bl false]) [.tab own evK l] := by
  have hf := find_tri own l w hl
  refine Tri.of Try.func16 rfl Try.call16 rfl ?_
  refine Goods.fin 2000 [.c (.of hf), .s 16 (some true) true true] mixed Try.func16 ?_
  show Yes _
  repeat' apply And.intro
  (all_goals first | rfl | assumption | trivial | omega | (simp [-List.getD_eq_getElem?_getD] <;> omega) | (simp (disch := omega) only [w64, wu64] <;> omega) | (simp (disch := omega) [-List.getD_eq_getElem?_getD, List.getD_cons_zero, List.getD_cons_succ, kCast_self, dfl_pair, dfl_int, w64, wu64] <;> omega) | (rw [Bool.eq_iff_iff]; simp (disch := omega) [-List.getD_eq_getElem?_getD, List.getD_cons_zero, List.getD_cons_succ, kCast_self, dfl_pair, dfl_int, w64, wu64] <;> omega) | (simp_all [-List.getD_eq_getElem?_getD] <;> omega))
theorem rcount_done (own : Bool) (l : List EvT) (w c n s : Int) (i : Nat) (hl : l.length < 1000000) (hi : i < l.length) (h : findI l w = (i : Int)) (hp' : 0 < evPt (l.getD i evD)) : Tri En 16 [.slice 0 0 l.length, .int .i64 w, .agg [.int .i64 c, .int .i64 n], .int .i64 s] [.tab own evK l] (.tuple [.slice 0 0 l.length, .bl false]) [.tab own evK l] := by
  have hf := find_tri own l w hl
  rw [h] at hf
  refine Tri.of Try.func16 rfl Try.call16 rfl ?_
  refine Goods.fin 2000 [.c (.of hf), .s 16 (some false) true true, .b true] mixed Try.func16 ?_
  show Yes _
  repeat' apply And.intro
  all_goals (try exact decide_eq_true hp')
  (all_goals first | rfl | assumption | trivial | omega | (simp [-List.getD_eq_getElem?_getD] <;> omega) | (simp (disch := omega) only [w64, wu64] <;> omega) | (simp (disch := omega) [-List.getD_eq_getElem?_getD, List.getD_cons_zero, List.getD_cons_succ, kCast_self, dfl_pair, dfl_int, w64, wu64] <;> omega) | (rw [Bool.eq_iff_iff]; simp (disch := omega) [-List.getD_eq_getElem?_getD, List.getD_cons_zero, List.getD_cons_succ, kCast_self, dfl_pair, dfl_int, w64, wu64] <;> omega) | (simp_all [-List.getD_eq_getElem?_getD] <;> omega))
theorem rcount_yes (own : Bool) (l : List EvT) (w c n s : Int) (i : Nat) (hl : l.length < 1000000) (hi : i < l.length) (h : findI l w = (i : Int)) (hp' : ¬ 0 < evPt (l.getD i evD)) : Tri En 16 [.slice 0 0 l.length, .int .i64 w, .agg [.int .i64 c, .int .i64 n], .int .i64 s] [.tab own evK l] (.tuple [.slice 1 0 (l.set i (countE (l.getD i evD) c n s)).length, .bl true]) [.tab own evK l, .tab true evK (l.set i (countE (l.getD i evD) c n s))] := by
  have hf := find_tri own l w hl
  rw [h] at hf
  have hw := with_tri own l i (countE (l.getD i evD) c n s) hi hl
  refine Tri.of Try.func16 rfl Try.call16 rfl ?_
  refine Goods.fin 2000 [.c (.of hf), .s 16 (some false) true true, .b false, .c (.of hw)] mixed Try.func16 ?_
  show Yes _
  repeat' apply And.intro
  all_goals (try exact decide_eq_false hp')
  (all_goals first | rfl | assumption | trivial | omega | (simp [-List.getD_eq_getElem?_getD] <;> omega) | (simp (disch := omega) only [w64, wu64] <;> omega) | (simp (disch := omega) [-List.getD_eq_getElem?_getD, List.getD_cons_zero, List.getD_cons_succ, kCast_self, dfl_pair, dfl_int, w64, wu64] <;> omega) | (rw [Bool.eq_iff_iff]; simp (disch := omega) [-List.getD_eq_getElem?_getD, List.getD_cons_zero, List.getD_cons_succ, kCast_self, dfl_pair, dfl_int, w64, wu64] <;> omega) | (simp_all [-List.getD_eq_getElem?_getD] <;> omega))
theorem rend_no (own : Bool) (l : List EvT) (w c n s : Int) (hl : l.length < 1000000) (h : findI l w < 0) : Tri En 17 [.slice 0 0 l.length, .int .i64 w, .agg [.int .i64 c, .int .i64 n], .int .i64 s] [.tab own evK l] (.tuple [.slice 0 0 l.length, .bl false]) [.tab own evK l] := by
  have hf := find_tri own l w hl
  refine Tri.of Try.func17 rfl Try.call17 rfl ?_
  refine Goods.fin 2000 [.c (.of hf), .b true] mixed Try.func17 ?_
  show Yes _
  repeat' apply And.intro
  (all_goals first | rfl | assumption | trivial | omega | (simp [-List.getD_eq_getElem?_getD] <;> omega) | (simp (disch := omega) only [w64, wu64] <;> omega) | (simp (disch := omega) [-List.getD_eq_getElem?_getD, List.getD_cons_zero, List.getD_cons_succ, kCast_self, dfl_pair, dfl_int, w64, wu64] <;> omega) | (rw [Bool.eq_iff_iff]; simp (disch := omega) [-List.getD_eq_getElem?_getD, List.getD_cons_zero, List.getD_cons_succ, kCast_self, dfl_pair, dfl_int, w64, wu64] <;> omega) | (simp_all [-List.getD_eq_getElem?_getD] <;> omega))
theorem rend_yes (own : Bool) (l : List EvT) (w c n s : Int) (i : Nat) (hl : l.length < 1000000) (hi : i < l.length) (h : findI l w = (i : Int)) : Tri En 17 [.slice 0 0 l.length, .int .i64 w, .agg [.int .i64 c, .int .i64 n], .int .i64 s] [.tab own evK l] (.tuple [.slice 1 0 (l.set i (endE (l.getD i evD) c n s)).length, .bl true]) [.tab own evK l, .tab true evK (l.set i (endE (l.getD i evD) c n s))] := by
  have hf := find_tri own l w hl
  rw [h] at hf
  have hw := with_tri own l i (endE (l.getD i evD) c n s) hi hl
  refine Tri.of Try.func17 rfl Try.call17 rfl ?_
  refine Goods.fin 2000 [.c (.of hf), .b false, .c (.of hw)] mixed Try.func17 ?_
  show Yes _
  repeat' apply And.intro
  (all_goals first | rfl | assumption | trivial | omega | (simp [-List.getD_eq_getElem?_getD] <;> omega) | (simp (disch := omega) only [w64, wu64] <;> omega) | (simp (disch := omega) [-List.getD_eq_getElem?_getD, List.getD_cons_zero, List.getD_cons_succ, kCast_self, dfl_pair, dfl_int, w64, wu64] <;> omega) | (rw [Bool.eq_iff_iff]; simp (disch := omega) [-List.getD_eq_getElem?_getD, List.getD_cons_zero, List.getD_cons_succ, kCast_self, dfl_pair, dfl_int, w64, wu64] <;> omega) | (simp_all [-List.getD_eq_getElem?_getD] <;> omega))
end Go.Proofs.Ytkeedpjdadgaeaa.E

/- WholeShops: what the shops hold; the steps. -/
import Derived.Test.YtcicfbccdgkfhaaDoorPhallc
import Derived.Test.YtcicfbccdgkfhaaDoorPliveg
namespace Go.Proofs.YtcicfbccdgkfhaaDoor.E
set_option linter.unusedSimpArgs false
set_option linter.unusedVariables false
open Go
set_option maxRecDepth 100000

abbrev CntT := List (Ent (.int .i64) (.int .i64))
abbrev mgC (z : Int) (es : CntT) : Option Int := mget (kk := .int .i64) (vk := .int .i64) z es
/-- The words of a shop: its hall's first ones, and what is live. -/
structure ShI (c : Cnf) (n Z : Nat) (f : Nat → Nat) (m : MemS) (es : CntT) : Prop where
  len : m.words.length = Z + 64 * n
  hF : FirstW m Z
  hf : ∀ g, g < 64 * n → m.words.getD (Z + g) 0 = (f g : Int)
  h1 : F64 f
  h0 : m.faults = 0
  hk : keysOk es
  hm : ∀ z, (mgC z es).isSome = true ↔ ∃ g, g < 64 * n ∧ z = keyN g ∧ thIs (f g) = true
namespace ShI
variable {c : Cnf} {n Z : Nat} {f : Nat → Nat} {m : MemS} {es : CntT}
theorem get (h : ShI c n Z f m es) {g : Nat} (hg : g < 64 * n) : m.get ((Z + g : Nat) : Int) = (f g : Int) := by
  have := h.len
  rw [MemS.get_in ⟨by omega, by omega⟩, Int.toNat_natCast]; exact h.hf g hg
theorem mark (h : ShI c n Z f m es) (hc : c.Ok) (hZ : 1 ≤ Z) {k : Int} {g : Nat} {x : ThT} (hx : thOk c x) (hg : g < 64 * n) (y : Int) (cl : Nat) : ShI c n Z (updF f g (codeN x)) ((m.acc k ((Z + g : Nat) : Int)).put ((Z + g : Nat) : Int) (codeN x)) (mput (kk := .int .i64) (vk := .int .i64) (keyN g) y cl es) := by
  have hl := h.len
  have hin : m.inr ((Z + g : Nat) : Int) := ⟨by omega, by omega⟩
  have hw := MemS.put_words hin k (codeN x : Int)
  rw [Int.toNat_natCast] at hw
  obtain ⟨e1, e2⟩ := code_of hc hx
  have hget : ∀ i, i ≠ Z + g → (m.words.set (Z + g) (codeN x : Int)).getD i 0 = m.words.getD i 0 := fun i hi => by
    simp only [List.getD, List.getElem?_set, if_neg (fun e => hi (Eq.symm e))]
  refine ⟨?_, ⟨?_, ?_, fun i h1 h2 => ?_⟩, fun j hj => ?_, h.h1.upd (code_lt x), by rw [MemS.put_faults hin, h.h0], keysOk_put h.hk, fun z => ?_⟩
  · rw [hw, List.length_set, hl]
  · rw [hw, List.length_set]; exact h.hF.len
  · rw [hw, hget _ (by omega)]; exact h.hF.head
  · rw [hw, hget _ (by omega)]; exact h.hF.rest i h1 h2
  · rw [hw]
    unfold updF
    by_cases e : j = g
    · subst e
      rw [if_pos rfl]
      simp only [List.getD, List.getElem?_set, if_true]
      rw [if_pos (by omega)]; rfl
    · rw [if_neg e, hget _ (by omega)]; exact h.hf j hj
  · show (mget (kk := .int .i64) _ _).isSome = true ↔ _
    rw [mget_put]
    by_cases e : z = keyN g
    · rw [if_pos e]
      refine ⟨fun _ => ⟨g, hg, e, ?_⟩, fun _ => rfl⟩
      unfold updF; rw [if_pos rfl]; exact e1
    · rw [if_neg e]
      refine (h.hm z).trans ⟨fun ⟨j, a, b, d⟩ => ⟨j, a, b, ?_⟩, fun ⟨j, a, b, d⟩ => ⟨j, a, b, ?_⟩⟩
      · unfold updF; rw [if_neg (by rintro rfl; exact e b)]; exact d
      · unfold updF at d; rw [if_neg (by rintro rfl; exact e b)] at d; exact d
theorem count (h : ShI c n Z f m es) : (allL c f (64 * n)).length = es.length := by
  have hk : (es.map (·.1) : List Int).Nodup := h.hk
  have h1 := len_of_sub (allL_keys c f (64 * n)) (m := es.map (·.1)) fun x hx => by
    obtain ⟨p, hp, rfl⟩ := List.mem_map.1 hx
    obtain ⟨g, a, b, rfl⟩ := (allL_mem c f (64 * n)).1 hp
    refine Classical.byContradiction fun hn => ?_
    have q := mget_none.2 hn
    have q2 := (h.hm (keyN g)).2 ⟨g, a, rfl, b⟩
    have q3 : mgC (keyN g) es = none := q
    rw [q3] at q2; simp at q2
  have h2 := len_of_sub (m := (allL c f (64 * n)).map (·.1)) hk fun x hx => by
    have hne : ¬ mgC x es = none := fun hn => (mget_none.1 hn) hx
    have hs : (mgC x es).isSome = true := by
      cases e : mgC x es with
      | none => exact absurd e hne
      | some y => rfl
    obtain ⟨g, a, b, d⟩ := (h.hm x).1 hs
    exact List.mem_map.2 ⟨_, (allL_mem c f (64 * n)).2 ⟨g, a, d, rfl⟩, b.symm⟩
  rw [List.length_map, List.length_map] at h1 h2
  omega
end ShI
noncomputable abbrev gWs (c : Cnf) (xs : List Int) : Frm := ⟨En, 4, Tryd.f4.ntmps, [.tab false (.int .i64) c.cl, .tab false (.int .u16) xs], .bl true, gones 2⟩
def cfgS (c : Cnf) : AObj := .cells [.int .i64 c.w, .int .i64 c.s, .int .i64 c.b, .int .i64 c.t, .slice 0 0 c.cl.length]
def wsOs (c : Cnf) (xs : List Int) (n Z : Nat) (ma mb : MemS) (ck : Nat) (es : CntT) : List AObj := [.tab false (.int .i64) c.cl, .tab false (.int .u16) xs, cfgS c] ++ shopOs 3 c n Z ma ++ shopOs 13 c n Z mb ++ [.map (.int .i64) (.int .i64) ck es]
noncomputable abbrev ws1 (c : Cnf) (xs : List Int) (sz : Int) (n Z : Nat) (ma mb : MemS) (ck : Nat) (es : CntT) (k : Nat) : Cfg := ⟨.none, lp Tryd.f4 0, [(2, .int .i64 sz), (3, .ptr 2 0 0), (9, .ptr 3 0 0), (10, .ptr 13 0 0), (12, .map 23), (88, .slice 1 0 xs.length), (89, .int .i64 xs.length), (90, .int .i64 k)], hp (wsOs c xs n Z ma mb ck es)⟩
noncomputable abbrev ws2 (c : Cnf) (xs : List Int) (sz : Int) (n Z : Nat) (ma mb : MemS) (ck : Nat) (es : CntT) (i : Nat) : Cfg := ⟨.none, lp Tryd.f4 1, [(2, .int .i64 sz), (3, .ptr 2 0 0), (9, .ptr 3 0 0), (10, .ptr 13 0 0), (12, .map 23), (111, .int .i64 n), (112, .int .i64 i)], hp (wsOs c xs n Z ma mb ck es)⟩
theorem ask_any (c : Cnf) (h : c.Ok) (sz : Int) : ∃ p q e : Int, ∀ own, TCheck own c 1 sz p q e := by
  rcases cls_cases c.cl sz with ⟨i, hi⟩ | hno
  · exact ⟨i, 0, 0, fun own => ask_class own c h sz i hi⟩
  · by_cases hr : 1 ≤ sz ∧ sz ≤ 1024 * c.s
    · exact ⟨-1, runN sz, 0, fun own => ask_run own c h sz hno hr.1 hr.2⟩
    · exact ⟨0, 0, 3, fun own => ask_none own c h sz hno hr⟩
set_option maxHeartbeats 4000000 in
theorem ws_last (c : Cnf) (h : c.Ok) (xs : List Int) (sz : Int) (n Z : Nat) (hn : (n : Int) = c.s) (hZ1 : 1 ≤ Z) (hZ2 : Z ≤ 50000) (ma mb : MemS) (ck : Nat) (es : CntT) (f : Nat → Nat) (hA : ShI c n Z f ma es) (hB : ShI c n Z (fun _ => 0) mb []) : Goods (gWs c xs) (ws2 c xs sz n Z ma mb ck es n) := by
  have s1 := h.s1
  obtain ⟨p, q, e, hck⟩ := ask_any c h sz
  have k1 := hck true
  have k2 := hck false
  have a1 := all_tri c h Z (by omega) ma f (64 * n) (by omega) fun g hg => ⟨hA.get hg, hA.h1 g⟩
  have hcnt := hA.count
  have hle := allL_len c f (64 * n)
  have a2 := all_tri c h Z (by omega) mb (fun _ => 0) (64 * n) (by omega) fun g hg => ⟨hB.get hg, by omega⟩
  rw [allL_none c (64 * n) fun _ _ => th_zero.1] at a2
  have fm := mem_faults ma
  rw [hA.h0] at fm
  have la := mem_len ma
  have lb := mem_len mb
  have ea := hA.len
  have eb := hB.len
  generalize allL c f (64 * n) = L at *
  refine Goods.fin 2000 [.b false, .c (.of k1), .c (.of k2), .s 148 (some true) true true, .s 152 (some true) true true, .k 159 (.of a1), .s 163 (some true) true true, .k 170 (.of a2), .s 172 (some true) true true, .k 179 (.of fm), .s 180 (some true) true true, .k 187 (.of la), .k 192 (.of lb)] mixed Tryd.func4 ?_
  show Yes _
  repeat' apply And.intro
  (all_goals first | rfl | assumption | trivial | omega | (simp [-List.getD_eq_getElem?_getD] <;> omega) | (simp (disch := omega) only [w64, wu64] <;> omega) | (simp (disch := omega) [-List.getD_eq_getElem?_getD, List.getD_cons_zero, List.getD_cons_succ, kCast_self, dfl_pair, dfl_int, w64, wu64] <;> omega) | (rw [Bool.eq_iff_iff]; simp (disch := omega) [-List.getD_eq_getElem?_getD, List.getD_cons_zero, List.getD_cons_succ, kCast_self, dfl_pair, dfl_int, w64, wu64] <;> omega) | (simp_all [-List.getD_eq_getElem?_getD] <;> omega))
set_option maxHeartbeats 4000000 in
theorem ws_super (c : Cnf) (h : c.Ok) (xs : List Int) (sz : Int) (n Z : Nat) (hn : (n : Int) = c.s) (hZ : 1 + 4 * c.w + 2 * n ≤ (Z : Int)) (ma mb : MemS) (ck : Nat) (es : CntT) (hF : FirstW ma Z) (i : Nat) (hi : i < n) (ih : Goods (gWs c xs) (ws2 c xs sz n Z ma mb ck es (i + 1))) : Goods (gWs c xs) (ws2 c xs sz n Z ma mb ck es i) := by
  have s1 := h.s1
  have hlen : (List.replicate (2 * n) (0 : Int)).length = 2 * n := List.length_replicate
  have hz : ∀ j, j < 2 * n → (List.replicate (2 * n) (0 : Int)).getD j 0 = ((0 : Nat) : Int) := fun j hj => by simp [List.getD, hj]
  have sp := super_tri c h n hn Z hZ ma hF i _ _ (zat_0 true n (by omega) _ hlen hz i hi) (.inl rfl)
  refine Goods.to 2000 [.b true, .c (.of sp), .l, .stop] mixed (ih) (by kernel_rfl) ?_
  show Yes _
  repeat' apply And.intro
  (all_goals first | rfl | assumption | trivial | omega | (simp [-List.getD_eq_getElem?_getD] <;> omega) | (simp (disch := omega) only [w64, wu64] <;> omega) | (simp (disch := omega) [-List.getD_eq_getElem?_getD, List.getD_cons_zero, List.getD_cons_succ, kCast_self, dfl_pair, dfl_int, w64, wu64] <;> omega) | (rw [Bool.eq_iff_iff]; simp (disch := omega) [-List.getD_eq_getElem?_getD, List.getD_cons_zero, List.getD_cons_succ, kCast_self, dfl_pair, dfl_int, w64, wu64] <;> omega) | (simp_all [-List.getD_eq_getElem?_getD] <;> omega))
set_option maxHeartbeats 4000000 in
theorem ws_yes (c : Cnf) (h : c.Ok) (xs : List Int) (hx : xs.length ≤ 100) (sz : Int) (n Z : Nat) (hn : (n : Int) = c.s) (hZ2 : Z ≤ 50000) (ma m2 mb : MemS) (ck ck2 : Nat) (es es2 : CntT) (k : Nat) (hk : k < xs.length) (y g : Nat) (hy : xs.getD k (dfl (.int .u16)) = (y : Int)) (hy2 : y ≤ 65535) (hg : g < 64 * n) (hyg : y = 16 * g) (h0 : thOk c (0, 0)) (hm2 : (ma.acc 2 ((Z + g : Nat) : Int)).put ((Z + g : Nat) : Int) (codeN (0, 0) : Nat) = m2) (hck : mclock (kk := .int .i64) (vk := .int .i64) (keyN g) ck es = ck2) (hes : mput (kk := .int .i64) (vk := .int .i64) (keyN g) (IntKind.i64.wrap ((mgC (keyN g) es).getD 0 + 1)) ck es = es2) (ih : Goods (gWs c xs) (ws1 c xs sz n Z m2 mb ck2 es2 (k + 1))) : Goods (gWs c xs) (ws1 c xs sz n Z ma mb ck es k) := by
  have s1 := h.s1
  have mk := mark_yes c h Z (by omega) ma g (by omega) (0, 0) h0
  rw [hm2] at mk
  have lo := live_of 0
  have e1 : IntKind.i64.wrap (65536 + IntKind.i64.wrap (xs.getD k 0)) = keyN g := by
    rw [show xs.getD k 0 = (y : Int) from hy, w64 (x := (y : Int)) (by omega) (by omega), w64 (by omega) (by omega)]
    unfold keyN; omega
  have mk : Tri En 23 [.ptr 0 0 0, .int .i64 (keyN g), thA (0, 0)] [tableC 1 2 Z c, memC 3 ma, clsT c, memT ma] (.bl true) [tableC 1 2 Z c, memC 3 m2, clsT c, memT m2] := mk
  have e3 : mclock (kk := .int .i64) (vk := .int .i64) (IntKind.i64.wrap (65536 + IntKind.i64.wrap (xs.getD k 0))) ck es = ck2 := by rw [e1]; exact hck
  have e2 : mput (kk := .int .i64) (vk := .int .i64) (IntKind.i64.wrap (65536 + IntKind.i64.wrap (xs.getD k 0))) (IntKind.i64.wrap ((mgC (IntKind.i64.wrap (65536 + IntKind.i64.wrap (xs.getD k 0))) es).getD 0 + 1)) ck es = es2 := by rw [e1]; exact hes
  clear hm2 hes hck
  generalize keyN g = z at *
  refine Goods.to 2000 [.b true, .k 101 (.of lo), .k 102 (.of mk), .l, .stop] mixed (ih) (by kernel_rfl) ?_
  show Yes _
  repeat' apply And.intro
  all_goals try first | exact e1 | exact e2 | exact e2.symm | exact e3 | exact e3.symm
  (all_goals first | rfl | assumption | trivial | omega | (simp [-List.getD_eq_getElem?_getD, hy] <;> omega) | (simp (disch := omega) only [w64, wu64] <;> omega) | (simp (disch := omega) [-List.getD_eq_getElem?_getD, List.getD_cons_zero, List.getD_cons_succ, kCast_self, dfl_pair, dfl_int, w64, wu64, hy] <;> omega) | (rw [Bool.eq_iff_iff]; simp (disch := omega) [-List.getD_eq_getElem?_getD, List.getD_cons_zero, List.getD_cons_succ, kCast_self, dfl_pair, dfl_int, w64, wu64, hy] <;> omega) | (simp_all [-List.getD_eq_getElem?_getD] <;> omega))
set_option maxHeartbeats 4000000 in
theorem ws_no (c : Cnf) (h : c.Ok) (xs : List Int) (hx : xs.length ≤ 100) (sz : Int) (n Z : Nat) (hn : (n : Int) = c.s) (hZ2 : Z ≤ 50000) (ma mb : MemS) (ck : Nat) (es : CntT) (k : Nat) (hk : k < xs.length) (y : Nat) (hy : xs.getD k (dfl (.int .u16)) = (y : Int)) (hy2 : y ≤ 65535) (hno : ¬ grainP c (65536 + (y : Int))) (ih : Goods (gWs c xs) (ws1 c xs sz n Z ma mb ck es (k + 1))) : Goods (gWs c xs) (ws1 c xs sz n Z ma mb ck es k) := by
  have s1 := h.s1
  have mk := mark_no c h Z (by omega) ma _ hno (0, 0)
  have lo := live_of 0
  have e1 : IntKind.i64.wrap (65536 + IntKind.i64.wrap (xs.getD k 0)) = 65536 + (y : Int) := by
    rw [show xs.getD k 0 = (y : Int) from hy, w64 (x := (y : Int)) (by omega) (by omega), w64 (by omega) (by omega)]
  refine Goods.to 2000 [.b true, .k 101 (.of lo), .k 102 (.of mk), .l, .stop] mixed (ih) (by kernel_rfl) ?_
  show Yes _
  repeat' apply And.intro
  all_goals try exact e1
  (all_goals first | rfl | assumption | trivial | omega | (simp [-List.getD_eq_getElem?_getD, hy] <;> omega) | (simp (disch := omega) only [w64, wu64] <;> omega) | (simp (disch := omega) [-List.getD_eq_getElem?_getD, List.getD_cons_zero, List.getD_cons_succ, kCast_self, dfl_pair, dfl_int, w64, wu64, hy] <;> omega) | (rw [Bool.eq_iff_iff]; simp (disch := omega) [-List.getD_eq_getElem?_getD, List.getD_cons_zero, List.getD_cons_succ, kCast_self, dfl_pair, dfl_int, w64, wu64, hy] <;> omega) | (simp_all [-List.getD_eq_getElem?_getD] <;> omega))
end Go.Proofs.YtcicfbccdgkfhaaDoor.E

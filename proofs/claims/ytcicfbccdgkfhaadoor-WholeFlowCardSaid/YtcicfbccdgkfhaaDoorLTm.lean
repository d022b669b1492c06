/- WholeFlow: the outer loop. -/
import Derived.Test.YtcicfbccdgkfhaaDoorLTl
namespace Go.Proofs.YtcicfbccdgkfhaaDoor.E
set_option linter.unusedSimpArgs false
set_option linter.unusedVariables false
open Go
set_option maxRecDepth 100000
theorem pop_good {zs : List Blk} {q cl : Nat} {es : TMap} (h : (⟨zs, q + 1, cl, es⟩ : PS).Good) (hn : (⟨zs, q + 1, cl, es⟩ : PS).pile.Nodup) : (⟨zs, q, cl, mdel (kk := BlkK) (bAt zs q : Blk) es⟩ : PS).Good ∧ (⟨zs, q + 1, cl, es⟩ : PS).pile = (⟨zs, q, cl, mdel (kk := BlkK) (bAt zs q : Blk) es⟩ : PS).pile ++ [bAt zs q] := by
  have hle : q + 1 ≤ zs.length := h.le
  have e : (⟨zs, q + 1, cl, es⟩ : PS).pile = zs.take q ++ [bAt zs q] := takeB_snoc (l := zs) (by omega)
  refine ⟨⟨by show q ≤ zs.length; omega, ?_⟩, e⟩
  refine (h.there.filter (bAt zs q)).same fun b => ?_
  show b ∈ List.filter _ (PS.pile ⟨zs, q + 1, cl, es⟩) ↔ b ∈ zs.take q
  rw [e] at hn ⊢
  have hd := (List.nodup_append.1 hn).2.2
  simp only [List.mem_filter, List.mem_append, List.mem_singleton, decide_eq_true_eq]
  constructor
  · rintro ⟨h1 | h1, h2⟩
    · exact h1
    · exact absurd h1 h2
  · intro h1
    exact ⟨.inl h1, fun hh => hd b h1 (bAt zs q) (by simp) hh⟩
theorem ref_cases (c : Cnf) (n : Nat) (f : SupF) (k : Nat) : refF c n f k = none ∨ ∃ i m, refF c n f k = some (i, m) ∧ i < n ∧ ((f i = (0, 0, 0) → m = allN c k) ∧ (∀ a, f i = (1, k, a) → m = a) ∧ ((f i).1 = 0 ∨ ((f i).1 = 1 ∧ m ≠ 0))) := by
  unfold refF
  by_cases h1 : 0 ≤ fcls f k n
  · rw [if_pos h1]
    rcases fcls_spec f k n with ⟨e, _⟩ | ⟨i, e, hi, ⟨h2, h3, h4⟩, _⟩
    · omega
    · rw [e, Int.toNat_natCast]
      refine .inr ⟨i, (f i).2.2, rfl, hi, ?_, ?_, .inr ⟨h2, h4⟩⟩
      · intro hh; rw [hh] at h2; cases h2
      · intro a hh; rw [hh]
  · rw [if_neg h1]
    by_cases h5 : 0 ≤ ffree f n
    · rw [if_pos h5]
      rcases ffree_spec f n with ⟨e, _⟩ | ⟨i, e, hi, h2, _⟩
      · omega
      · rw [e, Int.toNat_natCast]
        refine .inr ⟨i, allN c k, rfl, hi, fun _ => rfl, ?_, .inl h2⟩
        intro a hh; rw [hh] at h2; cases h2
    · rw [if_neg h5]; exact .inl rfl
/-- What holds at the outer loop's head. -/
structure WInv (c : Cnf) (k S : Nat) (f : SupF) (s : PS) (ys o : List Blk) (off n i : Nat) : Prop where
  good : s.Good
  flow : Flow c k S f (s.pile ++ o)
  two : (s.m : Int) ≤ 2 * c.b
  out : ys.drop off = o
  len : o.length = n
  fit : off + n = ys.length
  few : n ≤ i
theorem WInv.total {c : Cnf} {k S : Nat} {f : SupF} {s : PS} {ys o : List Blk} {off n i : Nat} (h : WInv c k S f s ys o off n i) : (s.pile ++ o).length = n + s.m := by
  rw [List.length_append, h.good.len, h.len]; omega
/-- What is behind a step: the sums are looked at; then the next step. -/
theorem wf_next (own own2 : Bool) (c : Cnf) (h : c.Ok) (k S : Nat) (hk : k < c.cl.length) (hS : (S : Int) = c.s) (ac : List Bool) (hac : ac.length ≤ 400) (f : SupF) (s : PS) (ys o : List Blk) (off n i : Nat) (hi : i < ac.length) (hW : WInv c k S f s ys o off n (i + 1)) (next : Goods (gWf own own2 c ac) (wf0 own own2 c k S ac f s ys off n (i + 1))) :
    Goods (gWf own own2 c ac) (wf1 own own2 c k S ac f s ys off n i ((n : Int) + s.m) 0) := by
  have := wf_in own own2 c h k S hk hS ac hac f s ys off n i hi (s.pile ++ o) hW.flow hW.total (by have := hW.few; omega) hW.two next S 0 (by omega)
  rwa [show flT c k f 0 = 0 from rfl, Int.add_zero] at this
/-- A step that takes a block of the worker's own. -/
theorem wf_pop (own own2 : Bool) (c : Cnf) (h : c.Ok) (k S : Nat) (hk : k < c.cl.length) (hS : (S : Int) = c.s) (ac : List Bool) (hac : ac.length ≤ 400) (f : SupF) (zs : List Blk) (q cl : Nat) (es : TMap) (ys o : List Blk) (off n i : Nat) (hi : i < ac.length) (ha : ac.getD i false = true) (hW : WInv c k S f ⟨zs, q + 1, cl, es⟩ ys o off n i)
    (next : ∀ s' ys' o' off' n', WInv c k S f s' ys' o' off' n' (i + 1) → Goods (gWf own own2 c ac) (wf0 own own2 c k S ac f s' ys' off' n' (i + 1))) : Goods (gWf own own2 c ac) (wf0 own own2 c k S ac f ⟨zs, q + 1, cl, es⟩ ys off n i) := by
  have l1 := h.l1
  have b1 := h.b1
  have two : ((q + 1 : Nat) : Int) ≤ 2 * c.b := hW.two
  have hle : q + 1 ≤ zs.length := hW.good.le
  have hfew := hW.few
  have hfit := hW.fit
  obtain ⟨g1, g2⟩ := pop_good hW.good (List.nodup_append.1 hW.flow.nodup).1
  have h1 := slen_tri c k rawT rawT zs (q + 1) cl es l1 hk
  have h2 := pop_some c k rawT rawT zs q cl es (bAt zs q) l1 hk (by omega) (by omega) rfl
  have h3 := slen_tri c k rawT rawT zs q cl (mdel (kk := BlkK) (bAt zs q : Blk) es) l1 hk
  have hW' : WInv c k S f ⟨zs, q, cl, mdel (kk := BlkK) (bAt zs q : Blk) es⟩ (o ++ [bAt zs q]) (o ++ [bAt zs q]) 0 (n + 1) (i + 1) := by
    refine ⟨g1, ?_, by show (q : Int) ≤ 2 * c.b; omega, rfl, by simp [hW.len], by simp [hW.len], by omega⟩
    refine hW.flow.perm ?_
    rw [g2, List.append_assoc]
    exact List.Perm.append_left _ List.perm_append_comm
  have ih := wf_next own own2 c h k S hk hS ac hac f _ _ _ 0 (n + 1) i hi hW' (next _ _ _ 0 (n + 1) hW')
  have e1 : (ys.drop off).take n = o := by rw [hW.out, List.take_of_length_le (by rw [hW.len]; exact Nat.le_refl _)]
  have hol := hW.len
  generalize bAt zs q = b at *
  have e2 : (ys.drop off).take n ++ [b] = o ++ [b] := by rw [e1]
  refine Goods.to 2000 [.b true, .b true, .c (.of h1), .b false, .c (.of h2), .s 91 none false true, .c (.of h3), .l, .stop] mixed (ih) (by kernel_rfl) ?_
  show Yes _
  repeat' apply And.intro
  all_goals try exact e2
  (all_goals first | rfl | assumption | trivial | omega | (simp [-List.getD_eq_getElem?_getD, ha] <;> omega) | (simp (disch := omega) only [w64, wu64] <;> omega) | (simp (disch := omega) [-List.getD_eq_getElem?_getD, List.getD_cons_zero, List.getD_cons_succ, kCast_self, dfl_pair, dfl_int, w64, wu64, ha] <;> omega) | (rw [Bool.eq_iff_iff]; simp (disch := omega) [-List.getD_eq_getElem?_getD, List.getD_cons_zero, List.getD_cons_succ, kCast_self, dfl_pair, dfl_int, w64, wu64, ha] <;> omega) | (simp_all [-List.getD_eq_getElem?_getD] <;> omega))
set_option maxHeartbeats 4000000 in
/-- A step that takes, where there is nothing to be had. -/
theorem wf_dry (own own2 : Bool) (c : Cnf) (h : c.Ok) (k S : Nat) (hk : k < c.cl.length) (hS : (S : Int) = c.s) (ac : List Bool) (hac : ac.length ≤ 400) (f : SupF) (zs : List Blk) (cl : Nat) (es : TMap) (ys o : List Blk) (off n i : Nat) (hi : i < ac.length) (ha : ac.getD i false = true) (hW : WInv c k S f ⟨zs, 0, cl, es⟩ ys o off n i) (hr : refF c S f k = none)
    (next : ∀ s' ys' o' off' n', WInv c k S f s' ys' o' off' n' (i + 1) → Goods (gWf own own2 c ac) (wf0 own own2 c k S ac f s' ys' off' n' (i + 1))) : Goods (gWf own own2 c ac) (wf0 own own2 c k S ac f ⟨zs, 0, cl, es⟩ ys off n i) := by
  have l1 := h.l1
  have b1 := h.b1
  have hfew := hW.few
  have h1 := slen_tri c k rawT rawT zs 0 cl es l1 hk
  have hry := refill_yes true c h S hS f (hW.flow.hinv hk) k hk
  rw [hr] at hry
  have hap := apply_1 true c S f f k 0 (by omega) 0 0 hry
  have har := ask_refill k (by omega)
  have hf := fill_tri c h k rawT rawT ⟨zs, 0, cl, es⟩ (-1) 0 hk (Nat.zero_le _) (Nat.zero_le _) (by omega)
  rw [show fillS c k ⟨zs, 0, cl, es⟩ (-1) (intsL (bitsL 0)) = ⟨zs, 0, cl, es⟩ from rfl] at hf
  have h2 := pop_none c k rawT rawT zs cl es l1 hk
  have hW' : WInv c k S f ⟨zs, 0, cl, es⟩ ys o off n (i + 1) := ⟨hW.good, hW.flow, hW.two, hW.out, hW.len, hW.fit, by omega⟩
  have ih := wf_next own own2 c h k S hk hS ac hac f _ _ _ off n i hi hW' (next _ _ _ off n hW')
  generalize askN 1 k = w at *
  refine Goods.to 2000 [.b true, .b true, .c (.of h1), .b true, .k 70 (.of har), .k 71 (.of hap), .c (.of hf), .c (.of h2), .c (.of h1), .l, .stop] mixed (ih) (by kernel_rfl) ?_
  show Yes _
  repeat' apply And.intro
  (all_goals first | rfl | assumption | trivial | omega | (simp [-List.getD_eq_getElem?_getD, ha] <;> omega) | (simp (disch := omega) only [w64, wu64] <;> omega) | (simp (disch := omega) [-List.getD_eq_getElem?_getD, List.getD_cons_zero, List.getD_cons_succ, kCast_self, dfl_pair, dfl_int, w64, wu64, ha] <;> omega) | (rw [Bool.eq_iff_iff]; simp (disch := omega) [-List.getD_eq_getElem?_getD, List.getD_cons_zero, List.getD_cons_succ, kCast_self, dfl_pair, dfl_int, w64, wu64, ha] <;> omega) | (simp_all [-List.getD_eq_getElem?_getD] <;> omega))
set_option maxHeartbeats 4000000 in
/-- A step that takes, and has some from a superblock. -/
theorem wf_refill (own own2 : Bool) (c : Cnf) (h : c.Ok) (k S : Nat) (hk : k < c.cl.length) (hS : (S : Int) = c.s) (ac : List Bool) (hac : ac.length ≤ 400) (f : SupF) (zs : List Blk) (cl : Nat) (es : TMap) (ys o : List Blk) (off n i : Nat) (hi : i < ac.length) (ha : ac.getD i false = true) (hW : WInv c k S f ⟨zs, 0, cl, es⟩ ys o off n i) (x m : Nat) (hr : refF c S f k = some (x, m)) (hx : x < S)
    (hm : (f x = (0, 0, 0) → m = allN c k) ∧ (∀ a, f x = (1, k, a) → m = a) ∧ ((f x).1 = 0 ∨ ((f x).1 = 1 ∧ m ≠ 0)))
    (next : ∀ f' s' ys' o' off' n', WInv c k S f' s' ys' o' off' n' (i + 1) → Goods (gWf own own2 c ac) (wf0 own own2 c k S ac f' s' ys' off' n' (i + 1))) : Goods (gWf own own2 c ac) (wf0 own own2 c k S ac f ⟨zs, 0, cl, es⟩ ys off n i) := by
  have l1 := h.l1
  have b1 := h.b1
  have b0 := h.b0
  have s1 := h.s1
  have hfew := hW.few
  have hfit := hW.fit
  have h1 := slen_tri c k rawT rawT zs 0 cl es l1 hk
  have hry := refill_yes true c h S hS f (hW.flow.hinv hk) k hk
  rw [hr] at hry
  have hap := apply_1 true c S f _ k 0 (by omega) (x + 1) (leastN m c.b) hry
  have har := ask_refill k (by omega)
  have hpile0 : (⟨zs, 0, cl, es⟩ : PS).pile = [] := rfl
  -- what it has
  have hfacts : (∀ y : Nat, y < 64 → ((((x : Int), (y : Int)) : Blk) ∈ o ↔ (y < capN c k ∧ m.testBit y = false))) ∧ subM m (allN c k) ∧ m ≠ 0 ∧ m < 18446744073709551616 := by
    have hsup := hW.flow.sup x hx
    rw [hpile0, List.nil_append] at hsup
    rcases hsup with ⟨e1, e2⟩ | ⟨a, e1, e2, e3, e4, e5⟩
    · obtain rfl := hm.1 e1
      refine ⟨fun y hy => ⟨fun hh => absurd rfl (e2 _ hh), fun hh => ?_⟩, fun _ _ hh => hh, allN_ne h hk, allN_lt c k⟩
      rw [allN_bit h] at hh
      simp at hh; omega
    · obtain rfl := hm.2.1 a e1
      refine ⟨e5, e2, ?_, e4⟩
      rcases hm.2.2 with hh | hh
      · rw [e1] at hh; cases hh
      · exact hh.2
  obtain ⟨a1, a2, a3, a4⟩ := hfacts
  have hflow : Flow c k S f o := by have := hW.flow; rwa [hpile0, List.nil_append] at this
  have hout : Flow c k S (refS c f k (some (x, m))) (o ++ (bitsL (leastN m c.b)).map fun y : Nat => ((x : Int), (y : Int))) := hflow.out h hS hx a1 a2 a3 a4
  generalize refS c f k (some (x, m)) = f2 at *
  have hlt := leastN_lt m c.b
  have hlen := least_len m (n := c.b) (by omega)
  have hne := least_ne a4 a3 b0
  have hsubl := least_sub m c.b
  have hf := fill_tri c h k rawT rawT ⟨zs, 0, cl, es⟩ x (leastN m c.b) hk (Nat.zero_le _) (Nat.zero_le _) hlt
  obtain ⟨g1, g2⟩ := fill_pile h (k := k) hW.good hpile0 (i := (x : Int)) (by omega) (leastN m c.b)
  have hand : leastN m c.b &&& lowN (capN c k) = leastN m c.b := by
    refine (subM_and hlt).1 fun y hy hh => ?_
    exact a2 y hy (hsubl y hy hh)
  rw [hand] at g2
  generalize leastN m c.b = w at *
  have hL0 : (bitsL w).length ≠ 0 := fun hh => hne (bits_zero hlt hh)
  generalize hs2 : fillS c k ⟨zs, 0, cl, es⟩ (x : Int) (intsL (bitsL w)) = s2 at *
  have hm2 : s2.m = (bitsL w).length := by rw [← g1.len, g2]; simp
  obtain ⟨zs2, m2, cl2, es2⟩ := s2
  simp only at hm2
  obtain ⟨q, rfl⟩ : ∃ q, m2 = q + 1 := ⟨m2 - 1, by omega⟩
  have hperm : Flow c k S f2 ((⟨zs2, q + 1, cl2, es2⟩ : PS).pile ++ o) := by
    refine hout.perm ?_
    rw [g2, List.map_reverse]
    exact List.perm_append_comm.trans (List.Perm.append_right _ (List.reverse_perm _).symm)
  obtain ⟨p1, p2⟩ := pop_good g1 (List.nodup_append.1 hperm.nodup).1
  have hle : q + 1 ≤ zs2.length := g1.le
  have h2 := pop_some c k rawT rawT zs2 q cl2 es2 (bAt zs2 q) l1 hk (by omega) (by omega) rfl
  have h3 := slen_tri c k rawT rawT zs2 q cl2 (mdel (kk := BlkK) (bAt zs2 q : Blk) es2) l1 hk
  have hW' : WInv c k S f2 ⟨zs2, q, cl2, mdel (kk := BlkK) (bAt zs2 q : Blk) es2⟩ (o ++ [bAt zs2 q]) (o ++ [bAt zs2 q]) 0 (n + 1) (i + 1) := by
    refine ⟨p1, ?_, by show (q : Int) ≤ 2 * c.b; omega, rfl, by simp [hW.len], by simp [hW.len], by omega⟩
    refine hperm.perm ?_
    rw [p2, List.append_assoc]
    exact List.Perm.append_left _ List.perm_append_comm
  have ih := wf_next own own2 c h k S hk hS ac hac f2 _ _ _ 0 (n + 1) i hi hW' (next _ _ _ _ 0 (n + 1) hW')
  have e1 : (ys.drop off).take n = o := by rw [hW.out, List.take_of_length_le (by rw [hW.len]; exact Nat.le_refl _)]
  have hol := hW.len
  generalize bAt zs2 q = b at *
  have e2 : (ys.drop off).take n ++ [b] = o ++ [b] := by rw [e1]
  have e3 : IntKind.i64.wrap (IntKind.i64.wrap ((x + 1 : Nat) : Int) - 1) = (x : Int) := by rw [w64 (x := ((x + 1 : Nat) : Int)) (by omega) (by omega), w64 (by omega) (by omega)]; omega
  generalize askN 1 k = w2 at *
  refine Goods.to 2000 [.b true, .b true, .c (.of h1), .b true, .k 70 (.of har), .k 71 (.of hap), .c (.of hf), .c (.of h2), .s 91 none false true, .c (.of h3), .l, .stop] mixed (ih) (by kernel_rfl) ?_
  show Yes _
  repeat' apply And.intro
  all_goals try first | exact e2 | exact e3
  (all_goals first | rfl | assumption | trivial | omega | (simp [-List.getD_eq_getElem?_getD, ha] <;> omega) | (simp (disch := omega) only [w64, wu64] <;> omega) | (simp (disch := omega) [-List.getD_eq_getElem?_getD, List.getD_cons_zero, List.getD_cons_succ, kCast_self, dfl_pair, dfl_int, w64, wu64, ha] <;> omega) | (rw [Bool.eq_iff_iff]; simp (disch := omega) [-List.getD_eq_getElem?_getD, List.getD_cons_zero, List.getD_cons_succ, kCast_self, dfl_pair, dfl_int, w64, wu64, ha] <;> omega) | (simp_all [-List.getD_eq_getElem?_getD] <;> omega))
end Go.Proofs.YtcicfbccdgkfhaaDoor.E

/- The engine: further loud operations: rows of which one element is known; iterators over maps; clear. -/
import Derived.Test.YtnheodgffackoaaDoorEf
import Derived.Laws.IdiomRangeMap
import GoSem.Builtin.Clear
namespace Go.Proofs.YtnheodgffackoaaDoor.E
set_option linter.unusedSimpArgs false
set_option linter.unusedVariables false
open Go
section
variable {E : Env} {ρ ρ' : Rho} {tm : Tm} {a : Act} {H H' : Hp} {w w' : World} {B : Nat}
/-- Objects say less of what lies there. -/
theorem RelH.weak (h : RelH B ρ H w) (hn : H'.n = H.n) (hg : ∀ j, H'.get j ≠ .gone → ∃ l, ρ j = some l ∧ ObjRel B ρ w l (H'.get j) ∧ ∀ q, Foot l (H'.get j) q → Foot l (H.get j) q) (hf : ∀ j, H.n ≤ j → H'.get j = .gone) : RelH B ρ H' w := by
  refine ⟨fun i hi => ?_, fun i j li lj q hij h1 h2 h3 h4 => ?_, fun i hi => ?_, h.bound⟩
  · obtain ⟨l, h1, h2, _⟩ := hg i hi; exact ⟨l, h1, h2⟩
  · obtain ⟨l, h5, _, h6⟩ := hg i h3.ne
    obtain ⟨l', h7, _, h8⟩ := hg j h4.ne
    rw [h1] at h5; cases h5
    rw [h2] at h7; cases h7
    exact h.sepF i j li lj q hij h1 h2 (h6 q h3) (h8 q h4)
  · rw [hn] at hi; exact ⟨(h.fresh i hi).1, hf i hi⟩
theorem Blks.weak (hg : ∀ j l q, ρ j = some l → Foot l (H'.get j) q → Foot l (H.get j) q) {b : Nat} (hb : Blks ρ H' b) : Blks ρ H b := by
  obtain ⟨i, l, h1, h2⟩ := hb
  exact ⟨i, l, h1, hg i l b h1 h2⟩
theorem foot_of {l : Loc} {o o' : AObj} (hnb : isBig o = false) (h : Owned l o → Owned l o') {q : Nat} (hq : Foot l o q) : Foot l o' q := by
  obtain ⟨h1, h2⟩ := hq.small hnb
  exact .inl ⟨h h1, h2⟩
/-- One object says another thing. -/
theorem RelH.as (h : RelH B ρ H w) {id : Nat} {o : AObj} {l : Loc} (hl : ρ id = some l) (hne : H.get id ≠ .gone) (ho : ObjRel B ρ w l o) (hO : Owned l o → Owned l (H.get id)) (hnb : isBig o = false := by rfl) : RelH B ρ (H.set id o) w := by
  have hlt : id < H.n := by
    apply Classical.byContradiction; intro hn
    have := (h.fresh id (by omega)).1
    rw [hl] at this; cases this
  refine h.weak rfl (fun j hj => ?_) fun j hj => ?_
  · rw [get_set] at hj ⊢
    split at hj
    · rename_i he; subst he; rw [if_pos rfl]; exact ⟨l, hl, ho, fun q => foot_of hnb hO⟩
    · rename_i he; rw [if_neg he]; obtain ⟨l', h1, h2⟩ := h.obj j hj; exact ⟨l', h1, h2, fun _ h => h⟩
  · rw [get_set, if_neg (by omega)]; exact (h.fresh j hj).2
theorem Blks.as {id : Nat} {o : AObj} {l : Loc} (hl : ρ id = some l) (hO : Owned l o → Owned l (H.get id)) {b : Nat} (hb : Blks ρ (H.set id o) b) (hnb : isBig o = false := by rfl) : Blks ρ H b := by
  refine Blks.weak (fun j l' q h1 h2 => ?_) hb
  rw [get_set] at h2
  split at h2
  · rename_i he; subst he; rw [hl] at h1; cases h1; exact foot_of hnb hO h2
  · exact h2
theorem set_len {β : Type _} (us ws : List β) (u v : β) : (us ++ u :: ws).set us.length v = us ++ v :: ws := by
  induction us with
  | nil => rfl
  | cons x us ih => simp [ih]
theorem storeX_sound {t : TypeId} {p x v : AV} {cs : List Prop} {pv u : Value} (h : evStoreX E H t p x = some (v, H', cs)) (hc : AllP cs) (hp : Den ρ p pv) (hx : Den ρ x u) (hH : RelH B ρ H w) :
    ∃ w', (Instr.storeAt t pv u).run E.P w = .ok () w' ∧ Loud B ρ H w v H' ρ w' Go.undef := by
  unfold evStoreX at h
  split at h <;> try (cases h; done)
  rename_i id ix fld
  split at h <;> try (cases h; done)
  rename_i ps hs hn
  split at h <;> cases h
  rename_i k P v0 ho
  obtain ⟨hix, hc⟩ := hc
  obtain ⟨l, hl, us, u0, ws, h1, h2, h3, h4, h5, h6, h7⟩ := (ho ▸ hH.obj id (by simp [ho]) : ∃ l, ρ id = some l ∧ ObjRel B ρ w l (.mix k P v0))
  have hcell : cellsO x = some ([x], ps) := by
    cases x <;> simp only [scal, reduceCtorEq] at hs <;> simp [cellsO, scal, hs]
    all_goals simpa using hs
  have ⟨hd, hone⟩ := cells_sound hcell hc hx
  have hu1 : u.cells = #[u] := by
    cases u <;> try rfl
    exfalso
    cases x <;> simp only [scal, reduceCtorEq] at hs <;> simp [Den] at hx
    subst hx
    cases hs
    simp [Value.oneCell'] at hc
    exact hc.1
  have hcs : u.oneCell' = true := hone u (by rw [hu1]; simp)
  have hO : Owned l (H.get id) := by rw [ho]; exact ⟨rfl, by simp at h5; omega⟩
  have hne : H.get id ≠ .gone := by simp [ho]
  have hH1 : RelH B ρ (H.set id (.tab true .raw (us ++ u0 :: ws))) w := hH.as hl hne ⟨h4, h5, h6, h7⟩ (fun _ => hO)
  have hst : evStore E (H.set id (.tab true .raw (us ++ u0 :: ws))) t (.ptr id ix 0) (.raw u) = some (.undef, (H.set id (.tab true .raw (us ++ u0 :: ws))).set id (.tab true .raw ((us ++ u0 :: ws).set ix u)), [ix < (us ++ u0 :: ws).length, u.oneCell' = true]) := by
    simp [evStore, cellsO, scal, hn, get_set, len, enc, setn, dec, decp]
  obtain ⟨w', r1, r2⟩ := store_sound hst ⟨by simp; omega, hcs, trivial⟩ hp (show Den ρ (.raw u) u from rfl) hH1
  have hO' : Owned l (.mix k P x) → Owned l (H.get id) := fun _ => hO
  refine ⟨w', r1, rfl, fun _ _ h => h, ?_, r2.kept.mono fun b hb => Blks.as hl (fun _ => hO) hb, fun b hb => .inl (Blks.as hl hO' hb)⟩
  refine r2.rel.weak rfl (fun j hj => ?_) fun j hj => ?_
  · rw [get_set] at hj ⊢
    split at hj
    · rename_i he; subst he
      rw [if_pos rfl]
      obtain ⟨l', q1, q2⟩ := r2.rel.obj j (by rw [get_set, if_pos rfl]; simp)
      rw [hl] at q1; cases q1
      rw [get_set, if_pos rfl] at q2
      obtain ⟨q3, q4, q5, q6⟩ := q2
      rw [hix, ← h1, set_len] at q4 q5
      refine ⟨l, hl, ⟨us, u, ws, h1, h2, hx, q3, q4, q5, q6⟩, fun q h => ?_⟩
      rw [get_set, if_pos rfl]; exact foot_of rfl (fun h => h) h
    · rename_i he
      rw [if_neg he]
      obtain ⟨l', q1, q2⟩ := r2.rel.obj j (by rw [get_set, if_neg he, get_set, if_neg he]; exact hj)
      rw [get_set, if_neg he, get_set, if_neg he] at q2
      refine ⟨l', q1, q2, fun q h => ?_⟩
      rw [get_set, if_neg he, get_set, if_neg he]; exact h
  · rw [get_set, if_neg]
    · exact (hH.fresh j hj).2
    · rintro rfl
      rw [(hH.fresh _ hj).1] at hl; cases hl
theorem scal_cells {x : AV} {ps : List Prop} {u : Value} (hs : scal x = some ps) (hc : AllP ps) (hx : Den ρ x u) : u.oneCell' = true := by
  have hcell : cellsO x = some ([x], ps) := by
    cases x <;> simp only [scal, reduceCtorEq] at hs <;> simp [cellsO, scal, hs]
    all_goals simpa using hs
  have ⟨hd, hone⟩ := cells_sound hcell hc hx
  have hu1 : u.cells = #[u] := by
    cases u <;> try rfl
    exfalso
    cases x <;> simp only [scal, reduceCtorEq] at hs <;> simp [Den] at hx
    subst hx
    cases hs
    simp [Value.oneCell'] at hc
    exact hc.1
  exact hone u (by rw [hu1]; simp)
theorem appendX_fin {t e ty' : TypeId} {by_ off id idy n : Nat} {H1 : Hp} {xs : List Value} {y0 u z : Value} {O : AObj} (hk : kSlice E.P t = some (.raw, by_, e)) (hble : Nat.ble by_ 4096 = true) (hn : H1.n = H.n) (hg1 : H1.get id = .tab true .raw xs) (hg2 : H1.get idy = .tab true .raw [y0])
    (hoth : ∀ j, j ≠ id → j ≠ idy → H1.get j = H.get j) (hH1 : RelH B ρ H1 w) (hB : ∀ j l q, ρ j = some l → Foot l (H1.get j) q → Foot l (H.get j) q) (h0 : off = 0) (hlen : n = xs.length) (hsm : n + 1 ≤ 17179869184) (hx : Den ρ (.slice id off n) u) (hy : Den ρ (.slice idy 0 1) z)
    (hO : ∀ ρ' w' l, (∀ i l, ρ i = some l → ρ' i = some l) → ObjRel B ρ' w' l (.tab true .raw (xs ++ [y0])) → ObjRel B ρ' w' l O) (hOO : ∀ l q, Foot l O q → Foot l (.tab true .raw (xs ++ [y0])) q) (hf : ∀ j, H.n ≤ j → H.get j = .gone) :
    ∃ v' w' ρ', (Builtin.append_ #[t, t] ty' #[u, z]).run E.P w = .ok v' w' ∧ Loud B ρ H w (.slice H.n 0 (n + 1)) (((H.set idy .gone).set id .gone).new O) ρ' w' v' := by
  have hap : evAppend E H1 true true t (.slice id off n) (.slice idy 0 1) = some (.slice H1.n 0 (n + 1), (H1.set id .gone).new (.tab true .raw (xs ++ [y0])), [off = 0, n = xs.length, 0 = 0, 1 = [y0].length, n + 1 ≤ 17179869184]) := by
    simp [evAppend, hk, hble, content, hg1, hg2, castT, app2]
  obtain ⟨v', w', ρ', r1, r2⟩ := append_sound (ty' := ty') hap ⟨h0, hlen, rfl, rfl, hsm, trivial⟩ hx hy hH1
  have hne : idy ≠ H.n := by
    rintro rfl
    rw [(hH1.fresh _ (by omega)).2] at hg2; cases hg2
  have hne' : id ≠ H.n := by
    rintro rfl
    rw [(hH1.fresh _ (by omega)).2] at hg1; cases hg1
  have hgA : ∀ j, (((H.set idy .gone).set id .gone).new O).get j = if j = H.n then O else if j = id then .gone else if j = idy then .gone else H.get j := by
    intro j; rw [get_new, get_set, get_set]; rfl
  have hgB : ∀ j, ((H1.set id .gone).new (.tab true .raw (xs ++ [y0]))).get j = if j = H.n then .tab true .raw (xs ++ [y0]) else if j = id then .gone else H1.get j := by
    intro j; rw [get_new, get_set, ← hn]; rfl
  have hw : ∀ j l q, ρ' j = some l → Foot l ((((H.set idy .gone).set id .gone).new O).get j) q → Foot l (((H1.set id .gone).new (.tab true .raw (xs ++ [y0]))).get j) q := by
    intro j l q _ h2
    rw [hgA] at h2; rw [hgB]
    by_cases e1 : j = H.n
    · rw [if_pos e1] at h2 ⊢; exact hOO l q h2
    · rw [if_neg e1] at h2 ⊢
      by_cases e2 : j = id
      · rw [if_pos e2] at h2; exact absurd rfl h2.ne
      · rw [if_neg e2] at h2 ⊢
        by_cases e3 : j = idy
        · rw [if_pos e3] at h2; exact absurd rfl h2.ne
        · rw [if_neg e3] at h2; rw [hoth j e2 e3]; exact h2
  refine ⟨v', w', ρ', r1, by rw [← hn]; exact r2.den, r2.mono, ?_, r2.kept.mono fun b hb => Blks.weak hB hb, fun b hb => (r2.own b (Blks.weak hw hb)).imp (fun h => Blks.weak hB h) fun h => h⟩
  refine r2.rel.weak (by show H.n + 1 = H1.n + 1; rw [hn]) (fun j hj => ?_) fun j hj => ?_
  · have key : ∀ o, ((H1.set id .gone).new (.tab true .raw (xs ++ [y0]))).get j = o → o ≠ .gone → ∃ l, ρ' j = some l ∧ ObjRel B ρ' w' l o := fun o ho hne => by
      obtain ⟨l, q1, q2⟩ := r2.rel.obj j (by rw [ho]; exact hne)
      rw [ho] at q2; exact ⟨l, q1, q2⟩
    rw [hgA] at hj
    by_cases e1 : j = H.n
    · obtain ⟨l, q1, q2⟩ := key (.tab true .raw (xs ++ [y0])) (by rw [hgB, if_pos e1]) (by simp)
      refine ⟨l, q1, ?_, fun q => hw j l q q1⟩
      rw [hgA, if_pos e1]
      exact hO ρ' w' l r2.mono q2
    · rw [if_neg e1] at hj
      by_cases e2 : j = id
      · rw [if_pos e2] at hj; exact absurd rfl hj
      · rw [if_neg e2] at hj
        by_cases e3 : j = idy
        · rw [if_pos e3] at hj; exact absurd rfl hj
        · rw [if_neg e3] at hj
          obtain ⟨l, q1, q2⟩ := key (H.get j) (by rw [hgB, if_neg e1, if_neg e2, hoth j e2 e3]) hj
          refine ⟨l, q1, ?_, fun q => hw j l q q1⟩
          rw [hgA, if_neg e1, if_neg e2, if_neg e3]; exact q2
  · have hj : H1.n + 1 ≤ j := hj
    rw [hgA, if_neg (by omega)]
    split
    · rfl
    · split
      · rfl
      · exact hf j (by omega)
theorem appendX_sound {t ty' : TypeId} {x y v : AV} {cs : List Prop} {u z : Value} (h : evAppendX E H t x y = some (v, H', cs)) (hc : AllP cs) (hx : Den ρ x u) (hy : Den ρ y z) (hH : RelH B ρ H w) :
    ∃ v' w' ρ', (Builtin.append_ #[t, t] ty' #[u, z]).run E.P w = .ok v' w' ∧ Loud B ρ H w v H' ρ' w' v' := by
  unfold evAppendX at h
  split at h <;> try (cases h; done)
  rename_i by_ e hk
  split at h <;> try (cases h; done)
  rename_i idy hble
  split at h <;> try (cases h; done)
  rename_i vy hoy
  split at h <;> try (cases h; done)
  rename_i ps id off n hsc
  -- the row of one value, as a row of what it is
  obtain ⟨ly, hly, hyB, hy0, hyz, bc, tt, hheap, hd, hbs⟩ := (hoy ▸ hH.obj idy (by simp [hoy]) : ∃ l, ρ idy = some l ∧ ObjRel B ρ w l (.row 1 [vy]))
  obtain ⟨y0, yn, hbc, hd0, hdn⟩ := hd
  simp only [DenL] at hdn; subst hdn
  have hbc1 : bc.size = 1 := by rw [← Array.length_toList, hbc]; rfl
  have hroom : ly.room = 1 := by rw [hyz] at hbs; omega
  have hfr := fun j hj => (hH.fresh j hj).2
  have htab : y0.oneCell' = true → ObjRel B ρ w ly (.tab true .raw [y0]) := by
    intro h1
    refine ⟨hyz, by simp [hroom], fun j x hj => ?_, fun _ => ⟨hyB, bc, tt, hheap, by rw [hy0, hbs]; omega⟩⟩
    cases j with
    | succ j => simp at hj
    | zero =>
      cases hj
      refine ⟨[y0], ⟨y0, [], rfl, rfl, rfl⟩, by simpa using h1, fun i v hv => ?_⟩
      rw [hy0]
      have : i < 1 := by have := (List.getElem?_eq_some_iff.1 hv).1; simpa using this
      obtain rfl : i = 0 := by omega
      simp only [Nat.zero_mul, Nat.zero_add, World.cell?, hheap]
      rw [← Array.getElem?_toList, hbc]; exact hv
  split at h <;> try (cases h; done)
  · rename_i xs ho
    cases h
    obtain ⟨c1, c2, c3, c4⟩ := hc
    have hne : id ≠ idy := by rintro rfl; rw [ho] at hoy; cases hoy
    have h1 := hH.as (o := .tab true .raw [y0]) hly (by rw [hoy]; simp) (htab (scal_cells hsc c4 hd0)) (fun _ => by rw [hoy]; trivial)
    refine appendX_fin hk hble (H1 := H.set idy (.tab true .raw [y0])) rfl (by rw [get_set, if_neg hne]; exact ho) (by rw [get_set, if_pos rfl]) (fun j _ q => by rw [get_set, if_neg q]) h1 (fun j l q q1 q2 => ?_) c1 c2 c3 hx hy (fun ρ' w' l hm q => ?_) (fun l q hq => foot_of rfl (fun h => h) hq) hfr
    · rw [get_set] at q2
      split at q2
      · rename_i he; subst he; exact foot_of rfl (fun _ => by rw [hoy]; trivial) q2
      · exact q2
    · exact ⟨xs, y0, [], rfl, ⟨rfl, rfl⟩, Den.mono hm hd0, q⟩
  · rename_i k P v0 ho
    cases h
    obtain ⟨c1, c2, c3, c4⟩ := hc
    have hne : id ≠ idy := by rintro rfl; rw [ho] at hoy; cases hoy
    obtain ⟨l, hl, us, u0, ws, q1, q2, q3, q4, q5, q6, q7⟩ := (ho ▸ hH.obj id (by simp [ho]) : ∃ l, ρ id = some l ∧ ObjRel B ρ w l (.mix k P v0))
    have hlen : n = (us ++ u0 :: ws).length := by rw [c2 us ws q2 q1]; simp; omega
    have hO : Owned l (H.get id) := by rw [ho]; exact ⟨rfl, by simp at q5; omega⟩
    have h1 := hH.as (o := .tab true .raw [y0]) hly (by rw [hoy]; simp) (htab (scal_cells hsc c4 hd0)) (fun _ => by rw [hoy]; trivial)
    have h2 := h1.as (id := id) (o := .tab true .raw (us ++ u0 :: ws)) hl (by rw [get_set, if_neg hne, ho]; simp) ⟨q4, q5, q6, q7⟩ (fun _ => by rw [get_set, if_neg hne]; exact hO)
    refine appendX_fin hk hble (H1 := (H.set idy (.tab true .raw [y0])).set id (.tab true .raw (us ++ u0 :: ws))) rfl (by rw [get_set, if_pos rfl]) (by rw [get_set, if_neg (Ne.symm hne), get_set, if_pos rfl]) (fun j p q => by rw [get_set, if_neg p, get_set, if_neg q]) h2 (fun j l' q p1 p2 => ?_) c1 hlen c3 hx hy (fun ρ' w' l hm q => ?_) (fun l q hq => foot_of rfl (fun h => h) hq) hfr
    · rw [get_set] at p2
      split at p2
      · rename_i he; subst he; rw [hl] at p1; cases p1; exact foot_of rfl (fun _ => hO) p2
      · rw [get_set] at p2
        split at p2
        · rename_i he; subst he; exact foot_of rfl (fun _ => by rw [hoy]; trivial) p2
        · exact p2
    · rw [List.append_assoc, List.cons_append] at q
      exact ⟨us, u0, ws ++ [y0], q1, ⟨ws, y0, q2, rfl⟩, Den.mono hm q3, q⟩
theorem range_sound {t : TypeId} {x v : AV} {cs : List Prop} {u : Value} (h : evRange E H t x = some (v, H', cs)) (hx : Den ρ x u) (hH : RelH B ρ H w) :
    ∃ v' w' ρ', (Instr.range t u).run E.P w = .ok v' w' ∧ Loud B ρ H w v H' ρ' w' v' := by
  unfold evRange at h
  split at h <;> try (cases h; done)
  rename_i kt et id hu
  obtain ⟨l, hl, rfl⟩ := hx
  split at h <;> cases h
  rename_i kk vk c es ho
  obtain ⟨l', hl', _, ents, hheap, hents⟩ := (ho ▸ hH.obj id (by simp [ho]) : ∃ l, ρ id = some l ∧ ObjRel B ρ w l (.map kk vk c es))
  rw [hl] at hl'; cases hl'
  have hm := upd_mono hH ⟨w.heap.size, 0, 0, 0⟩
  exact ⟨_, _, _, run_range_map w t kt et l.blk ents c hu hheap, Loud.new (l := ⟨w.heap.size, 0, 0, 0⟩) hH (Kept.alloc _ _ _) ⟨hH.bound, rfl, l, #[], hm _ _ hl, heap_alloc_new w _, rfl⟩ (fun _ => Nat.le_refl _) ⟨_, upd_self .., rfl⟩⟩
theorem next_run {P : Program} (w : World) (ty : TypeId) (r bm c : Nat) (seen : Array Nat) (es : Array MapEntry) (hr : w.heap[r]? = some (.mapIter (some bm) c seen c)) (hb : w.heap[bm]? = some (.map es c)) (hold : ∀ x ∈ es.toList, x.born < c) :
    ((leftOf es seen).size = 0 ∧ (Instr.next (.pointer (some ⟨r, 0, none⟩)) false ty).run P w = .ok (.tuple #[.bool false]) w) ∨
    ∃ e ∈ (leftOf es seen).toList, ∃ w1 : World, (w1 = w ∨ w1 = w.drew) ∧ (Instr.next (.pointer (some ⟨r, 0, none⟩)) false ty).run P w = .ok (.tuple #[.bool true, e.key, e.val]) { w1 with heap := w1.heap.setIfInBounds r (.mapIter (some bm) c (seen.push e.born) c) } := by
  simp only [Instr.next, getObj, Sem.run_bind, Sem.run, hr, hb, Result.andThen, next_test_false seen es c c hold (Nat.le_refl _), Bool.false_eq_true, if_false]
  unfold leftOf
  have hmem : ∀ x ∈ (Array.filter (fun e => !seen.contains e.born) es).toList, x.born < c := fun x hx => hold x (by simp at hx ⊢; exact hx.1)
  generalize Array.filter (fun e => !seen.contains e.born) es = L at hmem ⊢
  have e1 : L.filter (fun x => decide (x.born < c)) = L := Array.filter_eq_self.2 (fun x hx => by simpa using hmem x (by simpa using hx))
  have e2 : L.filter (fun x => decide (x.born ≥ c)) = #[] := by
    rw [Array.filter_eq_empty_iff]
    intro x hx
    have := hmem x (by simpa using hx)
    simp
    omega
  simp only [e1, e2, Array.append_empty]
  by_cases h0 : L.size = 0
  · left
    have : L = #[] := Array.eq_empty_of_size_eq_zero h0
    subst this
    refine ⟨rfl, ?_⟩
    simp [choose, Sem.run, Question.forced]
  · right
    have hne : L.isEmpty = false := by simp [Array.isEmpty, h0]
    simp only [hne, Bool.false_eq_true, if_false, Array.empty_append, Array.size_map]
    have hch : ∃ (j : Nat) (w1 : World), j < L.size ∧ (w1 = w ∨ w1 = w.drew) ∧ (choose (Question.mapNext L.size)).run P w = .ok j w1 := by
      by_cases hf : L.size ≤ 1
      · exact ⟨0, w, by omega, .inl rfl, by simp [choose, Sem.run, Question.forced, hf]⟩
      · exact ⟨_, w.drew, Nat.mod_lt _ (by omega), .inr rfl, by
          simp only [choose, Sem.run, Question.forced, decide_eq_true_eq, hf, if_false, Question.cut]
          rfl⟩
    obtain ⟨j, w1, hj, hal, hrun⟩ := hch
    refine ⟨L[j], by simp, w1, hal, ?_⟩
    have hr1 : w1.heap[r]? = some (.mapIter (some bm) c seen c) := by rcases hal with rfl | rfl <;> exact hr
    have hset : ∀ (o' : Obj), (setObj r o').run P w1 = .ok () { w1 with heap := w1.heap.setIfInBounds r o' } := fun o' => by
      simp [setObj, Sem.run, hr1]
    simp only [hrun, Array.getElem?_map, Array.getElem?_eq_getElem hj, Option.map_some, Sem.run_bind, hset, Result.andThen]
    rfl
theorem next_sound {ty : TypeId} {fx : Bool} {x v : AV} {cs : List Prop} {u : Value} (h : evNext H fx x = some (v, H', cs)) (hc : AllP cs) (hx : Den ρ x u) (hH : RelH B ρ H w) :
    ∃ v' w', (Instr.next u false ty).run E.P w = .ok v' w' ∧ Loud B ρ H w v H' ρ w' v' := by
  unfold evNext at h
  split at h <;> try (cases h; done)
  rename_i i
  obtain ⟨li, hli, rfl⟩ := hx
  split at h <;> try (cases h; done)
  rename_i id c seen hoi
  split at h <;> try (cases h; done)
  rename_i kk vk c' es ho
  obtain ⟨li', hli', hiB, hi0, lm, s, hlm, hiter, hseen⟩ := (hoi ▸ hH.obj i (by simp [hoi]) : ∃ l, ρ i = some l ∧ ObjRel B ρ w l (.iter id c seen))
  rw [hli] at hli'; cases hli'
  obtain ⟨lm', hlm', _, ents, hheap, hents⟩ := (ho ▸ hH.obj id (by simp [ho]) : ∃ l, ρ id = some l ∧ ObjRel B ρ w l (.map kk vk c' es))
  rw [hlm] at hlm'; cases hlm'
  have hp : li.base + 0 * li.sz + 0 = 0 := by rw [hi0]; simp
  rw [hp]
  have hold : c' = c → (∀ e ∈ es, e.2.2 < c) → ∀ x ∈ ents.toList, x.born < c := by
    intro h1 h2 x hx
    rw [hents] at hx
    obtain ⟨e, he, rfl⟩ := List.mem_map.1 hx
    exact h2 e he
  have hleft : ∀ x : MapEntry, x ∈ (leftOf ents s).toList ↔ ∃ e ∈ es, entV e = x ∧ e.2.2 ∉ seen := by
    intro x
    simp only [leftOf, Array.toList_filter, List.mem_filter, hents, List.mem_map, Bool.not_eq_true', Array.contains_eq_mem, decide_eq_false_iff_not]
    constructor
    · rintro ⟨⟨e, he, rfl⟩, h2⟩
      exact ⟨e, he, rfl, by rw [← hseen]; simpa [entV] using h2⟩
    · rintro ⟨e, he, rfl, h2⟩
      exact ⟨⟨e, he, rfl⟩, by rw [← hseen] at h2; simpa [entV] using h2⟩
  cases fx <;> cases h
  · obtain ⟨h1, h2, h3, _⟩ := hc
    have h4 := hold h1 h2
    subst h1
    rcases next_run (P := E.P) w ty li.blk lm.blk c' s ents hiter hheap h4 with ⟨_, hr⟩ | ⟨e, he, _⟩
    · exact ⟨_, w, hr, ⟨_, rfl, _, _, rfl, rfl, rfl⟩, fun _ _ h => h, hH, Kept.refl _ _, fun b hb => .inl hb⟩
    · obtain ⟨e', h5, _, h6⟩ := (hleft e).1 he
      exact absurd (h3 e' h5) h6
  · obtain ⟨h1, h2, ⟨e0, h3, h3'⟩, _⟩ := hc
    have h4 := hold h1 h2
    subst h1
    rcases next_run (P := E.P) w ty li.blk lm.blk c' s ents hiter hheap h4 with ⟨h5, _⟩ | ⟨e, he, w1, hw1, hr⟩
    · have : entV e0 ∈ (leftOf ents s).toList := (hleft _).2 ⟨e0, h3, rfl, h3'⟩
      have hnil : (leftOf ents s).toList = [] := by rw [← List.length_eq_zero_iff, Array.length_toList]; exact h5
      rw [hnil] at this; cases this
    · obtain ⟨e', h5, h5', h6⟩ := (hleft e).1 he
      have hO : Owned li (H.get i) := by rw [hoi]; trivial
      have hk : Kept (· = li.blk) w { w1 with heap := w1.heap.setIfInBounds li.blk (.mapIter (some lm.blk) c' (s.push e.born) c') } := by
        rcases hw1 with rfl | rfl
        · exact Kept.setMap _ _ _
        · exact (Kept.setMap w li.blk (.mapIter (some lm.blk) c' (s.push e.born) c')).drew
      have hheap1 : w1.heap = w.heap := by rcases hw1 with rfl | rfl <;> rfl
      refine ⟨_, _, hr, ⟨_, rfl, _, _, rfl, rfl, _, _, rfl, trivial, _, _, rfl, trivial, rfl⟩, fun _ _ h => h, hH.write hli hO hk ⟨hiB, hi0, lm, s.push e.born, e'.2.2, hlm, ?_, ?_, ?_, h6⟩, hk.mono fun b hb => ⟨i, li, hli, .inl ⟨hO, hb.symm⟩⟩, fun b hb => .inl ?_⟩
      · have hlt := heap_lt hiter
        simp [hheap1, Array.getElem?_setIfInBounds, hlt]
      · subst h5'; simp [hseen, entV]
      · exact List.mem_map.2 ⟨e', h5, rfl⟩
      · refine Blks.as hli (fun _ => hO) hb
theorem keyB_mem {kk vk : K} {b : Nat} : ∀ {es : List (Ent kk vk)}, (∃ e ∈ es, e.2.2 = b) → (es.map entV).find? (·.born == b) = some ⟨valV kk (keyB b es), valV vk (valB b es), b⟩
  | [], h => by simp at h
  | e :: es, h => by
    rw [List.map_cons, List.find?_cons]
    by_cases he : e.2.2 = b
    · simp [entV, he, keyB, valB]
    · have : ((entV e).born == b) = false := by simpa [entV] using he
      rw [this]
      simp only [keyB, valB, if_neg he]
      refine keyB_mem ?_
      obtain ⟨e', h1, h2⟩ := h
      rcases List.mem_cons.1 h1 with rfl | h1
      · exact absurd h2 he
      · exact ⟨e', h1, h2⟩
theorem lastB_back : ∀ {l : List Nat}, l ≠ [] → l.getLast? = some (lastB l)
  | [], h => absurd rfl h
  | [b], _ => rfl
  | _ :: b :: l, _ => by rw [List.getLast?_cons_cons]; exact lastB_back (by simp)
theorem entry_sound {x v : AV} {cs : List Prop} {u : Value} (h : evEntry H x = some (v, H', cs)) (hc : AllP cs) (hx : Den ρ x u) (hH : RelH B ρ H w) :
    ∃ v', (Instr.entry u).run E.P w = .ok v' w ∧ Loud B ρ H w v H' ρ w v' := by
  unfold evEntry at h
  split at h <;> try (cases h; done)
  rename_i i
  obtain ⟨li, hli, rfl⟩ := hx
  split at h <;> try (cases h; done)
  rename_i id c seen hoi
  split at h <;> cases h
  rename_i kk vk c' es ho
  obtain ⟨li', hli', hiB, hi0, lm, s, hlm, hiter, hseen⟩ := (hoi ▸ hH.obj i (by simp [hoi]) : ∃ l, ρ i = some l ∧ ObjRel B ρ w l (.iter id c seen))
  rw [hli] at hli'; cases hli'
  obtain ⟨lm', hlm', _, ents, hheap, hents⟩ := (ho ▸ hH.obj id (by simp [ho]) : ∃ l, ρ id = some l ∧ ObjRel B ρ w l (.map kk vk c' es))
  rw [hlm] at hlm'; cases hlm'
  have hp : li.base + 0 * li.sz + 0 = 0 := by rw [hi0]; simp
  rw [hp]
  obtain ⟨rfl, h2, h3, _⟩ := hc
  have hback : s.back? = some (lastB seen) := by
    rw [← lastB_back h2, ← hseen, Array.getLast?_toList]
  have hfind : ents.find? (·.born == lastB seen) = some ⟨valV kk (keyB (lastB seen) es), valV vk (valB (lastB seen) es), lastB seen⟩ := by
    rw [← Array.find?_toList, hents]; exact keyB_mem h3
  refine ⟨.tuple #[valV kk (keyB (lastB seen) es), valV vk (valB (lastB seen) es)], ?_, ⟨_, rfl, _, _, rfl, den_valA kk _, _, _, rfl, den_valA vk _, rfl⟩, fun _ _ h => h, hH, Kept.refl _ _, fun b hb => .inl hb⟩
  simp only [Instr.entry, getObj, Sem.run_bind, Sem.run, hiter, hheap, hback, hfind, Result.andThen, bne_self_eq_false, Bool.false_eq_true, if_false]
  rfl
theorem zeroCells_list (z : Array Value) : ∀ n, (Builtin.zeroCells z n).toList = (List.replicate n z.toList).flatten
  | 0 => by simp [Builtin.zeroCells]
  | n + 1 => by
    have ih := zeroCells_list z n
    simp only [Builtin.zeroCells, Array.toList_map, Array.toList_range] at ih ⊢
    rw [show (n + 1) * z.size = z.size + n * z.size by rw [Nat.add_mul]; omega, List.range_add, List.map_append, List.map_map, List.replicate_succ, List.flatten_cons, ← ih]
    congr 1
    · refine List.ext_getElem? fun i => ?_
      rw [List.getElem?_map]
      by_cases hi : i < z.size
      · rw [List.getElem?_range hi]
        simp only [Option.map_some, Nat.mod_eq_of_lt hi]
        rw [getElem!_pos z i hi]
        simp [hi]
      · rw [List.getElem?_eq_none (by simp; omega), List.getElem?_eq_none (by simp; omega)]; rfl
    · refine List.map_congr_left fun i _ => ?_
      simp
theorem cellsOf_replicate {k : K} {y : ty k} {es : List Value} (h1 : DenL ρ (enc k y) es) (h2 : ∀ v ∈ es, v.oneCell' = true) : ∀ n, CellsOf ρ k (List.replicate n y) (List.replicate n es).flatten
  | 0 => .nil
  | n + 1 => by
    rw [List.replicate_succ, List.replicate_succ, List.flatten_cons]
    exact .cons h1 h2 (cellsOf_replicate h1 h2 n)
theorem clear_sound {t ty' : TypeId} {x v : AV} {cs : List Prop} {u : Value} (h : evClear E H t x = some (v, H', cs)) (hc : AllP cs) (hx : Den ρ x u) (hH : RelH B ρ H w) :
    ∃ v' w', (Builtin.clear_ #[t] ty' #[u]).run E.P w = .ok v' w' ∧ Loud B ρ H w v H' ρ w' v' := by
  have hdt : Den ρ (.tuple []) (.tuple #[]) := ⟨#[], rfl, rfl⟩
  unfold evClear at h
  split at h <;> try (cases h; done)
  rename_i k by_ e hk
  split at h <;> try (cases h; done)
  rename_i z hz
  split at h <;> try (cases h; done)
  rename_i zs ps hzs
  split at h <;> try (cases h; done)
  rename_i y id off n hy
  split at h <;> try (cases h; done)
  rename_i k' xs ho
  split at h <;> cases h
  rename_i ys hys
  obtain ⟨hkk, rfl⟩ := castT_spec hys
  obtain rfl := kEq_eq hkk
  rw [kCast_self]
  simp only [List.headD_cons]
  obtain ⟨c1, c2⟩ := hc
  obtain ⟨i, z0, hK⟩ := kSlice_spec hk
  have hz0 : z0 = z := by
    have := hK.zero
    simp only [zeroO, hK.info] at hz
    rw [this] at hz; cases hz; rfl
  subst hz0
  have ⟨hd, hone⟩ := cells_sound hzs c2 (den_ofVal (ρ := ρ) z0)
  have hdy := dec_sound hy hd
  have hzr := zero_run hz w
  obtain ⟨l, a, cap, hl, rfl, hn, hroom, hadr⟩ := hx
  obtain ⟨l', hl', hsz, hxl, hel, hown⟩ := (ho ▸ hH.obj id (by simp [ho]) : ∃ l, ρ id = some l ∧ ObjRel B ρ w l (.tab true k xs))
  rw [hl] at hl'; cases hl'
  by_cases h0 : n = 0
  · subst h0
    have e : (H.set id (.tab true k (xs.take off ++ List.replicate 0 y ++ xs.drop (off + 0)))) = H.set id (.tab true k xs) := by simp
    rw [e]
    have hO : ∀ l, Owned l (.tab true k xs) → Owned l (H.get id) := fun l q => by rw [ho]; exact q
    refine ⟨.tuple #[], w, ?_, hdt, fun _ _ h => h, hH.as hl (by rw [ho]; simp) ⟨hsz, hxl, hel, hown⟩ (hO l), Kept.refl _ _, fun b hb => .inl (Blks.as hl (hO l) hb)⟩
    cases a <;> simp [Builtin.clear_, run_underlying hK.und]
  · obtain ⟨hB, bc, tt, hheap, hbc⟩ := hown (by omega)
    have hO : Owned l (H.get id) := by rw [ho]; exact ⟨rfl, by omega⟩
    have had := hadr (by omega)
    subst had
    have hC := cellsOf_replicate (ρ := ρ) hdy hone n
    have hcl := hC.len
    rw [List.length_replicate] at hcl
    have hall : (off + n) * l.sz ≤ l.room * l.sz := Nat.mul_le_mul_right _ (by omega)
    rw [Nat.add_mul] at hall
    have hms : n * k.size = n * l.sz := by rw [hsz]
    have hst := run_storeCells_at E.P l.blk (l.base + off * l.sz) tt (List.replicate n z0.cells.toList).flatten 0 bc w hheap (by rw [hcl]; omega) hC.one
    simp only [Nat.add_zero] at hst
    rw [← zeroCells_list] at hst
    refine ⟨.tuple #[], _, ?_, hdt, fun _ _ h => h, hH.write hl hO (Kept.setRow w l.blk (bc.toList.take (l.base + off * l.sz) ++ (List.replicate n z0.cells.toList).flatten ++ bc.toList.drop (l.base + off * l.sz + (List.replicate n z0.cells.toList).flatten.length)).toArray) ⟨hsz, ?_, ?_, fun _ => ⟨hB, _, tt, setRow_heap w _ _ _ _ _ hheap, ?_⟩⟩, (Kept.setRow _ _ _).mono fun b hb => ⟨_, l, hl, .inl ⟨hO, hb.symm⟩⟩, ?_⟩
    · obtain ⟨m, rfl⟩ : ∃ m, n = m + 1 := ⟨n - 1, by omega⟩
      rw [← zeroCells_list]
      simp [Builtin.clear_, run_underlying hK.und, hzr, hst]
    · simp; omega
    · have := elems_write hel hsz hxl hheap hbc hC (off := off) (by simp; omega)
      simpa using this
    · simp only [List.size_toArray, List.length_append, List.length_take, List.length_drop, Array.length_toList]; omega
    · intro b hb
      exact .inl (Blks.as hl (fun _ => hO) hb)
theorem evX_sound {o : Oper} {fx : Bool} {v : AV} {cs : List Prop} (h : evX E o.op fx tm H = some (v, H', cs)) (hc : AllP cs) (ht : RelT ρ tm a) (hg : RelG E.gc B w) (hH : RelH B ρ H w) :
    ∃ nx w' ρ', (execOp a.eval o).run E.P w = .ok nx w' ∧ LoudN B ρ H w v H' ρ' w' nx := by
  have D := den_opv (E := E) ht hg
  have lift : ∀ (s : Sem Value), (∃ u w' ρ', s.run E.P w = .ok u w' ∧ Loud B ρ H w v H' ρ' w' u) → ∃ nx w' ρ', (do pure (Next.value (← s)) : Sem Next).run E.P w = .ok nx w' ∧ LoudN B ρ H w v H' ρ' w' nx := by
    rintro s ⟨u, w', ρ', h1, h2⟩
    exact ⟨.value u, w', ρ', by simp [h1], h2.next⟩
  obtain ⟨dst, op, ty', pos, after, guard⟩ := o
  cases op <;> simp only [evX] at h <;> try (cases h; done)
  case store t p x =>
    obtain ⟨w', h1, h2⟩ := storeX_sound h hc (D p) (D x) hH
    exact ⟨.skip, w', ρ, by simp [execOp, h1], h2.den, h2.mono, h2.rel, h2.kept, h2.own⟩
  case range t x => exact lift _ (range_sound h (D x) hH)
  case next it b =>
    cases b <;> simp only at h <;> try (cases h; done)
    obtain ⟨v', w', h1, h2⟩ := next_sound (ty := ty') h hc (D it) hH
    exact lift _ ⟨v', w', ρ, h1, h2⟩
  case entry it =>
    obtain ⟨v', h1, h2⟩ := entry_sound h hc (D it) hH
    exact lift _ ⟨v', w, ρ, h1, h2⟩
  case call c =>
    obtain ⟨callee, args, ts⟩ := c
    cases callee <;> (try simp only at h) <;> try (cases h; done)
    rename_i b
    have hargs := lmap_den (E := E) ht hg args.toList
    have hexec : ∀ (vs : List Value), args.toList.map a.eval = vs → (execOp a.eval ⟨dst, .call ⟨.builtin b, args, ts⟩, ty', pos, after, guard⟩).run E.P w = (builtin b ts ty' (args.map fun | .const _ => true | _ => false) vs.toArray).run E.P w := by
      rintro vs rfl
      have e : (args.toList.map a.eval).toArray = args.map a.eval := Array.ext' (by rw [Array.toList_map])
      rw [e]
      simp only [execOp, resolve, Sem.run_bind, Sem.run_pure, Result.andThen_ok, invoke]
      rfl
    cases b <;> (try simp only at h) <;> try (cases h; done)
    case append =>
      split at h <;> try (cases h; done)
      rename_i s x t t' hl hts
      split at h <;> try (cases h; done)
      rename_i htt
      obtain rfl := Nat.eq_of_beq_eq_true htt
      rw [hl] at hargs
      obtain ⟨u, _, he, hu, z, _, rfl, hz, hn⟩ := hargs
      simp only [DenL] at hn; subst hn
      have hts' : ts = #[t, t] := by rw [← Array.toArray_toList (xs := ts), hts]
      subst hts'
      obtain ⟨v', w', ρ', h1, h2⟩ := appendX_sound (ty' := ty') h hc hu hz hH
      refine ⟨.value v', w', ρ', ?_, h2.next⟩
      rw [hexec _ he]
      simp [builtin, h1]
    case clear =>
      split at h <;> try (cases h; done)
      rename_i x t hl hts
      rw [hl] at hargs
      obtain ⟨u, _, he, hu, hn⟩ := hargs
      simp only [DenL] at hn; subst hn
      have hts' : ts = #[t] := by rw [← Array.toArray_toList (xs := ts), hts]
      subst hts'
      obtain ⟨v', w', h1, h2⟩ := clear_sound (ty' := ty') h hc hu hH
      refine ⟨.value v', w', ρ, ?_, h2.next⟩
      rw [hexec _ he]
      simp [builtin, h1]
theorem evL_sound {o : Oper} {fx fy : Bool} {v : AV} {cs : List Prop} (h : evL E o.op fx fy tm H = some (v, H', cs)) (hc : AllP cs) (ht : RelT ρ tm a) (hg : RelG E.gc B w) (hH : RelH B ρ H w) :
    ∃ nx w' ρ', (execOp a.eval o).run E.P w = .ok nx w' ∧ LoudN B ρ H w v H' ρ' w' nx := by
  unfold evL at h
  split at h
  · rename_i h0; cases h; exact evL0_sound h0 hc ht hg hH
  · exact evX_sound h hc ht hg hH
end
end Go.Proofs.YtnheodgffackoaaDoor.E

/- The engine, sixth part: slices that are made, appended to, copied. -/
import Derived.Test.YtnheodgffackoaaDoorEe
namespace Go.Proofs.YtnheodgffackoaaDoor.E
set_option linter.unusedSimpArgs false
set_option linter.unusedVariables false
open Go

inductive CellsOf (ρ : Rho) (k : K) : List (ty k) → List Value → Prop where
  | nil : CellsOf ρ k [] []
  | cons {x xs es vs} : DenL ρ (enc k x) es → (∀ v ∈ es, v.oneCell' = true) → CellsOf ρ k xs vs → CellsOf ρ k (x :: xs) (es ++ vs)
section
variable {E : Env} {ρ ρ' : Rho} {tm : Tm} {a : Act} {H H' : Hp} {w w' w2 : World} {B : Nat} {k : K} {xs ys : List (ty k)} {vs us : List Value}
theorem CellsOf.len (h : CellsOf ρ k xs vs) : vs.length = xs.length * k.size := by
  induction h with
  | nil => simp
  | cons h1 _ _ ih => rw [List.length_append, ih, enc_len k _ h1, List.length_cons, Nat.add_mul]; omega
theorem CellsOf.one (h : CellsOf ρ k xs vs) : ∀ v ∈ vs, v.oneCell' = true := by
  induction h with
  | nil => simp
  | cons _ h2 _ ih => intro v hv; exact (List.mem_append.1 hv).elim (h2 v) (ih v)
theorem CellsOf.append (h : CellsOf ρ k xs vs) (h' : CellsOf ρ k ys us) : CellsOf ρ k (xs ++ ys) (vs ++ us) := by
  induction h with
  | nil => exact h'
  | cons h1 h2 _ ih => rw [List.append_assoc]; exact .cons h1 h2 ih
theorem CellsOf.mono (hm : ∀ i l, ρ i = some l → ρ' i = some l) (h : CellsOf ρ k xs vs) : CellsOf ρ' k xs vs := by
  induction h with
  | nil => exact .nil
  | cons h1 h2 _ ih => exact .cons (DenL.mono hm h1) h2 ih
theorem CellsOf.back (h : CellsOf ρ k xs vs) : ∀ j x, xs[j]? = some x → ∃ es, DenL ρ (enc k x) es ∧ (∀ v ∈ es, v.oneCell' = true) ∧ ∀ i v, es[i]? = some v → vs[j * k.size + i]? = some v := by
  induction h with
  | nil => intro j x h; simp at h
  | @cons x xs es vs h1 h2 h3 ih =>
    intro j y hj
    have hl := enc_len k _ h1
    cases j with
    | zero =>
      cases hj
      refine ⟨es, h1, h2, fun i v hv => ?_⟩
      rw [Nat.zero_mul, Nat.zero_add, List.getElem?_append_left (List.getElem?_eq_some_iff.1 hv).1]
      exact hv
    | succ j =>
      obtain ⟨es', h4, h5, h6⟩ := ih j y hj
      refine ⟨es', h4, h5, fun i v hv => ?_⟩
      rw [Nat.add_mul, Nat.one_mul, List.getElem?_append_right (by omega), show j * k.size + k.size + i - es.length = j * k.size + i by omega]
      exact h6 i v hv
theorem cells_read : ∀ (xs : List (ty k)) (f : Nat → Option Value), (∀ j x, xs[j]? = some x → ∃ es, DenL ρ (enc k x) es ∧ (∀ v ∈ es, v.oneCell' = true) ∧ ∀ i v, es[i]? = some v → f (j * k.size + i) = some v) → ∃ vs, CellsOf ρ k xs vs ∧ ∀ i v, vs[i]? = some v → f i = some v
  | [], f, _ => ⟨[], .nil, by simp⟩
  | x :: xs, f, h => by
    obtain ⟨es, h1, h2, h3⟩ := h 0 x rfl
    obtain ⟨vs, h4, h5⟩ := cells_read xs (fun i => f (k.size + i)) fun j y hj => by
      obtain ⟨es', h6, h7, h8⟩ := h (j + 1) y hj
      refine ⟨es', h6, h7, fun i v hv => ?_⟩
      have := h8 i v hv
      rwa [Nat.add_mul, Nat.one_mul, Nat.add_comm (j * k.size), Nat.add_assoc] at this
    have hl := enc_len k _ h1
    refine ⟨es ++ vs, .cons h1 h2 h4, fun i v hv => ?_⟩
    rw [List.getElem?_append] at hv
    split at hv
    · simpa using h3 i v hv
    · have := h5 _ _ hv
      rwa [show k.size + (i - es.length) = i by omega] at this
theorem elems_read {l : Loc} (h : Elems ρ w l k xs) (hs : l.sz = k.size) (off n : Nat) (hn : off + n ≤ xs.length) :
    ∃ vs, CellsOf ρ k ((xs.drop off).take n) vs ∧ ∀ i v, vs[i]? = some v → w.cell? ⟨l.blk, l.base + off * l.sz + i, none⟩ = some v := by
  refine cells_read _ (fun i => w.cell? ⟨l.blk, l.base + off * l.sz + i, none⟩) fun j x hj => ?_
  have hjn : j < n := by have := (List.getElem?_eq_some_iff.1 hj).1; simp at this; omega
  rw [List.getElem?_take_of_lt hjn, List.getElem?_drop] at hj
  obtain ⟨es, h1, h2, h3⟩ := h _ x hj
  refine ⟨es, h1, h2, fun i v hv => ?_⟩
  have := h3 i v hv
  rwa [Nat.add_mul, show l.base + (off * l.sz + j * l.sz) + i = l.base + off * l.sz + (j * k.size + i) by rw [← hs]; omega] at this
theorem elems_of_cells {l : Loc} (h : CellsOf ρ k xs vs) (hs : l.sz = k.size) (hc : ∀ i v, vs[i]? = some v → w.cell? ⟨l.blk, l.base + i, none⟩ = some v) : Elems ρ w l k xs := by
  intro j x hj
  obtain ⟨es, h1, h2, h3⟩ := h.back j x hj
  refine ⟨es, h1, h2, fun i v hv => ?_⟩
  have := hc _ _ (h3 i v hv)
  rwa [hs, Nat.add_assoc]

structure KS (P : Program) (t : TypeId) (k : K) (by_ : Nat) (e : TypeId) (i : TypeInfo) (z : Value) : Prop where
  und : P.underlying t = some (.slice e)
  info : P.info? e = some i
  size : i.size = k.size
  bytes : i.bytes = by_
  zero : i.zero = some z
  zlen : z.cells.size = k.size
theorem kSlice_spec {P : Program} {t e : TypeId} {by_ : Nat} (h : kSlice P t = some (k, by_, e)) : ∃ i z, KS P t k by_ e i z := by
  unfold kSlice at h
  split at h <;> try (cases h; done)
  rename_i e0 he
  split at h <;> try (cases h; done)
  rename_i k0 hk
  split at h <;> try (cases h; done)
  rename_i n hn
  split at h <;> try (cases h; done)
  rename_i hnk
  split at h <;> try (cases h; done)
  rename_i b hb
  split at h <;> try (cases h; done)
  rename_i z hz
  split at h <;> try (cases h; done)
  rename_i zs hzs
  split at h <;> cases h
  rename_i hzl
  have hnk := Nat.eq_of_beq_eq_true hnk
  have hzl := Nat.eq_of_beq_eq_true hzl
  have hd := (cells_sound hzs trivial (den_ofVal (ρ := fun _ => none) z)).1
  have hl := denL_len hd
  unfold elemO at he
  split at he <;> cases he
  rename_i hu
  cases hi : P.info? e with
  | none => simp [sizeO, hi] at hn
  | some i =>
    simp only [sizeO, hi, Option.some.injEq] at hn
    simp only [bytesO, hi, Option.some.injEq] at hb
    simp only [zeroO, hi] at hz
    exact ⟨i, z, hu, hi, by omega, hb, hz, by rw [Array.length_toList] at hl; omega⟩

/-- What is known of a slice whose elements are read. -/
structure SliceAt (ρ : Rho) (w : World) (k : K) (u : Value) (xs : List (ty k)) (n : Nat) (ad : Option Addr) (cap : Nat) (vs : List Value) : Prop where
  val : u = .slice ad n cap
  len : xs.length = n
  cells : CellsOf ρ k xs vs
  at_ : ∀ b, ad = some b → ∀ i v, vs[i]? = some v → w.cell? (b.add i) = some v
  none_ : ad = none → n = 0
theorem kCast_self {a : K} (h : kEq a a = true) (xs : List (ty a)) : kCast h xs = xs := rfl
theorem castT_spec {j k : K} {xs : List (ty j)} {ys : List (ty k)} (h : castT j k xs = some ys) : ∃ hk : kEq j k = true, ys = kCast hk xs := by
  unfold castT at h
  split at h
  · split at h <;> cases h
    rename_i hk
    obtain rfl := kindEq_eq hk
    exact ⟨kindEq_rfl _, rfl⟩
  · cases h; exact ⟨rfl, rfl⟩
  · cases h; exact ⟨rfl, rfl⟩
  · split at h <;> cases h
    rename_i h1 h2
    obtain rfl := kindEq_eq h1
    obtain rfl := kindEq_eq h2
    exact ⟨by simp [kEq, kindEq_rfl], rfl⟩
  · split at h <;> cases h
    rename_i hk
    exact ⟨hk, rfl⟩
theorem content_sound {full : Bool} {v : AV} {u : Value} {cs : List Prop} {ox : Option Nat} {n : Nat} (h : content H full k v = some (xs, cs, ox, n)) (hc : AllP cs) (hd : Den ρ v u) (hH : RelH B ρ H w) :
    ∃ ad cap vs, SliceAt ρ w k u xs n ad cap vs ∧
      (((v = .nilslice ∨ v = .empty) ∧ n = 0 ∧ cap = 0 ∧ ox = none) ∨ v = .eslice ∨
       ∃ id off own xs' l, v = .slice id off n ∧ H.get id = .tab own k xs' ∧ ρ id = some l ∧ (ox = if own then some id else none) ∧ n ≤ cap ∧ off + cap ≤ l.room ∧ off + n ≤ xs'.length ∧ xs = (xs'.drop off).take n ∧ (0 < cap → ad = some ⟨l.blk, l.base + off * l.sz, none⟩)) := by
  cases v <;> simp only [content] at h <;> try (cases h; done)
  case nilslice =>
    cases h
    simp only [Den] at hd
    exact ⟨none, 0, [], ⟨hd, rfl, .nil, (fun _ h => by cases h), fun _ => rfl⟩, .inl ⟨.inl rfl, rfl, rfl, rfl⟩⟩
  case empty =>
    cases h
    obtain ⟨ad, hd⟩ := hd
    exact ⟨ad, 0, [], ⟨hd, rfl, .nil, (fun _ _ _ _ h => by simp at h), fun _ => rfl⟩, .inl ⟨.inr rfl, rfl, rfl, rfl⟩⟩
  case eslice =>
    cases h
    obtain ⟨ad, cap, hd⟩ := hd
    exact ⟨some ad, cap, [], ⟨hd, rfl, .nil, (fun _ _ _ _ h => by simp at h), fun _ => rfl⟩, .inr (.inl rfl)⟩
  case slice id off m =>
    split at h <;> try (cases h; done)
    rename_i own k' xs' ho
    split at h <;> try (cases h; done)
    rename_i zs hz
    obtain ⟨hk, rfl⟩ := castT_spec hz
    obtain rfl := kEq_eq hk
    obtain ⟨l, ad, cap, hl, rfl, hmc, hroom, hadr⟩ := hd
    obtain ⟨l', hl', hsz, hxl, hel, hown⟩ := (ho ▸ hH.obj id (by simp [ho]) : ∃ l, ρ id = some l ∧ ObjRel B ρ w l (.tab own k' xs'))
    rw [hl] at hl'; cases hl'
    have key : n = m → off + n ≤ xs'.length → xs = (xs'.drop off).take n → (ox = if own then some id else none) → ∃ ad' cap' vs, SliceAt ρ w k' (.slice ad m cap) xs n ad' cap' vs ∧
      (((AV.slice id off m = .nilslice ∨ AV.slice id off m = .empty) ∧ n = 0 ∧ cap' = 0 ∧ ox = none) ∨ AV.slice id off m = .eslice ∨
       ∃ id' off' own xs' l, AV.slice id off m = .slice id' off' n ∧ H.get id' = .tab own k' xs' ∧ ρ id' = some l ∧ (ox = if own then some id' else none) ∧ n ≤ cap' ∧ off' + cap' ≤ l.room ∧ off' + n ≤ xs'.length ∧ xs = (xs'.drop off').take n ∧ (0 < cap' → ad' = some ⟨l.blk, l.base + off' * l.sz, none⟩)) := by
      rintro rfl h1 h2 h3
      obtain ⟨vs, h4, h5⟩ := elems_read hel hsz off n h1
      rw [← h2] at h4
      have hxn : xs.length = n := by rw [h2]; simp; omega
      refine ⟨ad, cap, vs, ⟨rfl, hxn, h4, fun b hb i v hv => ?_, fun hn => ?_⟩, .inr (.inr ⟨id, off, own, xs', l, rfl, ho, hl, h3, hmc, hroom, h1, h2, hadr⟩)⟩
      · have hpos : 0 < cap := by
          have h6 := (List.getElem?_eq_some_iff.1 hv).1
          rw [h4.len, hxn] at h6
          have : 0 < n := Nat.pos_of_ne_zero fun h0 => by subst h0; simp at h6
          omega
        rw [hadr hpos] at hb
        cases hb
        rw [addr_add]
        exact h5 i v hv
      · have : cap = 0 := by
          rcases Nat.eq_zero_or_pos cap with h0 | h0
          · exact h0
          · rw [hadr h0] at hn; cases hn
        omega
    split at h
    · cases h
      obtain ⟨h1, h2, _⟩ := hc
      subst h1
      rw [kCast_self] at *
      exact key rfl (by omega) (by rw [h2]; simp) (by cases own <;> rfl)
    · cases h
      obtain ⟨h1, _⟩ := hc
      exact key rfl h1 rfl (by cases own <;> rfl)

/-- append, of any slice and any other one. -/
theorem append_gen {P : Program} {t e ty' : TypeId} {by_ : Nat} {i : TypeInfo} {z : Value} (hK : KS P t k by_ e i z) {ad sb : Option Addr} {n m cap mc : Nat} {olds news : List Value} (hlo : olds.length = n * k.size) (hln : news.length = m * k.size)
    (ha : ∀ b, ad = some b → ∀ j v, olds[j]? = some v → w.cell? (b.add j) = some v) (han : ad = none → n = 0 ∧ cap = 0)
    (hb : ∀ b, sb = some b → ∀ j v, news[j]? = some v → w.cell? (b.add j) = some v) (hbn : sb = none → m = 0) (h1 : ∀ u ∈ news, u.oneCell' = true)
    (hsm : n + m ≤ 70368744177664) (hby : (n + m) * by_ ≤ 70368744177664)
    (hroom : n + m ≤ cap → 0 < m → ∃ g o cur t', ad = some ⟨g, o, none⟩ ∧ w.heap[g]? = some (.cells cur t' (0, 0)) ∧ o + (n + m) * k.size ≤ cur.size) :
    (n + m ≤ cap ∧ m = 0 ∧ (Builtin.append_ #[t, t] ty' #[.slice ad n cap, .slice sb m mc]).run P w = .ok (.slice ad n cap) w) ∨
    (n + m ≤ cap ∧ 0 < m ∧ ∃ g o cur t', ad = some ⟨g, o, none⟩ ∧ w.heap[g]? = some (.cells cur t' (0, 0)) ∧ o + (n + m) * k.size ≤ cur.size ∧
      (Builtin.append_ #[t, t] ty' #[.slice ad n cap, .slice sb m mc]).run P w = .ok (.slice ad (n + m) cap) (w.setRow g (cur.toList.take (o + n * k.size) ++ news ++ cur.toList.drop (o + n * k.size + news.length)).toArray)) ∨
    (cap < n + m ∧ ∃ c, n + m ≤ c ∧ (Builtin.append_ #[t, t] ty' #[.slice ad n cap, .slice sb m mc]).run P w = .ok (.slice (some ⟨w.heap.size, 0, none⟩) (n + m) c) (w.drew.alloc (.cells (olds.toArray ++ news.toArray ++ Builtin.zeroCells z.cells (c - (n + m))) e))) := by
  obtain ⟨ht, hi, hs, hbb, hz, hzl⟩ := hK
  have hlo' : olds.length = n * i.size := by rw [hs]; exact hlo
  have hln' : news.length = m * i.size := by rw [hs]; exact hln
  by_cases hcap : n + m ≤ cap
  · rcases Nat.eq_zero_or_pos m with hm | hm
    · refine .inl ⟨hcap, hm, ?_⟩
      subst hm
      have hn0 : news = [] := List.eq_nil_of_length_eq_zero (by simpa using hln)
      have hcap' : n ≤ cap := hcap
      have hf : (Builtin.firstCells i.size 0 (.slice sb 0 mc)).run P w = .ok #[] w := by
        cases sb with
        | none => simp [Builtin.firstCells]
        | some b => simp [Builtin.firstCells, loadCells, loadCellsFrom]
      cases ad <;> simp [Builtin.append_, run_underlying ht, Go.sizeOf, typeInfo, hi, Builtin.lenOf, hcap', hf, storeCells]
    · obtain ⟨g, o, cur, t', rfl, hg, hfit⟩ := hroom hcap hm
      refine .inr (.inl ⟨hcap, hm, g, o, cur, t', rfl, hg, hfit, ?_⟩)
      obtain ⟨b, rfl⟩ : ∃ b, sb = some b := by cases sb with
        | none => have := hbn rfl; omega
        | some b => exact ⟨b, rfl⟩
      have hf := run_firstCells_some (P := P) w i.size m b m mc news hln' (hb b rfl)
      rw [hs] at hf
      rw [Nat.add_mul] at hfit
      have hst := run_storeCells_at P g (o + n * k.size) t' news 0 cur w hg (by omega) h1
      simp only [Nat.add_zero] at hst
      simp [Builtin.append_, run_underlying ht, Go.sizeOf, typeInfo, hi, Builtin.lenOf, hcap, hf, addr_add, hs, hst]
  · have hlt : cap < n + m := by omega
    refine .inr (.inr ⟨hlt, grownCap w (n + m) cap e, grownCap_ge _ _ _ _, ?_⟩)
    have hfit : Builtin.nextslicecap (n + m) cap * i.bytes ≤ 281474976710656 := growslice_fits hlt (by rw [hbb]; omega)
    have hf2 : ∀ w', w'.heap = w.heap → (Builtin.firstCells i.size m (.slice sb m mc)).run P w' = .ok news.toArray w' := by
      intro w' hw'
      cases sb with
      | none =>
        obtain rfl := hbn rfl
        have : news = [] := List.eq_nil_of_length_eq_zero (by simpa using hln)
        subst this
        simp [Builtin.firstCells]
      | some b => exact run_firstCells_some (P := P) w' i.size m b m mc news hln' fun j v hv => by have := hb b rfl j v hv; simpa [World.cell?, hw'] using this
    have hf1' : ∀ w', w'.heap = w.heap → (Builtin.firstCells i.size n (.slice ad n cap)).run P w' = .ok olds.toArray w' := by
      intro w' hw'
      cases ad with
      | none =>
        obtain ⟨rfl, _⟩ := han rfl
        have : olds = [] := List.eq_nil_of_length_eq_zero (by simpa using hlo)
        subst this
        simp [Builtin.firstCells]
      | some b => exact run_firstCells_some (P := P) w' i.size n b n cap olds hlo' fun j v hv => by have := ha b rfl j v hv; simpa [World.cell?, hw'] using this
    have hf2 := hf2 w.drew rfl
    have hf1 := hf1' w.drew rfl
    rw [hs] at hf1 hf2
    have h48' : ¬ (281474976710656 < Builtin.nextslicecap (n + m) cap * by_) := by rw [← hbb]; omega
    have h63' : ¬ (9223372036854775807 < ((n : Int) + (m : Int))) := by omega
    simp [Builtin.append_, run_underlying ht, Go.sizeOf, typeInfo, zeroValue, hi, hz, Builtin.lenOf, hcap, h63', h48', hbb, hs, Question.forced, hf1, hf2, newRow, grownCap]
    congr 2
    apply Array.ext'
    simp [List.append_assoc]

theorem append_sound {fx fy : Bool} {t ty' : TypeId} {x y v : AV} {H' : Hp} {cs : List Prop} {u z : Value} (h : evAppend E H fx fy t x y = some (v, H', cs)) (hc : AllP cs) (hx : Den ρ x u) (hy : Den ρ y z) (hH : RelH B ρ H w) :
    ∃ v' w' ρ', (Builtin.append_ #[t, t] ty' #[u, z]).run E.P w = .ok v' w' ∧ Loud B ρ H w v H' ρ' w' v' := by
  unfold evAppend at h
  split at h <;> try (cases h; done)
  rename_i k by_ e hk
  obtain ⟨i, z0, hK⟩ := kSlice_spec hk
  have hks := hK.size
  split at h <;> try (cases h; done)
  rename_i xs cs0 ox n ys ds oy m hble hcx hcy
  have hble := Nat.le_of_ble_eq_true hble
  have small : ∀ q, q ≤ 17179869184 → q ≤ 70368744177664 ∧ q * by_ ≤ 70368744177664 := fun q hq => ⟨by omega, Nat.le_trans (Nat.mul_le_mul hq hble) (by omega)⟩
  -- what is left in each case
  have fin : ∀ (xs0 : List (ty k)) (N : Nat) (ad : Option Addr) (cap : Nat) (olds : List Value) (sb : Option Addr) (mc : Nat) (news : List Value),
      SliceAt ρ w k u xs0 N ad cap olds → SliceAt ρ w k z ys m sb mc news → (ad = none → N = 0 ∧ cap = 0) → N + m ≤ 70368744177664 → (N + m) * by_ ≤ 70368744177664 →
      (cap = 0 → N = 0) → ∀ (G : Hp), G.n = H.n → (∀ j, G.get j = H.get j ∨ G.get j = .gone) →
      (0 < cap → N ≤ cap ∧ ∃ id off xs' l, ρ id = some l ∧ H.get id = .tab true k xs' ∧ off + cap ≤ l.room ∧ ad = some ⟨l.blk, l.base + off * l.sz, none⟩ ∧ G.get id = .gone) →
      ∃ v' w' ρ', (Builtin.append_ #[t, t] ty' #[u, z]).run E.P w = .ok v' w' ∧ Loud B ρ H w (.slice H.n 0 (N + m)) (G.new (.tab true k (xs0 ++ ys))) ρ' w' v' := by
    intro xs0 N ad cap olds sb mc news hX hY hadn hsm hby hcap0 G hGn hG hroom
    have hlo := hX.cells.len
    have hln := hY.cells.len
    rw [hX.len] at hlo
    rw [hY.len] at hln
    have hnew : ∀ i, H.n ≤ i → G.get i = .gone := by
      intro i hi
      rcases hG i with h1 | h1
      · rw [h1]; exact (hH.fresh i hi).2
      · exact h1
    -- the rest of the heap, whatever the new object is
    have rest : ∀ (w' : World) (l : Loc) (X : Nat → Prop), Kept X w w' → (∀ b, X b → Blks ρ H b) → (∀ i li q, ρ i = some li → Foot li (G.get i) q → ¬ X q) →
        ObjRel B (upd ρ H.n l) w' l (.tab true k (xs0 ++ ys)) → (0 < l.room → X l.blk ∨ w.heap.size ≤ l.blk) → ∀ u', Den (upd ρ H.n l) (.slice H.n 0 (N + m)) u' →
        Loud B ρ H w (.slice H.n 0 (N + m)) (G.new (.tab true k (xs0 ++ ys))) (upd ρ H.n l) w' u' := by
      intro w' l X hkp hXb hXf hobj hlb u' hden
      have hget : ∀ i, (G.new (.tab true k (xs0 ++ ys))).get i = if i = H.n then .tab true k (xs0 ++ ys) else G.get i := by intro i; rw [get_new, hGn]
      refine ⟨hden, upd_mono hH l, ?_, hkp.mono hXb, ?_⟩
      · refine hH.step (fun i => i = H.n ∨ G.get i = .gone) hkp hXb (upd_mono hH l) ?_ ?_ ?_ ?_ ?_
        · intro i hi
          have h1 : i ≠ H.n := fun h => hi (.inl h)
          have h2 : G.get i ≠ .gone := fun h => hi (.inr h)
          refine ⟨?_, by simp [upd, h1]⟩
          rw [hget, if_neg h1]
          exact (hG i).resolve_right h2
        · intro i li q hi h1 h2
          have h3 : G.get i ≠ .gone := fun h => hi (.inr h)
          refine hXf i li q h1 ?_
          rw [(hG i).resolve_right h3]; exact h2
        · intro i hi hne
          rw [hget] at hne
          by_cases h1 : i = H.n
          · subst h1
            refine ⟨l, upd_self .., ?_, fun q ho => ?_⟩
            · rw [hget, if_pos rfl]; exact hobj
            · rw [hget, if_pos rfl] at ho
              obtain ⟨ho1, rfl⟩ := ho.small rfl
              exact hlb ho1.2
          · rw [if_neg h1] at hne
            exact absurd (hi.resolve_left h1) hne
        · intro i j li lj q hi hj hij h1 h2 h3 h4
          rw [hget] at h3 h4
          by_cases hin : i = H.n
          · by_cases hjn : j = H.n
            · omega
            · rw [if_neg hjn, hj.resolve_left hjn] at h4; exact h4.ne rfl
          · rw [if_neg hin, hi.resolve_left hin] at h3; exact h3.ne rfl
        · intro i hi
          have hi : H.n + 1 ≤ i := by rw [← hGn]; exact hi
          have h1 : i ≠ H.n := by omega
          rw [hget, if_neg h1]
          exact ⟨by simp only [upd, if_neg h1]; exact (hH.fresh i (by omega)).1, hnew i (by omega)⟩
      · rintro b ⟨i, l', h1, h2⟩
        rw [hget] at h2
        by_cases hi : i = H.n
        · subst hi
          rw [upd_self] at h1; cases h1
          rw [if_pos rfl] at h2
          obtain ⟨h3, rfl⟩ := h2.small rfl
          exact (hlb h3.2).imp (hXb _) id
        · rw [if_neg hi] at h2
          simp only [upd, if_neg hi] at h1
          rcases hG i with h3 | h3
          · rw [h3] at h2; exact .inl ⟨i, l', h1, h2⟩
          · rw [h3] at h2; exact absurd rfl h2.ne
    have hsz0 := k.size
    rw [hX.val, hY.val]
    have hroomA : N + m ≤ cap → 0 < m → ∃ g o cur t', ad = some ⟨g, o, none⟩ ∧ w.heap[g]? = some (.cells cur t' (0, 0)) ∧ o + (N + m) * k.size ≤ cur.size := by
      intro h1 h2
      obtain ⟨_, id, off, xs', l, h4, h5, h6, rfl, _⟩ := hroom (by omega)
      obtain ⟨l', hl', hsz, _, _, hown⟩ := (h5 ▸ hH.obj id (by simp [h5]) : ∃ l, ρ id = some l ∧ ObjRel B ρ w l (.tab true k xs'))
      rw [h4] at hl'; cases hl'
      obtain ⟨_, bc, tt, hheap, hbc⟩ := hown (by omega)
      refine ⟨_, _, bc, tt, rfl, hheap, ?_⟩
      have : (off + (N + m)) * l.sz ≤ l.room * l.sz := Nat.mul_le_mul_right _ (by omega)
      rw [Nat.add_mul] at this
      rw [hbc, ← hsz]; omega
    rcases append_gen (ty' := ty') hK hlo hln hX.at_ hadn hY.at_ hY.none_ hY.cells.one hsm hby hroomA (mc := mc) with ⟨h1, rfl, h2⟩ | ⟨h1, h2, g, o, cur, t', rfl, hheap, hfit, h3⟩ | ⟨h1, c, h2, h3⟩
    · -- nothing is appended
      have hys : ys = [] := List.eq_nil_of_length_eq_zero hY.len
      subst hys
      rcases Nat.eq_zero_or_pos cap with hc0 | hcp
      · subst hc0
        obtain rfl := hcap0 rfl
        have hxs : xs0 = [] := List.eq_nil_of_length_eq_zero hX.len
        subst hxs
        have := rest w ⟨0, 0, k.size, 0⟩ (fun _ => False) (Kept.refl _ _) (fun _ h => h.elim) (fun _ _ _ _ _ h => h) ⟨rfl, by simp, by intro j x hj; simp at hj, fun h => absurd h (Nat.lt_irrefl 0)⟩ (fun h => absurd h (Nat.lt_irrefl 0)) (.slice ad 0 0) ⟨_, _, _, upd_self .., rfl, by simp, by simp, fun h => absurd h (Nat.lt_irrefl 0)⟩
        exact ⟨_, _, _, h2, this⟩
      · obtain ⟨hNc, id, off, xs', l, h4, h5, h6, rfl, hgone⟩ := hroom hcp
        obtain ⟨l', hl', hsz, hxl, hel, hown⟩ := (h5 ▸ hH.obj id (by simp [h5]) : ∃ l, ρ id = some l ∧ ObjRel B ρ w l (.tab true k xs'))
        rw [h4] at hl'; cases hl'
        obtain ⟨hB, bc, tt, hheap, hbc⟩ := hown (by omega)
        have hO : Owned l (H.get id) := by rw [h5]; exact ⟨rfl, by omega⟩
        have hsum : off * l.sz + (l.room - off) * l.sz = l.room * l.sz := by rw [← Nat.add_mul]; congr 1; omega
        have := rest w ⟨l.blk, l.base + off * l.sz, k.size, l.room - off⟩ (· = l.blk) (Kept.refl _ _) (fun b hb => ⟨id, l, h4, .inl ⟨hO, hb.symm⟩⟩) (fun i li q h7 h8 h9 => ?_) ⟨rfl, ?_, ?_, fun _ => ⟨hB, bc, tt, hheap, ?_⟩⟩ (fun _ => .inl rfl) (.slice (some ⟨l.blk, l.base + off * l.sz, none⟩) N cap) ⟨_, _, _, upd_self .., rfl, ?_, ?_, fun _ => ?_⟩
        · exact ⟨_, _, _, h2, this⟩
        · by_cases hi : i = id
          · subst hi; rw [hgone] at h8; exact h8.ne rfl
          · rcases hG i with h10 | h10
            · rw [h10] at h8; exact hH.sepF i id li l q hi h7 h4 h8 (.inl ⟨hO, h9.symm⟩)
            · rw [h10] at h8; exact h8.ne rfl
        · have := hX.len; simp; omega
        · rw [List.append_nil]
          refine elems_of_cells (hX.cells.mono (upd_mono hH _)) rfl fun i v hv => ?_
          have := hX.at_ _ rfl i v hv
          rwa [addr_add] at this
        · simp only; rw [hbc, ← hsz]; omega
        · omega
        · simp only; omega
        · simp
    · -- in place
      obtain ⟨hNc, id, off, xs', l, h4, h5, h6, h7, hgone⟩ := hroom (by omega)
      obtain ⟨l', hl', hsz, hxl, hel, hown⟩ := (h5 ▸ hH.obj id (by simp [h5]) : ∃ l, ρ id = some l ∧ ObjRel B ρ w l (.tab true k xs'))
      rw [h4] at hl'; cases hl'
      obtain ⟨hB, bc, tt, hheap', hbc⟩ := hown (by omega)
      have hO : Owned l (H.get id) := by rw [h5]; exact ⟨rfl, by omega⟩
      cases h7
      rw [hheap] at hheap'
      cases hheap'
      have hsum : off * l.sz + (l.room - off) * l.sz = l.room * l.sz := by rw [← Nat.add_mul]; congr 1; omega
      have hNm : (N + m) * k.size = N * k.size + m * k.size := Nat.add_mul ..
      have := rest _ ⟨l.blk, l.base + off * l.sz, k.size, l.room - off⟩ (· = l.blk) (Kept.setRow w l.blk (cur.toList.take (l.base + off * l.sz + N * k.size) ++ news ++ cur.toList.drop (l.base + off * l.sz + N * k.size + news.length)).toArray) (fun b hb => ⟨id, l, h4, .inl ⟨hO, hb.symm⟩⟩) (fun i li q h7 h8 h9 => ?_) ⟨rfl, ?_, ?_, fun _ => ⟨hB, _, t', setRow_heap w _ _ _ _ _ hheap, ?_⟩⟩ (fun _ => .inl rfl) (.slice (some ⟨l.blk, l.base + off * l.sz, none⟩) (N + m) cap) ⟨_, _, _, upd_self .., rfl, ?_, ?_, fun _ => ?_⟩
      · exact ⟨_, _, _, h3, this⟩
      · by_cases hi : i = id
        · subst hi; rw [hgone] at h8; exact h8.ne rfl
        · rcases hG i with h10 | h10
          · rw [h10] at h8; exact hH.sepF i id li l q hi h7 h4 h8 (.inl ⟨hO, h9.symm⟩)
          · rw [h10] at h8; exact h8.ne rfl
      · have := hX.len; have := hY.len; simp; omega
      · refine elems_of_cells ((hX.cells.append hY.cells).mono (upd_mono hH _)) rfl fun i v hv => ?_
        rw [cell_setRow_same w _ _ _ _ _ _ hheap]
        have hc : ∀ i v, olds[i]? = some v → cur.toList[l.base + off * l.sz + i]? = some v := by
          intro i v hv
          have := hX.at_ _ rfl i v hv
          rw [addr_add] at this
          simpa [World.cell?, hheap] using this
        rw [List.getElem?_toArray, List.append_assoc]
        rw [List.getElem?_append] at hv
        simp only [List.getElem?_append, List.length_take, List.getElem?_take, Array.length_toList]
        rw [show min (l.base + off * l.sz + N * k.size) cur.size = l.base + off * l.sz + N * k.size by omega]
        split at hv
        · rw [if_pos (by omega), if_pos (by omega)]; exact hc i v hv
        · have := (List.getElem?_eq_some_iff.1 hv).1
          rw [if_neg (by omega), if_pos (by omega), ← hv]
          congr 1
          omega
      · have hsum2 : (l.room - off) * l.sz = (l.room - off) * k.size := by rw [hsz]
        simp; omega
      · omega
      · simp only; omega
      · simp
    · -- in a new block
      have hcz : (Builtin.zeroCells z0.cells (c - (N + m))).size = (c - (N + m)) * k.size := by rw [size_zeroCells, hK.zlen]
      have hsum : (N + m) * k.size + (c - (N + m)) * k.size = c * k.size := by rw [← Nat.add_mul]; congr 1; omega
      have hNm : (N + m) * k.size = N * k.size + m * k.size := Nat.add_mul ..
      have := rest _ ⟨w.heap.size, 0, k.size, c⟩ (fun _ => False) ((Kept.refl (fun _ => False) w).drew.trans (Kept.alloc w.drew (.cells (olds.toArray ++ news.toArray ++ Builtin.zeroCells z0.cells (c - (N + m))) e) (fun _ => False)) (fun _ h => h.elim)) (fun _ h => h.elim) (fun _ _ _ _ _ h => h) ⟨rfl, ?_, ?_, fun _ => ⟨hH.bound, _, e, heap_alloc_new w.drew _, ?_⟩⟩ (fun _ => .inr (Nat.le_refl _)) (.slice (some ⟨w.heap.size, 0, none⟩) (N + m) c) ⟨_, _, _, upd_self .., rfl, h2, ?_, fun _ => ?_⟩
      · exact ⟨_, _, _, h3, this⟩
      · have := hX.len; have := hY.len; simp; omega
      · refine elems_of_cells ((hX.cells.append hY.cells).mono (upd_mono hH _)) rfl fun i v hv => ?_
        have := World.cell?_alloc_new w.drew (olds.toArray ++ news.toArray ++ Builtin.zeroCells z0.cells (c - (N + m))) e i
        rw [Nat.zero_add]
        refine this.trans ?_
        rw [Array.getElem?_append_left (by have := (List.getElem?_eq_some_iff.1 hv).1; simpa using this)]
        simpa using hv
      · simp only [Array.size_append, List.size_toArray, hcz]; omega
      · simp
      · simp
  split at h
  · -- onto a slice of the call's own
    rename_i id off n' id'
    cases h
    have ⟨hc1, hc2⟩ := allP_app2 hc
    have ⟨hc2, hc3⟩ := allP_app2 hc2
    obtain ⟨ad, cap, olds, hX, hXr⟩ := content_sound hcx hc1 hx hH
    obtain ⟨sb, mc, news, hY, _⟩ := content_sound hcy hc2 hy hH
    rcases hXr with ⟨h1 | h1, _⟩ | h1 | ⟨id1, off1, own, xs', l, h1, h2, h3, h4, h5, h6, h7, h8, h9⟩
    · cases h1
    · cases h1
    · cases h1
    · cases h1
      cases own
      · cases h4
      have hne : ∀ j, (H.set id .gone).get j = if j = id then .gone else H.get j := fun j => get_set H id j .gone
      refine fin xs n ad cap olds sb mc news hX hY (fun hn => ?_) (small _ hc3.1).1 (small _ hc3.1).2 (fun h0 => by omega) (H.set id .gone) rfl (fun j => ?_) (fun h0 => ⟨h5, id, off, xs', l, h3, h2, h6, h9 h0, by rw [hne, if_pos rfl]⟩)
      · have : cap = 0 := by
          rcases Nat.eq_zero_or_pos cap with h0 | h0
          · exact h0
          · rw [h9 h0] at hn; cases hn
        omega
      · rw [hne]; split
        · exact .inr rfl
        · exact .inl rfl
  · cases h
  · cases h
  · -- onto nothing
    rename_i hnes hnsl hnsn
    cases h
    have ⟨hc1, hc2⟩ := allP_app2 hc
    have ⟨hc2, hc3⟩ := allP_app2 hc2
    obtain ⟨ad, cap, olds, hX, hXr⟩ := content_sound hcx hc1 hx hH
    obtain ⟨sb, mc, news, hY, _⟩ := content_sound hcy hc2 hy hH
    rcases hXr with ⟨_, rfl, rfl, _⟩ | h1 | ⟨id1, off1, own, xs', l, h1, h2, h3, h4, _⟩
    · have hxs : xs = [] := List.eq_nil_of_length_eq_zero hX.len
      subst hxs
      have := fin [] 0 ad 0 olds sb mc news hX hY (fun _ => ⟨rfl, rfl⟩) (by rw [Nat.zero_add]; exact (small _ hc3.1).1) (by rw [Nat.zero_add]; exact (small _ hc3.1).2) (fun _ => rfl) H rfl (fun _ => .inl rfl) (fun h => absurd h (Nat.lt_irrefl 0))
      rwa [Nat.zero_add, List.nil_append] at this
    · exact (hnes h1).elim
    · subst h1
      cases own
      · simp only [Bool.false_eq_true, if_false] at h4; subst h4; exact (hnsn _ _ _ rfl rfl).elim
      · simp only [if_true] at h4; subst h4; exact (hnsl _ _ _ _ rfl rfl).elim

theorem elems_replicate {l : Loc} {n : Nat} {y : ty k} {es : List Value} (hd : DenL ρ (enc k y) es) (h1 : ∀ v ∈ es, v.oneCell' = true) (hs : l.sz = k.size) (hc : ∀ i, i < n * k.size → w.cell? ⟨l.blk, l.base + i, none⟩ = es[i % k.size]?) : Elems ρ w l k (List.replicate n y) := by
  intro j x hj
  rw [List.getElem?_replicate] at hj
  split at hj <;> cases hj
  rename_i hjn
  have hl := enc_len k _ hd
  refine ⟨es, hd, h1, fun i v hv => ?_⟩
  have hi := (List.getElem?_eq_some_iff.1 hv).1
  have hm : (j + 1) * k.size ≤ n * k.size := Nat.mul_le_mul_right _ hjn
  rw [Nat.add_mul, Nat.one_mul] at hm
  rw [hs, Nat.add_assoc, hc _ (by omega), ← hv]
  congr 1
  rw [Nat.mul_comm, Nat.mul_add_mod]
  exact Nat.mod_eq_of_lt (by omega)
theorem make_sound {t : TypeId} {by_ : Nat} {e : TypeId} {z : Value} {zs : List AV} {ps : List Prop} {y : ty k} {j j' : IntKind} {p q : Int} (hk : kSlice E.P t = some (k, by_, e)) (hz : zeroO E.P e = some z) (hzs : cellsO (ofVal z) = some (zs, ps)) (hy : dec k zs = some y) (hps : AllP ps)
    (hc : 0 ≤ p ∧ p ≤ q ∧ q ≤ 70368744177664 ∧ q * by_ ≤ 70368744177664) (hH : RelH B ρ H w) :
    ∃ u w' ρ', (Instr.makeSlice t (.int j p) (.int j' q)).run E.P w = .ok u w' ∧ Loud B ρ H w (.slice H.n 0 p.toNat) (H.new (.tab true k (List.replicate q.toNat y))) ρ' w' u := by
  obtain ⟨i, z0, hK⟩ := kSlice_spec hk
  obtain ⟨h0, h1, h2, h3⟩ := hc
  have hz0 : z0 = z := by
    have := hK.zero
    simp only [zeroO, hK.info] at hz
    rw [this] at hz; cases hz; rfl
  subst hz0
  have ⟨hd, hone⟩ := cells_sound hzs hps (den_ofVal (ρ := ρ) z0)
  have hdy := dec_sound hy hd
  have hby : (i.bytes : Int) * q ≤ 281474976710656 := by rw [hK.bytes, Int.mul_comm]; omega
  have hr := run_make (P := E.P) w t e i z0 hK.und hK.info hK.zero j j' p q h0 h1 hby (by omega)
  refine ⟨_, _, _, hr, Loud.new (l := ⟨w.heap.size, 0, k.size, q.toNat⟩) hH (Kept.alloc _ _ _) ⟨rfl, by simp, ?_, fun _ => ⟨hH.bound, _, e, heap_alloc_new w _, ?_⟩⟩ (fun _ => Nat.le_refl _) ⟨_, _, _, upd_self .., rfl, by omega, by simp, fun _ => by simp⟩⟩
  · refine elems_replicate (DenL.mono (upd_mono hH _) hdy) hone rfl fun i hi => ?_
    simp only [Nat.zero_add]
    rw [World.cell?_alloc_new]
    have hsz := hK.zlen
    have hpos : 0 < k.size := Nat.pos_of_ne_zero fun h => by rw [h] at hi; simp at hi
    have hlt : i % k.size < z0.cells.size := by rw [hsz]; exact Nat.mod_lt _ hpos
    rw [Array.getElem?_toList, Array.getElem?_eq_getElem hlt]
    simp [madeCells, hK.size, hi, hsz, hlt]
    exact getElem!_pos z0.cells _ hlt
  · simp [size_madeCells, hK.size]

theorem fill_order (sz : Nat) : ∀ (ps : List (Nat × Value)) (i0 : Nat) (cells : Array Value), (∀ j p, ps[j]? = some p → p.1 = i0 + j ∧ p.2.cells.size = sz) → (i0 + ps.length) * sz ≤ cells.size →
    ∃ c', Instr.fill (fun i => some (i * sz, sz)) cells ps = some c' ∧ c'.toList = cells.toList.take (i0 * sz) ++ (ps.map (·.2.cells.toList)).flatten ++ cells.toList.drop ((i0 + ps.length) * sz)
  | [], i0, cells, _, _ => ⟨cells, rfl, by simp⟩
  | (i, v) :: ps, i0, cells, h, hle => by
    obtain ⟨h1, h2⟩ := h 0 _ rfl
    simp only [Nat.add_zero] at h1 h2
    subst h1
    have e1 : (i + (ps.length + 1)) * sz = i * sz + ps.length * sz + sz := by rw [Nat.add_mul, Nat.add_mul]; omega
    have e2 : (i + 1 + ps.length) * sz = i * sz + sz + ps.length * sz := by rw [Nat.add_mul, Nat.add_mul]; omega
    have e3 : (i + 1) * sz = i * sz + sz := by rw [Nat.add_mul]; omega
    simp only [List.length_cons] at hle ⊢
    rw [e1] at hle
    have hfold : (v.cells.zipIdx.foldl (fun cs (x : Value × Nat) => cs.setIfInBounds (i * sz + x.2) x.1) cells).toList = cells.toList.take (i * sz) ++ v.cells.toList ++ cells.toList.drop (i * sz + v.cells.toList.length) := by
      rw [← foldl_set v.cells.toList (i * sz) cells (by simp; omega)]
      rw [← Array.foldl_toList, Array.toList_zipIdx]
    have hlen : (v.cells.zipIdx.foldl (fun cs (x : Value × Nat) => cs.setIfInBounds (i * sz + x.2) x.1) cells).size = cells.size := by
      rw [← Array.length_toList, hfold]; simp; omega
    obtain ⟨c', h3, h4⟩ := fill_order sz ps (i + 1) _ (fun j p hj => by have := h (j + 1) p hj; exact ⟨by omega, this.2⟩) (by rw [hlen, e2]; omega)
    refine ⟨c', ?_, ?_⟩
    · simp only [Instr.fill]
      rw [if_neg (by simp [h2]; omega)]
      exact h3
    · rw [h4, hfold, e1, e2, e3]
      simp only [List.map_cons, List.flatten_cons]
      have hl : v.cells.toList.length = sz := by simpa using h2
      have ht : (cells.toList.take (i * sz)).length = i * sz := by simp; omega
      rw [List.take_append_of_le_length (by rw [List.length_append, ht, hl]; exact Nat.le_refl _), List.take_of_length_le (by rw [List.length_append, ht, hl]; exact Nat.le_refl _)]
      rw [List.drop_append, List.drop_of_length_le (by rw [List.length_append, ht, hl]; omega), List.nil_append, List.drop_drop, List.length_append, ht, hl]
      simp only [List.append_assoc]
      congr 4
      omega
theorem partsO_sound : ∀ {ps : List (Nat × AV)} {qs : List (Nat × Value)} {i0 : Nat} {ls : List (List AV)} {cs : List Prop} {xs : List (ty k)}, partsInOrder i0 ps = some (ls, cs) → AllP cs → PartsR ρ ps qs → decAll k ls = some xs →
    len ls = qs.length ∧ xs.length = qs.length ∧ (∀ j p, qs[j]? = some p → p.1 = i0 + j ∧ p.2.cells.size = k.size) ∧ CellsOf ρ k xs (qs.map (·.2.cells.toList)).flatten
  | [], _, _, _, _, _, h, _, hq, hd => by
    cases hq; cases h; cases hd
    exact ⟨rfl, rfl, by simp, .nil⟩
  | (i, v) :: ps, _, i0, ls, cs, xs, h, hc, hq, hd => by
    obtain _ | ⟨⟨hij, hvu⟩, hrest⟩ := hq
    rename_i q qs
    obtain ⟨j, u⟩ := q
    simp only at hij hvu
    subst hij
    simp only [partsInOrder] at h
    split at h <;> try (cases h; done)
    rename_i hb
    split at h <;> try (cases h; done)
    rename_i vs p hv
    split at h <;> cases h
    rename_i r q' hr
    have ⟨hc1, hc2⟩ := allP_app2 hc
    simp only [decAll] at hd
    split at hd <;> try (cases hd; done)
    rename_i x hx
    split at hd <;> cases hd
    rename_i xs' hxs
    obtain rfl := Nat.eq_of_beq_eq_true hb
    have ⟨h1, h2⟩ := cells_sound hv hc1 hvu
    have h3 := dec_sound hx h1
    have h4 := enc_len k _ h3
    obtain ⟨h5, h6, h7, h8⟩ := partsO_sound hr hc2 hrest hxs
    refine ⟨by simp [len, h5], by simp [h6], fun j p hj => ?_, .cons h3 h2 h8⟩
    cases j with
    | zero => cases hj; exact ⟨rfl, by simpa using h4⟩
    | succ j => have := h7 j p hj; exact ⟨by omega, this.2⟩
theorem buildSlice_run {t e : TypeId} {by_ n : Nat} {i : TypeInfo} {z : Value} {qs : Array (Nat × Value)} (hK : KS E.P t k by_ e i z) (h3 : ∀ j p, qs.toList[j]? = some p → p.1 = 0 + j ∧ p.2.cells.size = k.size) (hqn : qs.toList.length = n) (hle : n * k.size ≤ 16777216) (w : World) :
    ∃ c' : Array Value, c'.toList = (qs.toList.map (·.2.cells.toList)).flatten ∧ (Instr.buildSlice t n qs).run E.P w = .ok (.slice (some ⟨w.heap.size, 0, none⟩) n n) (w.alloc (.cells c' e)) := by
  have hzs : (if n * k.size = 0 then (#[] : Array Value) else z.cells).size = if n * k.size = 0 then 0 else k.size := by split <;> simp [hK.zlen]
  obtain ⟨c', h5, h6⟩ := fill_order k.size qs.toList 0 ((Array.range (n * k.size)).map ((if n * k.size = 0 then (#[] : Array Value) else z.cells)[· % (if n * k.size = 0 then (#[] : Array Value) else z.cells).size]!)) h3 (by simp [hqn])
  have hfl : c'.toList = (qs.toList.map (·.2.cells.toList)).flatten := by
    rw [h6, List.drop_of_length_le (by simp [hqn])]
    simp
  refine ⟨c', hfl, ?_⟩
  have hng : ¬ 16777216 < n * k.size := by omega
  by_cases h0 : n * k.size = 0
  · simp only [h0, if_true] at h5
    simp [Instr.buildSlice, run_underlying hK.und, Go.sizeOf, typeInfo, hK.info, hK.size, h0, newRow]
    simp at h5
    simp [h5]
  · simp only [h0, if_false] at h5
    simp [Instr.buildSlice, run_underlying hK.und, Go.sizeOf, typeInfo, hK.info, hK.size, h0, hng, newRow, zeroValue, hK.zero]
    rw [h5]
    simp
theorem buildSlice_sound {t e : TypeId} {by_ n : Nat} {ps : List (Nat × AV)} {qs : Array (Nat × Value)} {ls : List (List AV)} {cs : List Prop} {xs : List (ty k)} (hk : kSlice E.P t = some (k, by_, e)) (hp : partsInOrder 0 ps = some (ls, cs)) (hc : AllP cs) (hq : PartsR ρ ps qs.toList)
    (hn : Nat.beq (len ls) n = true) (hd : decAll k ls = some xs) (hle : Nat.ble (Nat.mul n k.size) 16777216 = true) (hH : RelH B ρ H w) :
    ∃ u w' ρ', (Instr.buildSlice t n qs).run E.P w = .ok u w' ∧ Loud B ρ H w (.slice H.n 0 n) (H.new (.tab true k xs)) ρ' w' u := by
  obtain ⟨i, z, hK⟩ := kSlice_spec hk
  obtain ⟨h1, h2, h3, h4⟩ := partsO_sound hp hc hq hd
  have hn := Nat.eq_of_beq_eq_true hn
  have hle := Nat.le_of_ble_eq_true hle
  have hle : n * k.size ≤ 16777216 := hle
  have hqn : qs.toList.length = n := by omega
  obtain ⟨c', hfl, hr⟩ := buildSlice_run hK h3 hqn hle w
  have hl := h4.len
  have hcl : c'.size = n * k.size := by rw [← Array.length_toList, hfl, hl, h2, hqn]
  refine ⟨_, _, _, hr, Loud.new (l := ⟨w.heap.size, 0, k.size, n⟩) hH (Kept.alloc _ _ _) ⟨rfl, by simp; omega, ?_, fun _ => ⟨hH.bound, _, e, heap_alloc_new w _, by simp [hcl]⟩⟩ (fun _ => Nat.le_refl _) ⟨_, _, _, upd_self .., rfl, Nat.le_refl _, by simp, fun _ => by simp⟩⟩
  refine elems_of_cells (h4.mono (upd_mono hH _)) rfl fun i v hv => ?_
  simp only [Nat.zero_add]
  rw [World.cell?_alloc_new, ← hv, ← hfl]
  simp
theorem partsRow_sound {n : Nat} : ∀ {ps : List (Nat × AV)} {qs : List (Nat × Value)} {i0 : Nat} {ls : List (List AV)} {cs : List Prop}, partsInOrder i0 ps = some (ls, cs) → AllP cs → PartsR ρ ps qs → allLen n ls = true →
    len ls = qs.length ∧ (∀ j p, qs[j]? = some p → p.1 = i0 + j ∧ p.2.cells.size = n) ∧ DenL ρ (flat2 ls) (qs.map (·.2.cells.toList)).flatten
  | [], _, _, _, _, h, _, hq, hd => by
    cases hq; cases h
    exact ⟨rfl, by simp, rfl⟩
  | (i, v) :: ps, _, i0, ls, cs, h, hc, hq, hd => by
    obtain _ | ⟨⟨hij, hvu⟩, hrest⟩ := hq
    rename_i q qs
    obtain ⟨j, u⟩ := q
    simp only at hij hvu
    subst hij
    simp only [partsInOrder] at h
    split at h <;> try (cases h; done)
    rename_i hb
    split at h <;> try (cases h; done)
    rename_i vs p hv
    split at h <;> cases h
    rename_i r q' hr
    have ⟨hc1, hc2⟩ := allP_app2 hc
    simp only [allLen] at hd
    split at hd <;> try (cases hd; done)
    rename_i hx
    obtain rfl := Nat.eq_of_beq_eq_true hb
    have ⟨h1, h2⟩ := cells_sound hv hc1 hvu
    have h4 := denL_len h1
    rw [Nat.eq_of_beq_eq_true hx] at h4
    obtain ⟨h5, h7, h8⟩ := partsRow_sound hr hc2 hrest hd
    refine ⟨by simp [len, h5], fun j p hj => ?_, app_enc h1 h8⟩
    cases j with
    | zero => cases hj; exact ⟨rfl, by simpa using h4.symm⟩
    | succ j => have := h7 j p hj; exact ⟨by omega, this.2⟩
theorem rowSlice_sound {t e : TypeId} {by_ n : Nat} {ps : List (Nat × AV)} {qs : Array (Nat × Value)} {ls : List (List AV)} {cs : List Prop} (hk : kSlice E.P t = some (k, by_, e)) (hp : partsInOrder 0 ps = some (ls, cs)) (hc : AllP cs) (hq : PartsR ρ ps qs.toList)
    (hn : Nat.beq (len ls) n = true) (hd : allLen k.size ls = true) (hle : Nat.ble (Nat.mul n k.size) 16777216 = true) (hH : RelH B ρ H w) :
    ∃ u w' ρ', (Instr.buildSlice t n qs).run E.P w = .ok u w' ∧ Loud B ρ H w (.slice H.n 0 n) (H.new (.row k.size (flat2 ls))) ρ' w' u := by
  obtain ⟨i, z, hK⟩ := kSlice_spec hk
  obtain ⟨h1, h3, h4⟩ := partsRow_sound hp hc hq hd
  have hn := Nat.eq_of_beq_eq_true hn
  have hle := Nat.le_of_ble_eq_true hle
  have hle : n * k.size ≤ 16777216 := hle
  have hqn : qs.toList.length = n := by omega
  obtain ⟨c', hfl, hr⟩ := buildSlice_run hK h3 hqn hle w
  refine ⟨_, _, _, hr, Loud.new (l := ⟨w.heap.size, 0, k.size, n⟩) hH (Kept.alloc _ _ _) ⟨hH.bound, rfl, rfl, c', e, heap_alloc_new w _, ?_, ?_⟩ (fun _ => Nat.le_refl _) ⟨_, _, _, upd_self .., rfl, Nat.le_refl _, by simp, fun _ => by simp⟩⟩
  · rw [hfl]
    exact DenL.mono (upd_mono hH _) h4
  · have key : ∀ (l : List (Nat × Value)), (∀ p ∈ l, p.2.cells.size = k.size) → ((l.map (·.2.cells.toList)).flatten).length = l.length * k.size := by
      intro l
      induction l with
      | nil => intro _; simp
      | cons p l ih =>
        intro h
        have := h p (by simp)
        rw [List.map_cons, List.flatten_cons, List.length_append, ih fun q hq => h q (by simp [hq]), Array.length_toList, this, List.length_cons, Nat.add_mul, Nat.one_mul, Nat.add_comm]
    rw [← Array.length_toList, hfl, key _ fun p hp => ?_, hqn]
    obtain ⟨j, hj⟩ := List.getElem?_of_mem hp
    exact (h3 j p hj).2

/-! Maps. -/
theorem Kept.setMap (w : World) (g : Nat) (o : Obj) : Kept (· = g) w { w with heap := w.heap.setIfInBounds g o } :=
  ⟨rfl, rfl, rfl, by simp, fun b _ hn => by simp [Array.getElem?_setIfInBounds_ne (fun e : g = b => hn e.symm)]⟩
section
variable {kk vk : K}
theorem map_write {id : Nat} {l : Loc} {c c' : Nat} {es es' : List (Ent kk vk)} {ents ents' : Array MapEntry} {v : AV} {u : Value} (hl : ρ id = some l) (ho : H.get id = .map kk vk c es) (hH : RelH B ρ H w) (hheap : w.heap[l.blk]? = some (.map ents c)) (he : ents'.toList = es'.map entV) (hv : Den ρ v u) :
    Loud B ρ H w v (H.set id (.map kk vk c' es')) ρ { w with heap := w.heap.setIfInBounds l.blk (.map ents' c') } u := by
  have hO : Owned l (H.get id) := by rw [ho]; trivial
  obtain ⟨l', hl', hb, _⟩ := (ho ▸ hH.obj id (by simp [ho]) : ∃ l, ρ id = some l ∧ ObjRel B ρ w l (.map kk vk c es))
  rw [hl] at hl'; cases hl'
  refine ⟨hv, fun _ _ h => h, hH.write hl hO (Kept.setMap _ _ _) ⟨hb, ents', (MapKept.heap_set hheap).1, he⟩, (Kept.setMap _ _ _).mono fun b hb => ⟨id, l, hl, .inl ⟨hO, hb.symm⟩⟩, fun b hb => .inl ?_⟩
  obtain ⟨i, l', h2, h3⟩ := hb
  rw [get_set] at h3
  split at h3
  · rename_i he; subst he; rw [hl] at h2; cases h2; exact ⟨i, l, hl, .inl ⟨hO, (h3.small rfl).2⟩⟩
  · exact ⟨i, l', h2, h3⟩
theorem ents_at {ents : Array MapEntry} {es : List (Ent kk vk)} (he : ents.toList = es.map entV) {x : ty kk} {i : Nat} {e : Ent kk vk} (hf : mfind x es = some (i, e)) : ents[i]? = some (entV e) := by
  have := (mfind_get hf).1
  rw [← Array.getElem?_toList, he, List.getElem?_map, this]; rfl
theorem mapPut_sound {t : TypeId} {m x y v : AV} {cs : List Prop} {mv u z : Value} (h : evMapPut E H t m x y = some (v, H', cs)) (hm : Den ρ m mv) (hx : Den ρ x u) (hy : Den ρ y z) (hH : RelH B ρ H w) :
    ∃ w', (Instr.mapUpdate t mv u z).run E.P w = .ok () w' ∧ Loud B ρ H w v H' ρ w' Go.undef := by
  unfold evMapPut at h
  split at h <;> try (cases h; done)
  rename_i kt et id hu
  obtain ⟨l, hl, rfl⟩ := hm
  split at h <;> try (cases h; done)
  rename_i kk vk c es ho
  split at h <;> cases h
  rename_i k y0 hk hkx hky
  obtain ⟨l', hl', _, ents, hheap, hents⟩ := (ho ▸ hH.obj id (by simp [ho]) : ∃ l, ρ id = some l ∧ ObjRel B ρ w l (.map kk vk c es))
  rw [hl] at hl'; cases hl'
  have hK := keyOk_spec hk
  rw [decA_sound hkx hx, decA_sound hky hy]
  have h1 := key_check (w := w) hK false k
  have h2 := find_run (w := w) hK k es
  rw [← hents] at h2
  have hm := mput_map k y0 c es
  cases hf : mfind k es with
  | none =>
    rw [hf] at h2 hm
    refine ⟨_, ?_, map_write (ents' := ents.push ⟨valV kk k, valV vk y0, c⟩) (c' := mclock k c es) hl ho hH hheap (by rw [hm]; simp [hents]) rfl⟩
    simp [Instr.mapUpdate, run_underlying hu, MapKept.run_getObj_map hheap, h1, h2, MapKept.run_setObj_map _ hheap, mclock_find, hf]
  | some p =>
    obtain ⟨i, e⟩ := p
    rw [hf] at h2 hm
    have hi := ents_at hents hf
    have hke : k = e.1 := key_eq hK (mfind_get hf).2
    have h3 := key_stays (w := w) hK k
    refine ⟨_, ?_, map_write (ents' := ents.modify i fun e => { e with key := valV kk k, val := valV vk y0 }) (c' := mclock k c es) hl ho hH hheap (by rw [hm, Array.toList_modify, hents]) rfl⟩
    simp [Instr.mapUpdate, run_underlying hu, MapKept.run_getObj_map hheap, h1, h2, hi, entV, ← hke, h3, MapKept.run_setObj_map _ hheap, mclock_find, hf]
theorem mapLen_sound {t ty' : TypeId} {ts : Array TypeId} {m v : AV} {cs : List Prop} {mv : Value} (hts : ts[0]? = some t) (h : evMapLen E H t m = some (v, H', cs)) (hm : Den ρ m mv) (hH : RelH B ρ H w) :
    ∃ v', (Builtin.len_ ts ty' #[mv]).run E.P w = .ok v' w ∧ Loud B ρ H w v H' ρ w v' := by
  unfold evMapLen at h
  split at h <;> try (cases h; done)
  rename_i kt et id hu
  obtain ⟨l, hl, rfl⟩ := hm
  split at h <;> cases h
  rename_i kk vk c es ho
  obtain ⟨l', hl', _, ents, hheap, hents⟩ := (ho ▸ hH.obj id (by simp [ho]) : ∃ l, ρ id = some l ∧ ObjRel B ρ w l (.map kk vk c es))
  rw [hl] at hl'; cases hl'
  have hs : ents.size = es.length := by rw [← Array.length_toList, hents]; simp
  exact ⟨.int .i64 es.length, by simp [Builtin.len_, hts, run_underlying hu, goInt, MapKept.run_getObj_map hheap, hs], rfl, fun _ _ h => h, hH, Kept.refl _ _, fun b hb => .inl hb⟩
theorem ptr_sound {op : BinOp} {t : TypeId} {x y : Operand} {p q v : AV} {cs : List Prop} {u z : Value} (h : evPtrEq E H op t p q = some (v, H', cs)) (hp : Den ρ p u) (hq : Den ρ q z) (hH : RelH B ρ H w) :
    ∃ v', (do eqGuard op t x y u z; binOp op t u z).run E.P w = .ok v' w ∧ Loud B ρ H w v H' ρ w v' := by
  unfold evPtrEq at h
  split at h <;> try (cases h; done)
  rename_i i0 a0 f0 j0 b0 g0
  obtain ⟨l, hl, rfl⟩ := hp
  obtain ⟨l', hl', rfl⟩ := hq
  split at h <;> try (cases h; done)
  rename_i e hu
  split at h <;> try (cases h; done)
  rename_i n hn0 hn
  have hz : n ≠ 0 := by rintro rfl; exact hn0 rfl
  split at h <;> cases h
  all_goals
    rename_i r hr
    have hs := ptrEq_sound hr hl hl' hH E.P
    have he : ∀ d, (Op.equalIn (d + 1) t (.pointer (some ⟨l.blk, l.base + a0 * l.sz + f0, none⟩)) (.pointer (some ⟨l'.blk, l'.base + b0 * l'.sz + g0, none⟩))).run E.P w = .ok r w := fun d => by simp [Op.equalIn, run_underlying hu, sizeOf_run hn, hz, hs]
    have he := eqIn_of 0 he
    exact ⟨_, by simp [eqGuard_at_pointer, binOp, he], rfl, fun _ _ h => h, hH, Kept.refl _ _, fun b hb => .inl hb⟩
theorem mapDel_sound {t ty' : TypeId} {ts : Array TypeId} {m x v : AV} {cs : List Prop} {mv u : Value} (hts : ts[0]? = some t) (h : evMapDel E H t m x = some (v, H', cs)) (hm : Den ρ m mv) (hx : Den ρ x u) (hH : RelH B ρ H w) :
    ∃ w' v', (Builtin.delete_ ts ty' #[mv, u]).run E.P w = .ok v' w' ∧ Loud B ρ H w v H' ρ w' v' := by
  have hd : Den ρ (.tuple []) (.tuple #[]) := ⟨#[], rfl, rfl⟩
  unfold evMapDel at h
  split at h <;> try (cases h; done)
  · rename_i kt et hu
    simp only [Den] at hm; subst hm
    split at h <;> cases h
    rename_i hk
    obtain ⟨h1, _⟩ := nilKey_spec (w := w) hk hx true
    exact ⟨w, _, by simp [Builtin.delete_, hts, run_underlying hu, h1], hd, fun _ _ h => h, hH, Kept.refl _ _, fun b hb => .inl hb⟩
  · rename_i kt et id hu
    obtain ⟨l, hl, rfl⟩ := hm
    split at h <;> try (cases h; done)
    rename_i kk vk c es ho
    split at h <;> cases h
    rename_i k hk hkx
    obtain ⟨l', hl', _, ents, hheap, hents⟩ := (ho ▸ hH.obj id (by simp [ho]) : ∃ l, ρ id = some l ∧ ObjRel B ρ w l (.map kk vk c es))
    rw [hl] at hl'; cases hl'
    have hK := keyOk_spec hk
    rw [decA_sound hkx hx]
    have h1 := key_check (w := w) hK ents.isEmpty k
    have h2 := find_run (w := w) hK k es
    rw [← hents] at h2
    have hm := mdel_map k es
    cases hf : mfind k es with
    | none =>
      rw [hf] at h2 hm
      refine ⟨_, _, ?_, map_write (ents' := ents) (c' := c) hl ho hH hheap (by rw [hm, hents]) hd⟩
      simp [Builtin.delete_, hts, run_underlying hu, MapKept.run_getObj_map hheap, h1, h2, MapKept.run_setObj_map _ hheap]
    | some p =>
      obtain ⟨i, e⟩ := p
      rw [hf] at h2 hm
      refine ⟨_, _, ?_, map_write (ents' := ents.eraseIdxIfInBounds i) (c' := c) hl ho hH hheap (by rw [hm]; simp [hents]) hd⟩
      simp [Builtin.delete_, hts, run_underlying hu, MapKept.run_getObj_map hheap, h1, h2, MapKept.run_setObj_map _ hheap]
theorem mapEntry_sound {t : TypeId} {m x v : AV} {cs : List Prop} {mv u : Value} (h : evMapEntry E H t m x = some (v, H', cs)) (hm : Den ρ m mv) (hx : Den ρ x u) (hH : RelH B ρ H w) :
    ∃ w' v', (Instr.mapEntry t mv u).run E.P w = .ok v' w' ∧ Loud B ρ H w v H' ρ w' v' := by
  unfold evMapEntry at h
  split at h <;> try (cases h; done)
  rename_i kt et id hu
  obtain ⟨l, hl, rfl⟩ := hm
  split at h <;> try (cases h; done)
  rename_i kk vk c es ho
  split at h <;> cases h
  rename_i k z0 hk hkx hz
  obtain ⟨l', hl', _, ents, hheap, hents⟩ := (ho ▸ hH.obj id (by simp [ho]) : ∃ l, ρ id = some l ∧ ObjRel B ρ w l (.map kk vk c es))
  rw [hl] at hl'; cases hl'
  have hK := keyOk_spec hk
  rw [decA_sound hkx hx]
  have h1 := key_check (w := w) hK false k
  have h2 := find_run (w := w) hK k es
  rw [← hents] at h2
  have hzr := zeroK_run hz w
  have hm := mput_map k ((mget k es).getD z0) c es
  have hg := mget_find k es
  have hb := mborn_find k c es
  cases hf : mfind k es with
  | none =>
    rw [hf] at h2 hm hg hb
    rw [hg] at hm ⊢
    rw [hb]
    refine ⟨_, .tuple #[valV vk z0, goInt c], ?_, map_write (ents' := ents.push ⟨valV kk k, valV vk z0, c⟩) (c' := mclock k c es) hl ho hH hheap (by rw [hm]; simp [hents]) ⟨_, rfl, _, _, rfl, den_valA vk z0, _, _, rfl, rfl, rfl⟩⟩
    simp [Instr.mapEntry, run_underlying hu, MapKept.run_getObj_map hheap, h1, h2, hzr, MapKept.run_setObj_map _ hheap, mclock_find, hf]
  | some p =>
    obtain ⟨i, e⟩ := p
    rw [hf] at h2 hm hg hb
    rw [hg] at hm ⊢
    rw [hb]
    have hi := ents_at hents hf
    have hke : k = e.1 := key_eq hK (mfind_get hf).2
    have h3 := key_stays (w := w) hK k
    refine ⟨_, .tuple #[valV vk e.2.1, goInt e.2.2], ?_, map_write (ents' := ents.modify i fun e => { e with key := valV kk k }) (c' := mclock k c es) hl ho hH hheap ?_ ⟨_, rfl, _, _, rfl, den_valA vk e.2.1, _, _, rfl, rfl, rfl⟩⟩
    · simp [Instr.mapEntry, run_underlying hu, MapKept.run_getObj_map hheap, h1, h2, hi, entV, ← hke, h3, MapKept.run_setObj_map _ hheap, mclock_find, hf]
    · rw [hm, Array.toList_modify, hents]
      refine List.ext_getElem? fun j => ?_
      simp only [List.getElem?_modify]
      by_cases hij : i = j
      · subst hij
        rw [← hents, Array.getElem?_toList, hi]
        simp [entV]
      · simp [hij]
theorem mset_map {b : Int} {y : ty vk} : ∀ {es : List (Ent kk vk)}, (∃ e, e ∈ es ∧ (e.2.2 : Int) = b) → ∃ i, (es.map (entV (kk := kk) (vk := vk))).findIdx? (fun e => (e.born : Int) == b) = some i ∧ (mset b y es).map entV = (es.map entV).modify i fun e => { e with val := valV vk y }
  | [], h => by obtain ⟨_, h, _⟩ := h; cases h
  | e :: es, h => by
    simp only [mset]
    split
    · rename_i hb
      refine ⟨0, ?_, ?_⟩
      · simp [List.findIdx?_cons, entV, hb]
      · simp [entV]
    · rename_i hb
      have hne : (e.2.2 : Int) ≠ b := by simpa using hb
      obtain ⟨e', he', hb'⟩ := h
      have hm : e' ∈ es := by
        rcases List.mem_cons.1 he' with rfl | h
        · exact absurd hb' hne
        · exact h
      obtain ⟨i, h1, h2⟩ := mset_map (y := y) ⟨e', hm, hb'⟩
      refine ⟨i + 1, ?_, ?_⟩
      · simp [List.findIdx?_cons, entV, hb] at h1 ⊢
        exact h1
      · simp [h2]
theorem entryStore_sound {t : TypeId} {m x y v : AV} {cs : List Prop} {mv u z : Value} (h : evEntryStore H m x y = some (v, H', cs)) (hc : AllP cs) (hm : Den ρ m mv) (hx : Den ρ x u) (hy : Den ρ y z) (hH : RelH B ρ H w) :
    ∃ w', (Instr.entryStore t mv u z).run E.P w = .ok () w' ∧ Loud B ρ H w v H' ρ w' Go.undef := by
  unfold evEntryStore at h
  split at h <;> try (cases h; done)
  rename_i id j b
  obtain ⟨l, hl, rfl⟩ := hm
  simp only [Den] at hx; subst hx
  split at h <;> try (cases h; done)
  rename_i kk vk c es ho
  split at h <;> cases h
  rename_i y0 hky
  obtain ⟨l', hl', _, ents, hheap, hents⟩ := (ho ▸ hH.obj id (by simp [ho]) : ∃ l, ρ id = some l ∧ ObjRel B ρ w l (.map kk vk c es))
  rw [hl] at hl'; cases hl'
  rw [decA_sound hky hy]
  obtain ⟨i, h1, h2⟩ := mset_map (y := y0) hc.1
  have h1' : ents.findIdx? (fun e => (e.born : Int) == b) = some i := by
    rw [← h1, ← hents, ← List.findIdx?_toArray]
  refine ⟨_, ?_, map_write (ents' := ents.modify i fun e => { e with val := valV vk y0 }) (c' := c) hl ho hH hheap (by rw [h2, Array.toList_modify, hents]) rfl⟩
  simp [Instr.entryStore, MapKept.run_getObj_map hheap, asInt, asIntOf, h1', MapKept.run_setObj_map _ hheap]
theorem makeMap_sound {t : TypeId} {v : AV} {cs : List Prop} (h : evMakeMap E H t = some (v, H', cs)) (hH : RelH B ρ H w) :
    ∃ v' w' ρ', (Instr.makeMap t none).run E.P w = .ok v' w' ∧ Loud B ρ H w v H' ρ' w' v' := by
  unfold evMakeMap at h
  split at h <;> try (cases h; done)
  split at h <;> cases h
  rename_i kk vk _ _
  refine ⟨_, _, _, by simp [Instr.makeMap], Loud.new (l := ⟨w.heap.size, 0, 0, 0⟩) hH (Kept.alloc _ _ _) ⟨hH.bound, #[], heap_alloc_new w _, rfl⟩ (fun _ => Nat.le_refl _) ⟨_, upd_self .., rfl⟩⟩
end

theorem CellsOf.take (h : CellsOf ρ k xs vs) : ∀ n, CellsOf ρ k (xs.take n) (vs.take (n * k.size)) := by
  induction h with
  | nil => intro n; simp; exact .nil
  | @cons x xs es vs h1 h2 h3 ih =>
    intro n
    cases n with
    | zero => simp; exact .nil
    | succ n =>
      have hl := enc_len k _ h1
      rw [List.take_succ_cons, Nat.add_mul, Nat.one_mul, List.take_append, show n * k.size + k.size - es.length = n * k.size by omega, List.take_of_length_le (l := es) (by omega)]
      exact .cons h1 h2 (ih n)
theorem elems_write {l : Loc} {off : Nat} {bc : Array Value} {t : TypeId} (hel : Elems ρ w l k xs) (hs : l.sz = k.size) (hroom : xs.length ≤ l.room) (hheap : w.heap[l.blk]? = some (.cells bc t (0, 0))) (hbc : bc.size = l.base + l.room * l.sz)
    (hus : CellsOf ρ k ys us) (hfit : off + ys.length ≤ xs.length) :
    Elems ρ (w.setRow l.blk (bc.toList.take (l.base + off * l.sz) ++ us ++ bc.toList.drop (l.base + off * l.sz + us.length)).toArray) l k (xs.take off ++ ys ++ xs.drop (off + ys.length)) := by
  intro j x hj
  have hul := hus.len
  have hcellrow : ∀ o, (w.setRow l.blk (bc.toList.take (l.base + off * l.sz) ++ us ++ bc.toList.drop (l.base + off * l.sz + us.length)).toArray).cell? ⟨l.blk, o, none⟩ = (bc.toList.take (l.base + off * l.sz) ++ us ++ bc.toList.drop (l.base + off * l.sz + us.length))[o]? := by
    intro o; rw [cell_setRow_same w _ _ _ _ _ _ hheap]; simp
  have hold : ∀ o, w.cell? ⟨l.blk, o, none⟩ = bc.toList[o]? := by intro o; simp [World.cell?, hheap]
  have hall : (off + ys.length) * l.sz ≤ l.room * l.sz := Nat.mul_le_mul_right _ (by omega)
  rw [Nat.add_mul] at hall
  have hys : ys.length * k.size = ys.length * l.sz := by rw [hs]
  have hmin : min (l.base + off * l.sz) bc.size = l.base + off * l.sz := by omega
  have hmo : min off xs.length = off := by omega
  rw [List.append_assoc, List.getElem?_append] at hj
  simp only [List.length_take, hmo] at hj
  have far : ∀ j x, xs[j]? = some x → (j < off ∨ off + ys.length ≤ j) → ∃ vs, DenL ρ (enc k x) vs ∧ (∀ v ∈ vs, v.oneCell' = true) ∧ ∀ i v, vs[i]? = some v → (w.setRow l.blk (bc.toList.take (l.base + off * l.sz) ++ us ++ bc.toList.drop (l.base + off * l.sz + us.length)).toArray).cell? ⟨l.blk, l.base + j * l.sz + i, none⟩ = some v := by
    intro j x hj hcase
    obtain ⟨es, h1, h2, h3⟩ := hel j x hj
    refine ⟨es, h1, h2, fun i v hv => ?_⟩
    have h4 := h3 i v hv
    rw [hold] at h4
    have hes := enc_len k _ h1
    have hi : i < k.size := by have := (List.getElem?_eq_some_iff.1 hv).1; omega
    rw [hcellrow, ← h4, List.append_assoc]
    simp only [List.getElem?_append, List.length_take, List.getElem?_take, List.getElem?_drop, Array.length_toList]
    rw [hmin]
    rcases hcase with hlt | hge
    · have : (j + 1) * l.sz ≤ off * l.sz := Nat.mul_le_mul_right _ (by omega)
      rw [Nat.add_mul, Nat.one_mul] at this
      rw [if_pos (by omega), if_pos (by omega)]
    · have : (off + ys.length) * l.sz ≤ j * l.sz := Nat.mul_le_mul_right _ (by omega)
      rw [Nat.add_mul] at this
      rw [if_neg (by omega), if_neg (by omega)]
      congr 1
      omega
  split at hj
  · rename_i hlt
    rw [List.getElem?_take_of_lt hlt] at hj
    exact far j x hj (.inl hlt)
  · rename_i hge
    rw [List.getElem?_append] at hj
    split at hj
    · rename_i hlt
      obtain ⟨es, h1, h2, h3⟩ := hus.back _ x hj
      refine ⟨es, h1, h2, fun i v hv => ?_⟩
      have h4 := h3 i v hv
      have hes := enc_len k _ h1
      have hi : i < k.size := by have := (List.getElem?_eq_some_iff.1 hv).1; omega
      have hlt' := (List.getElem?_eq_some_iff.1 h4).1
      have e : j * l.sz = off * l.sz + (j - off) * k.size := by rw [← hs, ← Nat.add_mul]; congr 1; omega
      rw [hcellrow, ← h4, List.append_assoc]
      simp only [List.getElem?_append, List.length_take, List.getElem?_take, List.getElem?_drop, Array.length_toList]
      rw [hmin, if_neg (by omega), if_pos (by omega)]
      congr 1
      omega
    · rename_i hge2
      rw [List.getElem?_drop] at hj
      have := far _ x hj (.inr (by omega))
      rwa [show off + ys.length + (j - off - ys.length) = j by omega] at this
theorem copy_sound {t t' e ty' : TypeId} {by_ off id id' n m n' : Nat} {full : Bool} {y : AV} {u z : Value} {cs ds : List Prop} {xs0 ys' : List (ty k)} {k' : K} {xs1 : List (ty k')} {oy : Option Nat} (hk : kSlice E.P t = some (k, by_, e)) (hcx : content H false k (.slice id' off n') = some (xs0, cs, some id, n)) (hcy : content H full k y = some (ys', ds, oy, m))
    (ho : H.get id = .tab true k' xs1) (hkk : kEq k k' = true) (hc : AllP cs) (hc' : AllP ds) (hx : Den ρ (.slice id' off n') u) (hy : Den ρ y z) (hH : RelH B ρ H w) :
    ∃ w', (Builtin.copy_ #[t, t'] ty' #[u, z]).run E.P w = .ok (.int .i64 (min m n : Nat)) w' ∧ Loud B ρ H w (.int .i64 (min m n : Nat)) (H.set id (.tab true k' (xs1.take off ++ (kCast hkk ys').take (min m n) ++ xs1.drop (off + min m n)))) ρ w' (.int .i64 (min m n : Nat)) := by
  obtain rfl := kEq_eq hkk
  rw [kCast_self]
  obtain ⟨i, z0, hK⟩ := kSlice_spec hk
  obtain ⟨ad, cap, olds, hX, hXr⟩ := content_sound hcx hc hx hH
  obtain ⟨sb, mc, news, hY, _⟩ := content_sound hcy hc' hy hH
  rcases hXr with ⟨h1 | h1, _⟩ | h1 | ⟨id1, off1, own, xs', l, h1, h2, h3, h4, h5, h6, h7, h8, h9⟩
  · cases h1
  · cases h1
  · cases h1
  cases h1
  cases own
  · cases h4
  cases h4
  rw [ho] at h2; cases h2
  obtain ⟨l', hl', hsz, hxl, hel, hown⟩ := (ho ▸ hH.obj id (by simp [ho]) : ∃ l, ρ id = some l ∧ ObjRel B ρ w l (.tab true k xs1))
  rw [h3] at hl'; cases hl'
  have hcut := hY.cells.take (min m n)
  have hcl := hcut.len
  have hYl := hY.len
  have hlt : (ys'.take (min m n)).length = min m n := by simp; omega
  rw [hlt] at hcl
  have hf : (Builtin.firstCells i.size (min m n) z).run E.P w = .ok (news.take (min m n * k.size)).toArray w := by
    rw [hY.val]
    cases hsb : sb with
    | none =>
      have h0 := hY.none_ hsb
      have : min m n = 0 := by omega
      rw [this]; simp [Builtin.firstCells]
    | some b =>
      refine run_firstCells_some (P := E.P) w i.size (min m n) b m mc _ (by rw [hcl, hK.size]) fun j v hv => ?_
      have hj : j < min m n * k.size := by have := (List.getElem?_eq_some_iff.1 hv).1; omega
      rw [List.getElem?_take_of_lt hj] at hv
      exact hY.at_ b hsb j v hv
  have hlen : (Builtin.lenOf z).run E.P w = .ok m w := by rw [hY.val]; simp [Builtin.lenOf]
  by_cases h0 : cap = 0
  · have hn0 : n = 0 := by omega
    subst hn0
    have hmin : min m 0 = 0 := by omega
    rw [hmin] at hf ⊢
    refine ⟨w, ?_, rfl, fun _ _ h => h, ?_, Kept.refl _ _, ?_⟩
    · rw [hX.val]
      cases ad <;> simp [Builtin.copy_, run_underlying hK.und, hlen, Go.sizeOf, typeInfo, hK.info, hf, goInt, storeCells, Nat.min_def]
    · have e : (H.set id (.tab true k (xs1.take off ++ ys'.take 0 ++ xs1.drop (off + 0)))) = H.set id (.tab true k xs1) := by simp
      rw [e]
      have hg : ∀ j, (H.set id (.tab true k xs1)).get j = H.get j := by intro j; rw [get_set]; split <;> simp_all
      refine ⟨fun j hj => ?_, fun i j li lj q hij q1 q2 q3 q4 => ?_, fun j hj => ?_, hH.bound⟩
      · rw [hg] at hj ⊢; exact hH.obj j hj
      · rw [hg] at q3 q4; exact hH.sepF i j li lj q hij q1 q2 q3 q4
      · rw [hg]; exact hH.fresh j hj
    · rintro b ⟨j, lj, q1, q2⟩
      rw [get_set] at q2
      refine .inl ⟨j, lj, q1, ?_⟩
      split at q2
      · rename_i hj; subst hj; rw [ho]; exact q2
      · exact q2
  · obtain ⟨hB, bc, tt, hheap, hbc⟩ := hown (by omega)
    have hO : Owned l (H.get id) := by rw [ho]; exact ⟨rfl, by omega⟩
    have had := h9 (by omega)
    have hall : (off + min m n) * l.sz ≤ l.room * l.sz := Nat.mul_le_mul_right _ (by omega)
    rw [Nat.add_mul] at hall
    have hms : min m n * k.size = min m n * l.sz := by rw [hsz]
    have hst := run_storeCells_at E.P l.blk (l.base + off * l.sz) tt (news.take (min m n * k.size)) 0 bc w hheap (by rw [hcl]; omega) hcut.one
    simp only [Nat.add_zero] at hst
    refine ⟨_, ?_, rfl, fun _ _ h => h, hH.write h3 hO (Kept.setRow w l.blk (bc.toList.take (l.base + off * l.sz) ++ news.take (min m n * k.size) ++ bc.toList.drop (l.base + off * l.sz + (news.take (min m n * k.size)).length)).toArray) ⟨hsz, ?_, ?_, fun _ => ⟨hB, _, tt, setRow_heap w _ _ _ _ _ hheap, ?_⟩⟩, (Kept.setRow _ _ _).mono fun b hb => ⟨_, l, h3, .inl ⟨hO, hb.symm⟩⟩, ?_⟩
    · rw [hX.val, had]
      have hmin : Nat.min m n = min m n := rfl
      simp [Builtin.copy_, run_underlying hK.und, hlen, Go.sizeOf, typeInfo, hK.info, goInt, hmin, hf, hst]
    · simp; omega
    · have := elems_write hel hsz hxl hheap hbc hcut (off := off) (by rw [hlt]; omega)
      rwa [hlt] at this
    · simp only [List.size_toArray, List.length_append, List.length_take, List.length_drop, Array.length_toList]; rw [List.length_take] at hcl; omega
    · rintro b ⟨j, lj, q1, q2⟩
      rw [get_set] at q2
      split at q2
      · rename_i hj; subst hj
        rw [h3] at q1; cases q1
        exact .inl ⟨_, l, h3, .inl ⟨hO, (q2.small rfl).2⟩⟩
      · exact .inl ⟨j, lj, q1, q2⟩

/-- A loud operation leaves what the engine says. -/
def NextDen (ρ : Rho) (v : AV) : Next → Prop
  | .value u => Den ρ v u
  | .skip => Den ρ v Go.undef
  | _ => False
structure LoudN (B : Nat) (ρ : Rho) (H : Hp) (w : World) (v : AV) (H' : Hp) (ρ' : Rho) (w' : World) (nx : Next) : Prop where
  den : NextDen ρ' v nx
  mono : ∀ i l, ρ i = some l → ρ' i = some l
  rel : RelH B ρ' H' w'
  kept : Kept (Blks ρ H) w w'
  own : ∀ b, Blks ρ' H' b → Blks ρ H b ∨ w.heap.size ≤ b
theorem Loud.next {v : AV} {u : Value} (h : Loud B ρ H w v H' ρ' w' u) : LoudN B ρ H w v H' ρ' w' (.value u) := ⟨h.den, h.mono, h.rel, h.kept, h.own⟩
theorem store0_sound {t : TypeId} {p x v : AV} {cs : List Prop} {pv u : Value} (h : evStore0 E H t p x = some (v, H', cs)) (hc : AllP cs) (hp : Den ρ p pv) (hx : Den ρ x u) :
    (Instr.storeAt t pv u).run E.P w = .ok () w ∧ v = .undef ∧ H' = H := by
  unfold evStore0 at h
  split at h <;> try (cases h; done)
  rename_i hn
  split at h <;> cases h
  rename_i hv
  obtain ⟨l, _, rfl⟩ := hp
  have hd := (cells_sound hv hc hx).1
  simp only [DenL] at hd
  have hz : u.cells.size = 0 := by rw [← Array.length_toList, hd]; rfl
  refine ⟨?_, rfl, rfl⟩
  simp [Instr.storeAt, Instr.sureAddr, storeVar, sizeOf_run hn, hz, hd, storeCells]
theorem evL0_sound {o : Oper} {fx fy : Bool} {v : AV} {cs : List Prop} (h : evL0 E o.op fx fy tm H = some (v, H', cs)) (hc : AllP cs) (ht : RelT ρ tm a) (hg : RelG E.gc B w) (hH : RelH B ρ H w) :
    ∃ nx w' ρ', (execOp a.eval o).run E.P w = .ok nx w' ∧ LoudN B ρ H w v H' ρ' w' nx := by
  have D := den_opv (E := E) ht hg
  have lift : ∀ (s : Sem Value), (∃ u w' ρ', s.run E.P w = .ok u w' ∧ Loud B ρ H w v H' ρ' w' u) → ∃ nx w' ρ', (do pure (Next.value (← s)) : Sem Next).run E.P w = .ok nx w' ∧ LoudN B ρ H w v H' ρ' w' nx := by
    rintro s ⟨u, w', ρ', h1, h2⟩
    exact ⟨.value u, w', ρ', by simp [h1], h2.next⟩
  obtain ⟨dst, op, ty', pos, after, guard⟩ := o
  cases op <;> simp only [evL0] at h <;> try (cases h; done)
  case alloc t =>
    split at h <;> try (cases h; done)
    rename_i z hz
    split at h <;> cases h
    rename_i cs' hcs
    exact lift _ (alloc_sound hz hcs hc hH)
  case box t x =>
    split at h <;> cases h
    rename_i cs' hcs
    exact lift _ (box_sound (D x) hcs hc hH)
  case store t p x =>
    split at h
    · rename_i r h0
      cases h
      have q := store0_sound (E := E) (w := w) h0 hc (D p) (D x)
      rw [q.2.1, q.2.2]
      exact ⟨.skip, w, ρ, by simp [execOp, q.1], rfl, fun _ _ h => h, hH, Kept.refl _ _, fun b hb => .inl hb⟩
    · obtain ⟨w', h1, h2⟩ := store_sound h hc (D p) (D x) hH
      exact ⟨.skip, w', ρ, by simp [execOp, h1], h2.den, h2.mono, h2.rel, h2.kept, h2.own⟩
  case buildSlice t n ps =>
    split at h <;> try (cases h; done)
    rename_i k by_ e hk
    split at h <;> try (cases h; done)
    rename_i ls ps' hps
    split at h <;> try (cases h; done)
    rename_i hn
    split at h <;> try (cases h; done)
    rename_i hle
    have hpr := forall2_parts (E := E) ht hg ps.toList
    split at h
    · rename_i xs hxs
      cases h
      exact lift _ (buildSlice_sound hk hps hc (by simpa using hpr) hn hxs hle hH)
    · split at h <;> cases h
      rename_i hal
      exact lift _ (rowSlice_sound hk hps hc (by simpa using hpr) hn hal hle hH)
  case binOp op t x y yt =>
    obtain ⟨v', h1, h2⟩ := ptr_sound h (D x) (D y) hH
    exact lift _ ⟨v', w, ρ, h1, h2⟩
  case lookup t x i ok =>
    split at h <;> cases h
    rename_i hlk
    obtain ⟨v', h1, h2⟩ := lookup_sound hlk (D x) (D i) hH
    exact lift _ ⟨v', w, ρ, h1, h2, fun _ _ h => h, hH, Kept.refl _ _, fun b hb => .inl hb⟩
  case makeMap t r =>
    cases r <;> simp only at h <;> try (cases h; done)
    exact lift _ (makeMap_sound h hH)
  case mapUpdate t m x y =>
    obtain ⟨w', h1, h2⟩ := mapPut_sound h (D m) (D x) (D y) hH
    exact ⟨.skip, w', ρ, by simp [execOp, h1], h2.den, h2.mono, h2.rel, h2.kept, h2.own⟩
  case insert t m x y =>
    obtain ⟨w', h1, h2⟩ := mapPut_sound h (D m) (D x) (D y) hH
    exact ⟨.skip, w', ρ, by simp [execOp, h1], h2.den, h2.mono, h2.rel, h2.kept, h2.own⟩
  case mapEntry t m x =>
    obtain ⟨w', v', h1, h2⟩ := mapEntry_sound h (D m) (D x) hH
    exact lift _ ⟨v', w', ρ, h1, h2⟩
  case entryStore t m x y =>
    obtain ⟨w', h1, h2⟩ := entryStore_sound (E := E) (t := t) h hc (D m) (D x) (D y) hH
    exact ⟨.skip, w', ρ, by simp [execOp, h1], h2.den, h2.mono, h2.rel, h2.kept, h2.own⟩
  case makeSlice t n m =>
    split at h <;> try (cases h; done)
    rename_i k by_ e hk
    split at h <;> try (cases h; done)
    rename_i z hz
    split at h <;> try (cases h; done)
    rename_i zs ps hzs
    split at h <;> try (cases h; done)
    rename_i y hy
    split at h <;> cases h
    rename_i j p j' q hble hp hq
    have hble := Nat.le_of_ble_eq_true hble
    obtain ⟨q1, q2, q3, hc2⟩ := hc
    have q4 : q * by_ ≤ 70368744177664 := Int.le_trans (Int.mul_le_mul q3 (Int.ofNat_le.2 hble) (by omega) (by omega)) (by omega)
    have h1 := D n
    have h2 := D m
    rw [hp] at h1
    rw [hq] at h2
    simp only [Den] at h1 h2
    simp only [execOp, h1, h2]
    exact lift _ (make_sound hk hz hzs hy hc2 ⟨q1, q2, by omega, q4⟩ hH)
  case call c =>
    obtain ⟨callee, args, ts⟩ := c
    cases callee <;> (try simp only at h) <;> try (cases h; done)
    rename_i b
    have hargs := lmap_den (E := E) ht hg args.toList
    have hexec : ∀ (vs : List Value), args.toList.map a.eval = vs → (execOp a.eval ⟨dst, .call ⟨.builtin b, args, ts⟩, ty', pos, after, guard⟩).run E.P w = (builtin b ts ty' (args.map fun | .const _ => true | _ => false) vs.toArray).run E.P w := by
      rintro vs rfl
      have e : (args.toList.map a.eval).toArray = args.map a.eval := Array.ext' (by rw [Array.toList_map])
      rw [e]
      simp only [execOp, resolve, Sem.run_bind, Sem.run_pure, Result.andThen_ok, invoke]
      rfl
    cases b <;> (try simp only at h) <;> try (cases h; done)
    case append =>
      split at h <;> try (cases h; done)
      rename_i s x t t' hl hts
      split at h <;> try (cases h; done)
      rename_i htt
      obtain rfl := Nat.eq_of_beq_eq_true htt
      rw [hl] at hargs
      obtain ⟨u, _, he, hu, z, _, rfl, hz, hn⟩ := hargs
      simp only [DenL] at hn; subst hn
      have hts' : ts = #[t, t] := by rw [← Array.toArray_toList (xs := ts), hts]
      subst hts'
      obtain ⟨v', w', ρ', h1, h2⟩ := append_sound (ty' := ty') h hc hu hz hH
      refine ⟨.value v', w', ρ', ?_, h2.next⟩
      rw [hexec _ he]
      simp [builtin, h1]
    case len =>
      split at h <;> try (cases h; done)
      rename_i m t hl hts
      rw [hl] at hargs
      obtain ⟨u, _, he, hu, hn⟩ := hargs
      simp only [DenL] at hn; subst hn
      have h0 : ts[0]? = some t := by rw [← Array.getElem?_toList, hts]; rfl
      obtain ⟨v', h1, h2⟩ := mapLen_sound (ty' := ty') h0 h hu hH
      refine ⟨.value v', w, ρ, ?_, h2.next⟩
      rw [hexec _ he]
      simp [builtin, h1]
    case delete =>
      split at h <;> try (cases h; done)
      rename_i m x t ts' hl hts
      rw [hl] at hargs
      obtain ⟨u, _, he, hu, z, _, rfl, hz, hn⟩ := hargs
      simp only [DenL] at hn; subst hn
      have h0 : ts[0]? = some t := by rw [← Array.getElem?_toList, hts]; rfl
      obtain ⟨w', v', h1, h2⟩ := mapDel_sound (ty' := ty') h0 h hu hz hH
      refine ⟨.value v', w', ρ, ?_, h2.next⟩
      rw [hexec _ he]
      simp [builtin, h1]
    case copy =>
      split at h <;> try (cases h; done)
      rename_i s x t t' hl hts
      split at h <;> try (cases h; done)
      rename_i k by_ e hk
      split at h <;> try (cases h; done)
      rename_i xs0 cs0 id n ys ds oy m hcx hcy
      split at h <;> try (cases h; done)
      rename_i id' off n' k' xs1 hobj
      split at h <;> cases h
      rename_i zs hz
      obtain ⟨hkk, rfl⟩ := castT_spec hz
      rw [hl] at hargs
      obtain ⟨u, _, he, hu, z, _, rfl, hz, hn⟩ := hargs
      simp only [DenL] at hn; subst hn
      have hts' : ts = #[t, t'] := by rw [← Array.toArray_toList (xs := ts), hts]
      subst hts'
      have ⟨hc1, hc2⟩ := allP_app2 hc
      obtain ⟨w', h1, h2⟩ := copy_sound (ty' := ty') (t' := t') hk hcx hcy hobj hkk hc1 hc2 hu hz hH
      refine ⟨_, w', ρ, ?_, h2.next⟩
      rw [hexec _ he]
      simp [builtin, h1]
end
end Go.Proofs.YtnheodgffackoaaDoor.E

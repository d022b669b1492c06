/- How many blocks of each superblock there are; of which there are most. -/
import Derived.Test.YthlpfafmiakfdaaDoorPstke
namespace Go.Proofs.YthlpfafmiakfdaaDoor.E
set_option linter.unusedSimpArgs false
set_option linter.unusedVariables false
open Go
set_option maxRecDepth 100000
abbrev CEnt := Int × Int × Nat
abbrev CMap := List CEnt
abbrev cK : K := .int .i64
def cget (x : Int) (es : CMap) : Option Int := mget (kk := cK) (vk := cK) x es
/-- One more of a superblock. -/
def cntS (s : Nat × CMap) (b : Blk) : Nat × CMap := (mclock (kk := cK) (vk := cK) b.1 s.1 s.2, mput (kk := cK) (vk := cK) b.1 ((cget b.1 s.2).getD 0 + 1) s.1 s.2)
def cntM (l : List Blk) : Nat × CMap := l.foldl cntS (0, [])
theorem cntM_snoc (l : List Blk) (b : Blk) : cntM (l ++ [b]) = cntS (cntM l) b := by simp [cntM]
def numB (l : List Blk) (x : Int) : Nat := (l.filter fun b => decide (b.1 = x)).length
theorem numB_snoc (l : List Blk) (b : Blk) (x : Int) : numB (l ++ [b]) x = numB l x + if b.1 = x then 1 else 0 := by
  unfold numB
  rw [List.filter_append, List.length_append]
  by_cases h : b.1 = x <;> simp [h]
theorem numB_le (l : List Blk) (x : Int) : numB l x ≤ l.length := List.length_filter_le ..
theorem numB_pos {l : List Blk} {x : Int} : 0 < numB l x ↔ ∃ b ∈ l, b.1 = x := by
  unfold numB
  rw [List.length_pos_iff_exists_mem]
  constructor
  · rintro ⟨b, hb⟩
    rw [List.mem_filter] at hb
    exact ⟨b, hb.1, by simpa using hb.2⟩
  · rintro ⟨b, hb, h⟩
    exact ⟨b, List.mem_filter.2 ⟨hb, by simpa using h⟩⟩
structure CntOk (l : List Blk) (s : Nat × CMap) : Prop where
  born : bornOk (kk := cK) (vk := cK) s.1 s.2
  keys : keysOk (k := .i64) (vk := cK) s.2
  get : ∀ x, cget x s.2 = if 0 < numB l x then some (numB l x : Int) else none
theorem snocInd {α : Type} {P : List α → Prop} (h0 : P []) (h1 : ∀ l x, P l → P (l ++ [x])) : ∀ l, P l := by
  intro l
  have key : ∀ (n : Nat) (l : List α), l.length = n → P l := by
    intro n
    induction n with
    | zero => intro l hl; rw [List.eq_nil_of_length_eq_zero hl]; exact h0
    | succ n ih =>
      intro l hl
      rcases List.eq_nil_or_concat l with rfl | ⟨l', x, rfl⟩
      · simp at hl
      · simp only [List.concat_eq_append] at hl ⊢
        exact h1 l' x (ih l' (by simpa using hl))
  exact key _ l rfl
theorem cnt_ok : ∀ l : List Blk, CntOk l (cntM l) := by
  refine snocInd ⟨bornOk_nil (kk := cK) (vk := cK) _, List.nodup_nil, fun x => rfl⟩ fun l b h => ?_
  rw [cntM_snoc]
  refine ⟨bornOk_put (kk := cK) (vk := cK) h.born, keysOk_put h.keys, fun x => ?_⟩
  have hg := h.get
  unfold cget at hg
  show mget (kk := cK) (vk := cK) x (mput (kk := cK) (vk := cK) b.1 ((cget b.1 (cntM l).2).getD 0 + 1) (cntM l).1 (cntM l).2) = _
  rw [mget_put, numB_snoc]
  by_cases hx : x = b.1
  · subst hx
    rw [if_pos rfl]
    unfold cget
    rw [hg]
    by_cases h0 : 0 < numB l b.1
    · simp [h0]
    · have h1 : numB l b.1 = 0 := by omega
      simp [h1]
  · have hx' : ¬ b.1 = x := fun h => hx h.symm
    rw [if_neg hx, hg, if_neg hx']; rfl
theorem cget_mem : ∀ {es : CMap}, keysOk (k := .i64) (vk := cK) es → ∀ e ∈ es, cget e.1 es = some e.2.1
  | [], _, e, h => by cases h
  | f :: es, hk, e, h => by
    have hk' : f.1 ∉ es.map (·.1) ∧ (es.map (·.1)).Nodup := List.nodup_cons.1 hk
    unfold cget
    rw [mget_cons]
    rcases List.mem_cons.1 h with rfl | h
    · rw [if_pos rfl]
    · rw [if_neg]
      · exact cget_mem hk'.2 e h
      · intro he
        exact hk'.1 (he ▸ List.mem_map.2 ⟨e, h, rfl⟩)
theorem cget_some : ∀ {es : CMap} {x v : Int}, cget x es = some v → ∃ e ∈ es, e.1 = x ∧ e.2.1 = v
  | [], _, _, h => by cases h
  | f :: es, x, v, h => by
    unfold cget at h
    rw [mget_cons] at h
    split at h
    · rename_i he; cases h; exact ⟨f, by simp, he.symm, rfl⟩
    · obtain ⟨e, h1, h2⟩ := cget_some (es := es) h
      exact ⟨e, by simp [h1], h2⟩
/-- Of which superblock there are most; the least such one. -/
structure isBest (l : List Blk) (x : Int) : Prop where
  some : 0 < numB l x
  most : ∀ y, 0 < numB l y → numB l y < numB l x ∨ (numB l y = numB l x ∧ x ≤ y)
theorem isBest.uniq {l : List Blk} {x y : Int} (h : isBest l x) (h' : isBest l y) : x = y := by
  have h1 := h.most y h'.some
  have h2 := h'.most x h.some
  omega
/-- So, among entries that have been seen. -/
def bestSeen (es : CMap) (seen : List Nat) (x : Int) : Prop :=
  (x = -1 ∧ ∀ e ∈ es, e.2.2 ∉ seen) ∨ ∃ e ∈ es, e.2.2 ∈ seen ∧ e.1 = x ∧ ∀ f ∈ es, f.2.2 ∈ seen → f.2.1 < e.2.1 ∨ (f.2.1 = e.2.1 ∧ e.1 ≤ f.1)
theorem bestSeen_nil (es : CMap) : bestSeen es [] (-1) := .inl ⟨rfl, fun _ _ => by simp⟩
theorem born_inj {kk vk : K} {es : List (Ent kk vk)} (h : (es.map (·.2.2)).Nodup) {e f : Ent kk vk} (he : e ∈ es) (hf : f ∈ es) (hef : e.2.2 = f.2.2) : e = f := by
  induction es with
  | nil => cases he
  | cons g es ih =>
    have h1 : g.2.2 ∉ es.map (·.2.2) ∧ (es.map (·.2.2)).Nodup := List.nodup_cons.1 h
    rcases List.mem_cons.1 he with e1 | he'
    · rcases List.mem_cons.1 hf with e2 | hf'
      · rw [e1, e2]
      · exact (h1.1 (List.mem_map.2 ⟨f, hf', by rw [← hef, e1]⟩)).elim
    · rcases List.mem_cons.1 hf with e2 | hf'
      · exact (h1.1 (List.mem_map.2 ⟨e, he', by rw [hef, e2]⟩)).elim
      · exact ih h1.2 he' hf'
/-- Does an entry take the place of the best one? -/
def takes (x n y v : Int) : Prop := x < 0 ∨ v < n ∨ (n = v ∧ y < x)
theorem bestSeen_step {es : CMap} {seen : List Nat} {x : Int} (hb : (es.map (·.2.2)).Nodup) (hk : keysOk (k := .i64) (vk := cK) es) (h0 : ∀ e ∈ es, 0 ≤ e.1) (h : bestSeen es seen x) {e : CEnt} (he : e ∈ es) (hn : e.2.2 ∉ seen) :
    bestSeen es (seen ++ [e.2.2]) (if x < 0 ∨ (cget x es).getD 0 < e.2.1 ∨ (e.2.1 = (cget x es).getD 0 ∧ e.1 < x) then e.1 else x) := by
  have hs : ∀ f ∈ es, f.2.2 ∈ seen ++ [e.2.2] → f.2.2 ∈ seen ∨ f = e := by
    intro f hf h1
    rcases List.mem_append.1 h1 with h1 | h1
    · exact .inl h1
    · exact .inr (born_inj (kk := cK) (vk := cK) hb hf he (by simpa using h1))
  rcases h with ⟨rfl, h1⟩ | ⟨g, hg, hgs, rfl, h1⟩
  · rw [if_pos (by omega)]
    refine .inr ⟨e, he, by simp, rfl, fun f hf hfs => ?_⟩
    rcases hs f hf hfs with h2 | rfl
    · exact absurd h2 (h1 f hf)
    · exact .inr ⟨rfl, Int.le_refl _⟩
  · have hgv := cget_mem hk g hg
    have hg0 := h0 g hg
    rw [hgv]
    simp only [Option.getD_some]
    split
    · rename_i hc
      refine .inr ⟨e, he, by simp, rfl, fun f hf hfs => ?_⟩
      rcases hs f hf hfs with h2 | rfl
      · have h3 := h1 f hf h2
        rcases hc with hc | hc | ⟨hc, hc2⟩
        · omega
        · exact .inl (by omega)
        · rcases h3 with h3 | ⟨h3, h4⟩
          · exact .inl (by omega)
          · exact .inr ⟨by omega, by omega⟩
      · exact .inr ⟨rfl, Int.le_refl _⟩
    · rename_i hc
      refine .inr ⟨g, hg, by simp [hgs], rfl, fun f hf hfs => ?_⟩
      rcases hs f hf hfs with h2 | rfl
      · exact h1 f hf h2
      · by_cases h3 : f.2.1 < g.2.1
        · exact .inl h3
        · exact .inr ⟨by omega, by omega⟩
theorem best_of_all {l : List Blk} {s : Nat × CMap} (h : CntOk l s) {seen : List Nat} {x : Int} (hne : l ≠ []) (hall : ∀ e ∈ s.2, e.2.2 ∈ seen) (hb : bestSeen s.2 seen x) : isBest l x := by
  have hmem : ∀ y, 0 < numB l y → ∃ e ∈ s.2, e.1 = y ∧ e.2.1 = (numB l y : Int) := fun y hy => by
    have := h.get y
    rw [if_pos hy] at this
    exact cget_some this
  have hval : ∀ e ∈ s.2, 0 < numB l e.1 ∧ e.2.1 = (numB l e.1 : Int) := fun e he => by
    have h1 := cget_mem h.keys e he
    have h2 := h.get e.1
    rw [h1] at h2
    split at h2
    · rename_i h3; exact ⟨h3, by simpa using h2⟩
    · cases h2
  rcases hb with ⟨_, h1⟩ | ⟨e, he, hs, rfl, h1⟩
  · obtain ⟨b, l', rfl⟩ := List.exists_cons_of_ne_nil hne
    obtain ⟨e, he, _⟩ := hmem b.1 (numB_pos.2 ⟨b, by simp, rfl⟩)
    exact absurd (hall e he) (h1 e he)
  · obtain ⟨h2, h3⟩ := hval e he
    refine ⟨h2, fun y hy => ?_⟩
    obtain ⟨f, hf, rfl, h4⟩ := hmem y hy
    have := h1 f hf (hall f hf)
    omega
theorem left_less {kk vk : K} {es : List (Ent kk vk)} {seen : List Nat} {e : Ent kk vk} (he : e ∈ es) (hn : e.2.2 ∉ seen) : (es.filter fun f => decide (f.2.2 ∉ seen ++ [e.2.2])).length < (es.filter fun f => decide (f.2.2 ∉ seen)).length := by
  refine filter_lt (fun f => decide (f.2.2 ∉ seen)) (fun f => decide (f.2.2 ∉ seen ++ [e.2.2])) (fun f hf => ?_) e (by simpa using hn) (by simp) es he
  simp at hf ⊢
  exact hf.1
theorem keyB_of {kk vk : K} {es : List (Ent kk vk)} (hb : (es.map (·.2.2)).Nodup) {e : Ent kk vk} (he : e ∈ es) : keyB e.2.2 es = e.1 ∧ valB e.2.2 es = e.2.1 := by
  induction es with
  | nil => cases he
  | cons g es ih =>
    have h1 : g.2.2 ∉ es.map (·.2.2) ∧ (es.map (·.2.2)).Nodup := List.nodup_cons.1 hb
    simp only [keyB, valB]
    rcases List.mem_cons.1 he with rfl | he
    · rw [if_pos rfl, if_pos rfl]; exact ⟨rfl, rfl⟩
    · have : g.2.2 ≠ e.2.2 := fun h => h1.1 (List.mem_map.2 ⟨e, he, h.symm⟩)
      rw [if_neg this, if_neg this]
      exact ih h1.2 he
theorem lastB_snoc : ∀ (l : List Nat) (b : Nat), lastB (l ++ [b]) = b
  | [], b => rfl
  | [a], b => rfl
  | a :: c :: l, b => by
    have := lastB_snoc (c :: l) b
    simp only [List.cons_append] at this ⊢
    simp only [lastB]
    exact this
end Go.Proofs.YthlpfafmiakfdaaDoor.E

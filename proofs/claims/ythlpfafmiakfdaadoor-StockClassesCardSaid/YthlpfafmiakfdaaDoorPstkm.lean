/- Maps whose keys are blocks; and the births of a map's entries. -/
import Derived.Test.YthlpfafmiakfdaaDoorPmap
import Derived.Test.YthlpfafmiakfdaaDoorPaddr
namespace Go.Proofs.YthlpfafmiakfdaaDoor.E
set_option linter.unusedSimpArgs false
set_option linter.unusedVariables false
open Go
set_option maxRecDepth 100000
abbrev BlkK : K := .pair (.int .i64) (.int .i64)
abbrev TMap := List (Ent BlkK .unit)
theorem keyEq_blk (a b : Blk) : keyEq BlkK a b = decide (a = b) := by
  obtain ⟨a1, a2⟩ := a
  obtain ⟨b1, b2⟩ := b
  simp only [BlkK, keyEq, Prod.mk.injEq]
  by_cases h : a1 = b1
  · subst h
    simp only [beq_self_eq_true, true_and]
    by_cases h2 : a2 = b2
    · subst h2; simp
    · simp [h2]
  · have : (a1 == b1) = false := by simpa using h
    simp [this, h]
section
variable {kk vk : K} (L : ∀ a b, keyEq kk a b = true ↔ a = b)
theorem mbirth_put (x : ty kk) (y : ty vk) (c : Nat) : ∀ es : List (Ent kk vk), (mput x y c es).map (·.2.2) = if mhas x es then es.map (·.2.2) else es.map (·.2.2) ++ [c]
  | [] => by simp [mput, mhas, mget]
  | e :: es => by
    have ih := mbirth_put x y c es
    cases he : keyEq kk x e.1 with
    | true => simp [mput, mhas, mget, he]
    | false =>
      have e1 : mput x y c (e :: es) = e :: mput x y c es := by simp [mput, he]
      have e2 : mhas x (e :: es) = mhas x es := by simp [mhas, mget, he]
      rw [e1, e2, List.map_cons, ih]
      split <;> simp
/-- The births rise: each is lesser than the clock, none comes twice. -/
def bornOk (c : Nat) (es : List (Ent kk vk)) : Prop := (es.map (·.2.2)).Nodup ∧ ∀ e ∈ es, e.2.2 < c
theorem bornOk_nil (c : Nat) : bornOk c ([] : List (Ent kk vk)) := ⟨List.nodup_nil, fun _ h => by cases h⟩
theorem bornOk_put {x : ty kk} {y : ty vk} {c : Nat} {es : List (Ent kk vk)} (h : bornOk c es) : bornOk (mclock x c es) (mput x y c es) := by
  obtain ⟨h1, h2⟩ := h
  have hb := mbirth_put x y c es
  have hm : ∀ b, b ∈ (mput x y c es).map (·.2.2) → b < mclock x c es := by
    intro b hb'
    rw [hb] at hb'
    cases hg : mget x es with
    | none =>
      have e1 : mclock x c es = c + 1 := by simp [mclock, hg]
      have e2 : mhas x es = false := by simp [mhas, hg]
      rw [e2] at hb'
      rw [e1]
      simp only [Bool.false_eq_true, if_false, List.mem_append, List.mem_singleton] at hb'
      rcases hb' with hb' | rfl
      · obtain ⟨e, he, rfl⟩ := List.mem_map.1 hb'
        have := h2 e he
        show e.2.2 < c + 1; omega
      · show b < b + 1; omega
    | some z =>
      have e1 : mclock x c es = c := by simp [mclock, hg]
      have e2 : mhas x es = true := by simp [mhas, hg]
      rw [e2] at hb'
      rw [e1]
      simp only [if_true] at hb'
      obtain ⟨e, he, rfl⟩ := List.mem_map.1 hb'
      exact h2 e he
  refine ⟨?_, fun e he => hm _ (List.mem_map.2 ⟨e, he, rfl⟩)⟩
  rw [hb]
  split
  · exact h1
  · refine List.nodup_append.2 ⟨h1, by simp, ?_⟩
    intro a ha b hb
    obtain ⟨e, he, rfl⟩ := List.mem_map.1 ha
    simp only [List.mem_singleton] at hb
    subst hb
    have := h2 e he
    omega
include L in
theorem mgetG_put (x z : ty kk) (y : ty vk) (c : Nat) [DecidableEq (ty kk)] : ∀ es : List (Ent kk vk), mget z (mput x y c es) = if z = x then some y else mget z es
  | [] => by
    simp only [mput, mget]
    by_cases h : z = x
    · rw [(L z x).2 h, if_pos h]
    · have : keyEq kk z x = false := by rw [Bool.eq_false_iff]; exact fun hh => h ((L z x).1 hh)
      rw [this, if_neg h]
  | e :: es => by
    have ih := mgetG_put x z y c es
    simp only [mput]
    cases he : keyEq kk x e.1 with
    | true =>
      have := (L _ _).1 he
      subst this
      simp only [mget]
      by_cases h : z = e.1
      · rw [(L _ _).2 h, if_pos h]
      · have : keyEq kk z e.1 = false := by rw [Bool.eq_false_iff]; exact fun hh => h ((L _ _).1 hh)
        simp only [this]; rw [if_neg h]
    | false =>
      simp only [mget]
      rw [ih]
      cases hz : keyEq kk z e.1 with
      | true =>
        have := (L _ _).1 hz
        subst this
        have hne : e.1 ≠ x := by
          intro hh
          rw [(L _ _).2 hh.symm] at he; cases he
        simp [hne]
      | false => rfl
/-- No key comes twice. -/
def keysG (es : List (Ent kk vk)) : Prop := (es.map (·.1)).Nodup
include L in
theorem mgetG_none {x : ty kk} : ∀ {es : List (Ent kk vk)}, mget x es = none ↔ x ∉ es.map (·.1)
  | [] => by simp [mget]
  | e :: es => by
    have ih := mgetG_none (x := x) (es := es)
    simp only [mget, List.map_cons, List.mem_cons, not_or]
    cases h : keyEq kk x e.1 with
    | true => simp [(L _ _).1 h]
    | false =>
      have : x ≠ e.1 := fun hh => by rw [(L _ _).2 hh] at h; cases h
      simp [ih, this]
include L in
theorem keysG_put {x : ty kk} {y : ty vk} {c : Nat} {es : List (Ent kk vk)} (h : keysG es) : keysG (mput x y c es) := by
  have key : ∀ es : List (Ent kk vk), (mput x y c es).map (·.1) = if mhas x es then es.map (·.1) else es.map (·.1) ++ [x] := by
    intro es
    induction es with
    | nil => simp [mput, mhas, mget]
    | cons e es ih =>
      cases he : keyEq kk x e.1 with
      | true =>
        have := (L _ _).1 he
        have r := (L e.1 e.1).2 rfl
        rw [this]
        simp [mput, mhas, mget, r]
      | false =>
        have e1 : mput x y c (e :: es) = e :: mput x y c es := by simp [mput, he]
        have e2 : mhas x (e :: es) = mhas x es := by simp [mhas, mget, he]
        rw [e1, e2, List.map_cons, ih]
        split <;> simp
  unfold keysG
  rw [key]
  split
  · exact h
  · rename_i hn
    refine List.nodup_append.2 ⟨h, by simp, ?_⟩
    intro a ha b hb
    simp only [List.mem_singleton] at hb
    subst hb
    rintro rfl
    refine hn ?_
    simp only [mhas]
    cases hg : mget a es with
    | none => exact absurd ha ((mgetG_none L).1 hg)
    | some _ => rfl
include L in
theorem mgetG_del [DecidableEq (ty kk)] {x : ty kk} (z : ty kk) : ∀ {es : List (Ent kk vk)}, keysG es → mget z (mdel x es) = if z = x then none else mget z es
  | [], _ => by simp [mdel, mget]
  | e :: es, h => by
    have h1 : e.1 ∉ es.map (·.1) ∧ (es.map (·.1)).Nodup := List.nodup_cons.1 h
    have ih := mgetG_del (x := x) z (es := es) h1.2
    simp only [mdel]
    cases he : keyEq kk x e.1 with
    | true =>
      have := (L _ _).1 he
      subst this
      simp only [mget]
      by_cases h2 : z = e.1
      · rw [if_pos h2, h2]; exact (mgetG_none L).2 h1.1
      · have : keyEq kk z e.1 = false := by rw [Bool.eq_false_iff]; exact fun hh => h2 ((L _ _).1 hh)
        simp only [this]; rw [if_neg h2]
    | false =>
      simp only [mget]
      rw [ih]
      cases hz : keyEq kk z e.1 with
      | true =>
        have := (L _ _).1 hz
        subst this
        have hne : e.1 ≠ x := by
          intro hh
          rw [(L _ _).2 hh.symm] at he; cases he
        simp [hne]
      | false => rfl
theorem keysG_del {x : ty kk} {es : List (Ent kk vk)} (h : keysG es) : keysG (mdel x es) := by
  refine h.sublist ?_
  clear h
  induction es with
  | nil => exact List.Sublist.refl _
  | cons e es ih =>
    simp only [mdel]
    cases keyEq kk x e.1 with
    | true => exact List.sublist_cons_self ..
    | false => exact ih.cons_cons _
end
theorem L_blk (a b : ty BlkK) : keyEq BlkK a b = true ↔ a = b := by rw [keyEq_blk]; exact decide_eq_true_iff
instance : DecidableEq (ty BlkK) := inferInstanceAs (DecidableEq (Int × Int))
/-- The map says which blocks there are. -/
structure There (es : TMap) (p : List Blk) : Prop where
  keys : keysG es
  has : ∀ b : Blk, mhas (kk := BlkK) b es = true ↔ b ∈ p
theorem There.nil : There [] [] := ⟨List.nodup_nil, fun b => by simp [mhas, mget]⟩
theorem There.push {es : TMap} {p : List Blk} (h : There es p) (b : Blk) (c : Nat) : There (mput (kk := BlkK) (vk := .unit) b () c es) (p ++ [b]) := by
  refine ⟨keysG_put L_blk h.keys, fun x => ?_⟩
  have := h.has x
  simp only [mhas] at this ⊢
  rw [mgetG_put L_blk]
  by_cases hx : x = b
  · subst hx; simp
  · rw [if_neg hx, this]; simp [hx]
theorem There.filter {es : TMap} {p : List Blk} (h : There es p) (b : Blk) : There (mdel (kk := BlkK) b es) (p.filter fun x => decide (x ≠ b)) := by
  refine ⟨keysG_del h.keys, fun x => ?_⟩
  have := h.has x
  simp only [mhas] at this ⊢
  rw [mgetG_del L_blk x h.keys]
  by_cases hx : x = b
  · subst hx; simp
  · rw [if_neg hx, this]; simp [hx]
theorem There.same {es : TMap} {p q : List Blk} (h : There es p) (he : ∀ b, b ∈ p ↔ b ∈ q) : There es q := ⟨h.keys, fun b => (h.has b).trans (he b)⟩
end Go.Proofs.YthlpfafmiakfdaaDoor.E

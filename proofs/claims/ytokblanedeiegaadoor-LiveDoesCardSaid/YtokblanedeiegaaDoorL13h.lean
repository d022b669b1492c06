/- LiveDoes: what the map knows, and what the table holds. -/
import Derived.Test.YtokblanedeiegaaDoorL13g
import Derived.Test.YtokblanedeiegaaDoorPmap
namespace Go.Proofs.YtokblanedeiegaaDoor.E
open Go
set_option maxRecDepth 100000

abbrev ThMap := List (Ent (.int .i64) IvK)
def keyN (g : Nat) : Int := 65536 + 16 * (g : Int)
abbrev mgT (z : Int) (es : ThMap) : Option ThT := mget (kk := .int .i64) (vk := IvK) z es
def doW (G : Nat) (f : Nat → Nat) : List Int := tabW (G + 3) fun i => ((if i < 3 then 0 else f (i - 3) : Nat) : Int)
structure DoI (c : Cnf) (G : Nat) (f : Nat → Nat) (m : MemS) (es : ThMap) : Prop where
  hm : m.words = doW G f
  h1 : F64 f
  hF : m.faults = 0
  hk : keysOk es
  hy : ∀ g, g < G → mgT (keyN g) es = if thIs (f g) = true then some (thOf (f g)) else none
  hn : ∀ z, ¬ grainP c z → mgT z es = none
theorem thOf_no {w : Nat} (h : thIs w = false) : thOf w = (0, 0) := by
  unfold thIs at h
  unfold thOf
  simp only [Bool.or_eq_false_iff, decide_eq_false_iff_not] at h
  rw [if_neg h.1, if_neg h.2]
theorem keyN_inj {a b : Nat} (h : keyN a = keyN b) : a = b := by unfold keyN at h; omega
namespace DoI
variable {c : Cnf} {G : Nat} {f : Nat → Nat} {m : MemS} {es : ThMap}
theorem lm (h : DoI c G f m es) : m.words.length = G + 3 := by rw [h.hm, doW, tabW_len]
theorem gm (h : DoI c G f m es) {g : Nat} (hg : g < G) : m.get ((3 + g : Nat) : Int) = (f g : Int) := by
  rw [MemS.get_in ⟨by omega, by rw [h.lm]; omega⟩, h.hm, Int.toNat_natCast, doW, tabW_get (by omega), if_neg (by omega), Nat.add_sub_cancel_left]
theorem acc (h : DoI c G f m es) {k : Int} {g : Nat} (hg : g < G) : DoI c G f (m.acc k ((3 + g : Nat) : Int)) es := ⟨h.hm, h.h1, by rw [MemS.acc_faults ⟨by omega, by rw [h.lm]; omega⟩, h.hF], h.hk, h.hy, h.hn⟩
theorem words (h : DoI c G f m es) {k : Int} {g x : Nat} (hg : g < G) : ((m.acc k ((3 + g : Nat) : Int)).put ((3 + g : Nat) : Int) x).words = doW G (updF f g x) := by
  have i1 : m.inr ((3 + g : Nat) : Int) := ⟨by omega, by rw [h.lm]; omega⟩
  rw [MemS.put_words i1, h.hm, Int.toNat_natCast]
  refine tabW_set' fun i hi => ?_
  unfold updF
  by_cases e : i = 3 + g
  · rw [if_pos e, if_neg (by omega), if_pos (by omega)]
  · rw [if_neg e]
    by_cases e2 : i < 3
    · rw [if_pos e2, if_pos e2]
    · rw [if_neg e2, if_neg e2, if_neg (by omega)]
theorem mark (h : DoI c G f m es) (hc : c.Ok) (hG : (G : Int) = 64 * c.s) {k : Int} {g : Nat} {x : ThT} (hg : g < G) (hx : thOk c x) (cl : Nat) : DoI c G (updF f g (codeN x)) ((m.acc k ((3 + g : Nat) : Int)).put ((3 + g : Nat) : Int) (codeN x)) (mput (kk := .int .i64) (vk := IvK) (keyN g) x cl es) := by
  have i1 : m.inr ((3 + g : Nat) : Int) := ⟨by omega, by rw [h.lm]; omega⟩
  obtain ⟨e1, e2⟩ := code_of hc hx
  refine ⟨h.words hg, h.h1.upd (code_lt x), by rw [MemS.put_faults i1, h.hF], keysOk_put h.hk, fun j hj => ?_, fun z hz => ?_⟩
  · show mget (kk := .int .i64) _ _ = _
    rw [mget_put]
    unfold updF
    by_cases e : j = g
    · subst e; rw [if_pos rfl, if_pos rfl, e1, if_pos rfl, e2]
    · rw [if_neg fun he => e (keyN_inj he), if_neg e]; exact h.hy j hj
  · show mget (kk := .int .i64) _ _ = _
    rw [mget_put, if_neg]
    · exact h.hn z hz
    · rintro rfl; exact hz (grain_is (by omega))
theorem take (h : DoI c G f m es) (hG : (G : Int) = 64 * c.s) {k : Int} {g : Nat} (hg : g < G) : DoI c G (updF f g 0) ((m.acc k ((3 + g : Nat) : Int)).put ((3 + g : Nat) : Int) 0) (mdel (kk := .int .i64) (vk := IvK) (keyN g) es) := by
  have i1 : m.inr ((3 + g : Nat) : Int) := ⟨by omega, by rw [h.lm]; omega⟩
  refine ⟨h.words (x := 0) hg, h.h1.upd (by omega), by rw [MemS.put_faults i1, h.hF], keysOk_del h.hk, fun j hj => ?_, fun z hz => ?_⟩
  · show mget (kk := .int .i64) _ _ = _
    rw [mget_del _ h.hk]
    unfold updF
    by_cases e : j = g
    · subst e; rw [if_pos rfl, if_pos rfl, if_neg (by rw [th_zero.1]; simp)]
    · rw [if_neg fun he => e (keyN_inj he), if_neg e]; exact h.hy j hj
  · show mget (kk := .int .i64) _ _ = _
    rw [mget_del _ h.hk]
    split
    · rfl
    · exact h.hn z hz
theorem del (h : DoI c G f m es) (hG : (G : Int) = 64 * c.s) {z : Int} (hz : ¬ grainP c z) : DoI c G f m (mdel (kk := .int .i64) (vk := IvK) z es) := by
  refine ⟨h.hm, h.h1, h.hF, keysOk_del h.hk, fun j hj => ?_, fun y hy => ?_⟩
  · show mget (kk := .int .i64) _ _ = _
    rw [mget_del _ h.hk, if_neg]
    · exact h.hy j hj
    · rintro rfl; exact hz (grain_is (by omega))
  · show mget (kk := .int .i64) _ _ = _
    rw [mget_del _ h.hk]
    split
    · rfl
    · exact h.hn y hy
end DoI
/-! What all that is live says. -/
theorem len_of_sub : ∀ {l m : List Int}, l.Nodup → (∀ x ∈ l, x ∈ m) → l.length ≤ m.length
  | [], _, _, _ => Nat.zero_le _
  | a :: l, m, hn, h => by
    obtain ⟨h1, h2⟩ := List.nodup_cons.1 hn
    have ha : a ∈ m := h a (by simp)
    have := len_of_sub (l := l) (m := m.erase a) h2 fun x hx => by
      have hne : x ≠ a := by rintro rfl; exact h1 hx
      exact (List.mem_erase_of_ne hne).2 (h x (by simp [hx]))
    rw [List.length_erase_of_mem ha] at this
    have := List.length_pos_of_mem ha
    simp only [List.length_cons]; omega
theorem allL_mem (c : Cnf) (f : Nat → Nat) {p : Int × Int} : ∀ k, p ∈ allL c f k ↔ ∃ g, g < k ∧ thIs (f g) = true ∧ p = (keyN g, sizeN c (thOf (f g)))
  | 0 => by simp [allL]
  | k + 1 => by
    simp only [allL, List.mem_append, allL_mem c f k]
    constructor
    · rintro (⟨g, h1, h2⟩ | h)
      · exact ⟨g, by omega, h2⟩
      · split at h
        · rename_i e
          simp only [List.mem_singleton] at h
          exact ⟨k, by omega, e, h⟩
        · simp at h
    · rintro ⟨g, h1, h2, h3⟩
      by_cases e : g = k
      · subst e; rw [if_pos h2]; exact .inr (by simp [h3, keyN])
      · exact .inl ⟨g, by omega, h2, h3⟩
theorem allL_rise (c : Cnf) (f : Nat → Nat) : ∀ k, (allL c f k).Pairwise fun p q => p.1 < q.1
  | 0 => by simp [allL]
  | k + 1 => by
    simp only [allL]
    refine List.pairwise_append.2 ⟨allL_rise c f k, by split <;> simp, fun p hp q hq => ?_⟩
    obtain ⟨g, h1, _, rfl⟩ := (allL_mem c f k).1 hp
    split at hq
    · simp only [List.mem_singleton] at hq
      subst hq
      simp only [keyN]; omega
    · simp at hq
theorem allL_keys (c : Cnf) (f : Nat → Nat) (k : Nat) : ((allL c f k).map (·.1)).Nodup := by
  refine List.pairwise_map.2 ((allL_rise c f k).imp fun {a b} h => ?_)
  omega
theorem DoI.len {c : Cnf} {G : Nat} {f : Nat → Nat} {m : MemS} {es : ThMap} (hG : (G : Int) = 64 * c.s) (h : DoI c G f m es) : (allL c f G).length = es.length := by
  have h1 := len_of_sub (allL_keys c f G) (m := es.map (·.1)) fun x hx => by
    obtain ⟨p, hp, rfl⟩ := List.mem_map.1 hx
    obtain ⟨g, h1, h2, rfl⟩ := (allL_mem c f G).1 hp
    refine Classical.byContradiction fun hn => ?_
    have := mget_none.2 hn
    have h3 := h.hy g h1
    rw [if_pos h2] at h3
    exact absurd (this.symm.trans h3) (by simp)
  have hk : (es.map (·.1) : List Int).Nodup := h.hk
  have h2 := len_of_sub (m := (allL c f G).map (·.1)) hk fun x hx => by
    have hne : mgT x es ≠ none := fun hn => (mget_none.1 hn) hx
    by_cases hg : grainP c x
    · obtain ⟨g, h1, rfl⟩ := grain_of hg
      have h3 := h.hy g (by omega)
      by_cases e : thIs (f g) = true
      · exact List.mem_map.2 ⟨_, (allL_mem c f G).2 ⟨g, by omega, e, rfl⟩, rfl⟩
      · rw [if_neg e] at h3; exact absurd h3 hne
    · exact absurd (h.hn x hg) hne
  rw [List.length_map, List.length_map] at h1 h2
  omega
/-- Each thing that is told is in the map. -/
theorem DoI.at {c : Cnf} {G : Nat} {f : Nat → Nat} {m : MemS} {es : ThMap} (h : DoI c G f m es) {k : Nat} (hk : k < (allL c f G).length) : ∃ a x, (allL c f G).getD k (0, 0) = (a, sizeN c x) ∧ mgT a es = some x ∧ (-9223372036854775808 ≤ x.2 ∧ x.2 ≤ 9223372036854775807) := by
  have hm : (allL c f G).getD k (0, 0) ∈ allL c f G := by simp [List.getD, hk]
  obtain ⟨g, h1, h2, h3⟩ := (allL_mem c f G).1 hm
  refine ⟨keyN g, thOf (f g), h3, ?_, thOf_q _⟩
  rw [h.hy g h1, if_pos h2]
theorem allL_lt (c : Cnf) (f : Nat → Nat) (G : Nat) {k : Nat} (hk : k + 1 < (allL c f G).length) : ((allL c f G).getD k (0, 0)).1 < ((allL c f G).getD (k + 1) (0, 0)).1 := by
  have := List.pairwise_iff_getElem.1 (allL_rise c f G) k (k + 1) (by omega) hk (by omega)
  simpa [List.getD, hk, show k < (allL c f G).length by omega] using this
end Go.Proofs.YtokblanedeiegaaDoor.E

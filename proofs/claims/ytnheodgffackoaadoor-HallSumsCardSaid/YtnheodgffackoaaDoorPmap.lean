/- Maps in plain: what an entry's writing, and its going, leaves. -/
import Derived.Test.YtnheodgffackoaaDoorEn
namespace Go.Proofs.YtnheodgffackoaaDoor.E
set_option linter.unusedSimpArgs false
set_option linter.unusedVariables false
open Go
section
variable {k : IntKind} {vk : K}
theorem keyEq_int (a b : Int) : keyEq (.int k) a b = (a == b) := rfl
/-- Each key once. -/
def keysOk (es : List (Ent (.int k) vk)) : Prop := (es.map (·.1)).Nodup
theorem mget_nil (x : Int) : mget (kk := .int k) (vk := vk) x [] = none := rfl
theorem mget_cons (x : Int) (e : Ent (.int k) vk) (es : List (Ent (.int k) vk)) : mget (kk := .int k) x (e :: es) = if x = e.1 then some e.2.1 else mget (kk := .int k) x es := by
  have h0 : mget (kk := .int k) (vk := vk) x (e :: es) = match ((x : Int) == e.1) with | true => some e.2.1 | false => mget (kk := .int k) x es := rfl
  rw [h0]
  by_cases h : x = e.1
  · rw [if_pos h, beq_iff_eq.2 h]
  · rw [if_neg h, beq_eq_false_iff_ne.2 h]
theorem mget_none {x : Int} : ∀ {es : List (Ent (.int k) vk)}, mget (kk := .int k) x es = none ↔ x ∉ es.map (·.1)
  | [] => by simpa using (mget_nil x : mget (kk := .int k) (vk := vk) x [] = none)
  | e :: es => by
    rw [mget_cons]
    by_cases h : x = e.1
    · rw [if_pos h]; simp [h]
    · rw [if_neg h, mget_none]; simp [h]
theorem mput_cons (x : Int) (y : ty vk) (c : Nat) (e : Ent (.int k) vk) (es : List (Ent (.int k) vk)) : mput (kk := .int k) x y c (e :: es) = if x = e.1 then (x, y, e.2.2) :: es else e :: mput (kk := .int k) x y c es := by
  have h0 : mput (kk := .int k) (vk := vk) x y c (e :: es) = match ((x : Int) == e.1) with | true => (x, y, e.2.2) :: es | false => e :: mput (kk := .int k) x y c es := rfl
  rw [h0]
  by_cases h : x = e.1
  · rw [if_pos h, beq_iff_eq.2 h]
  · rw [if_neg h, beq_eq_false_iff_ne.2 h]
theorem mdel_cons (x : Int) (e : Ent (.int k) vk) (es : List (Ent (.int k) vk)) : mdel (kk := .int k) x (e :: es) = if x = e.1 then es else e :: mdel (kk := .int k) x es := by
  have h0 : mdel (kk := .int k) (vk := vk) x (e :: es) = match ((x : Int) == e.1) with | true => es | false => e :: mdel (kk := .int k) x es := rfl
  rw [h0]
  by_cases h : x = e.1
  · rw [if_pos h, beq_iff_eq.2 h]
  · rw [if_neg h, beq_eq_false_iff_ne.2 h]
theorem mget_put (x z : Int) (y : ty vk) (c : Nat) : ∀ es : List (Ent (.int k) vk), mget (kk := .int k) z (mput (kk := .int k) x y c es) = if z = x then some y else mget (kk := .int k) z es
  | [] => mget_cons z (x, y, c) []
  | e :: es => by
    rw [mput_cons]
    by_cases h : x = e.1
    · rw [if_pos h, mget_cons, mget_cons]
      by_cases h2 : z = x
      · rw [if_pos h2, if_pos h2]
      · rw [if_neg h2, if_neg h2, if_neg (by rw [← h]; exact h2)]
    · rw [if_neg h, mget_cons, mget_put x z y c es, mget_cons]
      by_cases h2 : z = x
      · rw [if_pos h2, if_pos h2, if_neg (by rw [h2]; exact fun he => h he)]
      · rw [if_neg h2, if_neg h2]
theorem keys_put (x : Int) (y : ty vk) (c : Nat) : ∀ es : List (Ent (.int k) vk), (mput (kk := .int k) x y c es).map (·.1) = if (mget (kk := .int k) x es).isSome then es.map (·.1) else es.map (·.1) ++ [x]
  | [] => rfl
  | e :: es => by
    rw [mput_cons, mget_cons]
    by_cases h : x = e.1
    · rw [if_pos h, if_pos h]; simp [h]
    · rw [if_neg h, if_neg h, List.map_cons, keys_put x y c es]
      split <;> simp
theorem keysOk_put {x : Int} {y : ty vk} {c : Nat} {es : List (Ent (.int k) vk)} (h : keysOk es) : keysOk (mput (kk := .int k) x y c es) := by
  unfold keysOk
  rw [keys_put]
  split
  · exact h
  · rename_i hn
    have hn : mget (kk := .int k) x es = none := by simpa using hn
    rw [mget_none] at hn
    refine List.nodup_append.2 ⟨h, by simp, fun a ha b hb => ?_⟩
    simp only [List.mem_singleton] at hb
    subst hb
    rintro rfl; exact hn ha
theorem mget_del {x : Int} (z : Int) : ∀ {es : List (Ent (.int k) vk)}, keysOk es → mget (kk := .int k) z (mdel (kk := .int k) x es) = if z = x then none else mget (kk := .int k) z es
  | [], _ => by show (none : Option (ty vk)) = if z = x then none else none; split <;> rfl
  | e :: es, h => by
    have hn := List.nodup_cons.1 h
    rw [mdel_cons]
    by_cases h1 : x = e.1
    · rw [if_pos h1, mget_cons]
      by_cases h2 : z = x
      · rw [if_pos h2, h2, h1]; exact mget_none.2 hn.1
      · rw [if_neg h2, if_neg (by rw [← h1]; exact h2)]
    · rw [if_neg h1, mget_cons, mget_del z hn.2, mget_cons]
      by_cases h2 : z = x
      · rw [if_pos h2, if_pos h2, if_neg (by rw [h2]; exact h1)]
      · rw [if_neg h2, if_neg h2]
theorem keys_del (x : Int) : ∀ es : List (Ent (.int k) vk), ((mdel (kk := .int k) x es).map (·.1)).Sublist (es.map (·.1))
  | [] => List.Sublist.refl _
  | e :: es => by
    rw [mdel_cons]
    by_cases h : x = e.1
    · rw [if_pos h]; simp
    · rw [if_neg h]; simpa using keys_del x es
theorem keysOk_del {x : Int} {es : List (Ent (.int k) vk)} (h : keysOk es) : keysOk (mdel (kk := .int k) x es) := h.sublist (keys_del x es)
theorem length_put (x : Int) (y : ty vk) (c : Nat) (es : List (Ent (.int k) vk)) : (mput (kk := .int k) x y c es).length = if (mget (kk := .int k) x es).isSome then es.length else es.length + 1 := by
  have := congrArg List.length (keys_put x y c es)
  rw [List.length_map] at this
  rw [this]
  split <;> simp
theorem mhas_iff (x : Int) (es : List (Ent (.int k) vk)) : mhas (kk := .int k) x es = (mget (kk := .int k) x es).isSome := rfl
end
end Go.Proofs.YtnheodgffackoaaDoor.E

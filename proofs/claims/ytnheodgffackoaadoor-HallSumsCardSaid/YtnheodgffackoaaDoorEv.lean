/- The engine: package variables that are laid: what they read as becomes the globals' cells. -/
import Derived.Test.YtnheodgffackoaaDoorEn
import Derived.ProofKit
import Derived.LaidLaws
import Derived.LaidMore
import Derived.OpenShut
namespace Go.Proofs.YtnheodgffackoaaDoor.E
set_option linter.unusedSimpArgs false
set_option linter.unusedVariables false
open Go Go.RowKit Go.ChangeShapes Go.WideShapes

section
variable {H : Type}
def datF (da : TypeId → DataW H → Option (List AV)) : Nat → List Field → List (DataW H) → Option (List AV)
  | _, [], [] => some []
  | off, f :: fs, d :: ds => if f.offset = off then match da f.type d with
    | some a => match datF da (off + a.length) fs ds with
      | some b => some (a ++ b)
      | none => none
    | none => none
    else none
  | _, _, _ => none
def datR (da : DataW H → Option (List AV)) (sz : Nat) : List (DataW H) → Option (List AV)
  | [] => some []
  | d :: ds => match da d with
    | some a => if a.length = sz then match datR da sz ds with
      | some b => some (a ++ b)
      | none => none
      else none
    | none => none
def datB (P : Program) (da : TypeId → DataW H → Option (List AV)) (t : TypeId) (d : DataW H) : Option (List AV) :=
  match P.underlying t, d with
  | some (.int k), .lit (.int k' x) => if k = k' then some [.int k x] else none
  | some .bool, .lit (.bool b) => some [.bl b]
  | some (.struct fs), .agg ds => datF da 0 fs.toList ds
  | some (.array m e), .agg ds => if ds.length = m then datR (da e) (P.cellsOf e) ds else none
  | _, _ => none
/-- The cells of a plain value, from what it reads as. -/
def datA (P : Program) : Nat → TypeId → DataW H → Option (List AV)
  | 0, _, _ => none
  | n + 1, t, d => match datB P (datA P n) t d with
    | some l => if P.cellsOf t = l.length then some l else none
    | none => none
theorem datA_size {P : Program} {n : Nat} {t : TypeId} {d : DataW H} {l : List AV} (h : datA P n t d = some l) : P.cellsOf t = l.length := by
  cases n with
  | zero => simp [datA] at h
  | succ n =>
    simp only [datA] at h
    split at h
    · split at h
      · cases h; assumption
      · cases h
    · cases h
theorem denL_join {ρ : Rho} : ∀ {a b : List AV} {c d : List Value}, DenL ρ a c → DenL ρ b d → DenL ρ (a ++ b) (c ++ d)
  | [], _, _, _, h, h2 => by simp only [DenL] at h; subst h; exact h2
  | v :: a, b, c, d, h, h2 => by
    obtain ⟨x, xs, rfl, h3, h4⟩ := h
    exact ⟨x, xs ++ d, rfl, h3, denL_join h4 h2⟩
variable {enc : TypeId × Value → H} {P : Program} {w : World} {base : Nat} {spare : Nat → Bool} {held : Bool} {ρ : Rho}
theorem datF_den {da : TypeId → DataW H → Option (List AV)} (hda : ∀ t d l, da t d = some l → P.cellsOf t = l.length) {cs : List Value}
    {tr : TypeId → List Value → DataW H → Prop} (hfit : ∀ t d l c, da t d = some l → tr t c d → DenL ρ l c) :
    ∀ (fs : List Field) (ds : List (DataW H)) (off : Nat) (l : List AV), datF da off fs ds = some l → (∀ (i : Nat) (f : Field) (d : DataW H), fs[i]? = some f → ds[i]? = some d → tr f.type ((cs.drop f.offset).take (P.cellsOf f.type)) d) → off + l.length ≤ cs.length → DenL ρ l ((cs.drop off).take l.length)
  | [], [], off, l, h, _, _ => by simp only [datF, Option.some.injEq] at h; subst h; simp [DenL]
  | [], _ :: _, _, _, h, _, _ => by simp [datF] at h
  | _ :: _, [], _, _, h, _, _ => by simp [datF] at h
  | f :: fs, d :: ds, off, l, h, ht, hle => by
    simp only [datF] at h
    split at h
    case isFalse => cases h
    case isTrue ho =>
    split at h
    case h_2 => cases h
    case h_1 a ha =>
    split at h
    case h_2 => cases h
    case h_1 b hb =>
    cases h
    rw [List.length_append] at hle
    have h1 := hfit _ _ _ _ ha (ht 0 f d rfl rfl)
    rw [ho, hda _ _ _ ha] at h1
    have h2 := datF_den hda hfit fs ds (off + a.length) b hb (fun i f d h1 h2 => ht (i + 1) f d h1 h2) (by omega)
    rw [List.length_append, List.take_add, List.drop_drop]
    exact denL_join h1 h2
theorem datR_den {da : DataW H → Option (List AV)} {sz : Nat} {cs : List Value} {tr : List Value → DataW H → Prop} (hfit : ∀ d l c, da d = some l → tr c d → DenL ρ l c) :
    ∀ (ds : List (DataW H)) (k : Nat) (l : List AV), datR da sz ds = some l → (∀ (i : Nat) (d : DataW H), ds[i]? = some d → tr ((cs.drop ((k + i) * sz)).take sz) d) → DenL ρ l ((cs.drop (k * sz)).take l.length) ∧ l.length = ds.length * sz
  | [], k, l, h, _ => by simp only [datR, Option.some.injEq] at h; subst h; simp [DenL]
  | d :: ds, k, l, h, ht => by
    simp only [datR] at h
    split at h
    case h_2 => cases h
    case h_1 a ha =>
    split at h
    case isFalse => cases h
    case isTrue hs =>
    split at h
    case h_2 => cases h
    case h_1 b hb =>
    cases h
    have h1 := hfit _ _ _ ha (ht 0 d rfl)
    obtain ⟨h2, h3⟩ := datR_den hfit ds (k + 1) b hb (fun i d h => by have := ht (i + 1) d h; rwa [show k + (i + 1) = k + 1 + i by omega] at this)
    refine ⟨?_, by rw [List.length_append, hs, h3, List.length_cons, Nat.succ_mul, Nat.add_comm]⟩
    rw [List.length_append, List.take_add, List.drop_drop]
    refine denL_join ?_ ?_
    · rw [hs]; exact h1
    · rw [hs, ← Nat.succ_mul]; exact h2
theorem datA_den : ∀ (n : Nat) (t : TypeId) (d : DataW H) (l : List AV), datA P n t d = some l → ∀ (fuel : Nat) (cs : List Value) (p : List MemPlace), DataW.trod enc P w base spare held fuel t cs = some (d, p) → DenL ρ l cs
  | 0, _, _, _, h, _, _, _, _ => by simp [datA] at h
  | n + 1, t, d, l, h, fuel, cs, p, hx => by
    have hsz := datA_size h
    simp only [datA] at h
    split at h
    case h_2 => cases h
    case h_1 l' h1 =>
    split at h
    case isFalse => cases h
    case isTrue =>
    cases h
    unfold datB at h1
    split at h1
    · rename_i k k' x hu
      split at h1
      case isFalse => cases h1
      case isTrue hk =>
      cases h1
      obtain ⟨m, rfl, he, _⟩ := DataW.trod_int hu hx
      simp only [Prod.mk.injEq, DataW.lit.injEq, Lit.int.injEq] at he
      obtain ⟨⟨_, rfl⟩, _⟩ := he
      exact ⟨_, [], rfl, rfl, rfl⟩
    · rename_i b hu
      cases h1
      obtain ⟨m, rfl, he⟩ := DataW.trod_bool hu hx
      simp only [Prod.mk.injEq, DataW.lit.injEq, Lit.bool.injEq] at he
      obtain ⟨rfl, _⟩ := he
      exact ⟨_, [], rfl, rfl, rfl⟩
    · rename_i fs ds hu
      obtain ⟨xs, m, _, he, hl, hxl, hf⟩ := DataW.trod_struct hu hx
      simp only [Prod.mk.injEq, DataW.agg.injEq] at he
      obtain ⟨rfl, _⟩ := he
      have := datF_den (ρ := ρ) (P := P) (cs := cs) (da := datA P n) (fun t d l h => datA_size h) (tr := fun t c d => ∃ q, DataW.trod enc P w base spare held m t c = some (d, q)) (fun t d l c h1 ⟨q, hq⟩ => datA_den n t d l h1 _ _ _ hq)
        fs.toList _ 0 _ h1 (fun i f d hfi hdi => by
          have h3 := hf i f (by simpa using hfi)
          rw [List.getElem?_map] at hdi
          obtain ⟨y, hy, rfl⟩ := Option.map_eq_some_iff.1 hdi
          rw [hy] at h3
          exact ⟨y.2, h3⟩) (by omega)
      rwa [List.drop_zero, List.take_of_length_le (by omega)] at this
    · rename_i m e ds hu
      split at h1
      case isFalse => cases h1
      case isTrue hm =>
      obtain ⟨xs, q, _, he, hl, hxl, hf⟩ := DataW.trod_array hu hx
      simp only [Prod.mk.injEq, DataW.agg.injEq] at he
      obtain ⟨rfl, _⟩ := he
      have := (datR_den (ρ := ρ) (cs := cs) (da := datA P n e) (sz := P.cellsOf e) (tr := fun c d => ∃ q', DataW.trod enc P w base spare held q e c = some (d, q')) (fun d l c h1 ⟨q', hq⟩ => datA_den n e d l h1 _ _ _ hq)
        _ 0 _ h1 (fun i d hdi => by
          rw [List.getElem?_map] at hdi
          obtain ⟨y, hy, rfl⟩ := Option.map_eq_some_iff.1 hdi
          have hi : i < m := by have := (List.getElem?_eq_some_iff.1 hy).1; omega
          have h3 := hf i hi
          rw [hy] at h3
          rw [Nat.zero_add]
          exact ⟨y.2, h3⟩)).1
      rwa [Nat.zero_mul, List.drop_zero, List.take_of_length_le (by omega)] at this
    · cases h1
end
/-- The cells of all variables that are laid and plain. -/
def gcA (P : Program) : List (String × DataW Unit) → List (Nat × List AV)
  | [] => []
  | (n, d) :: r => match P.globalNamed n with
    | some g => match (P.globals[g]?).map (·.type) with
      | some t => match datA P 8 t d with
        | some l => (g, l) :: gcA P r
        | none => gcA P r
      | none => gcA P r
    | none => gcA P r
theorem relG_vars {P : Program} {w : World} : ∀ (laid : List (String × DataW Unit)) (ps : List MemPlace), DataW.LaidVars P w laid ps → RelG (gcA P laid) w.heap.size w
  | [], _, _ => fun g cs h => by simp [gcA, lookO] at h
  | (n, d) :: r, ps, h => by
    obtain ⟨g, t, cs, fuel, p, q, hg, ht, hv, hd, hr, _⟩ := h
    have ih := relG_vars r q hr
    simp only [gcA, hg, ht]
    split
    · rename_i l hl
      intro g' cs' h'
      simp only [lookO] at h'
      split at h'
      · rename_i he
        obtain rfl := Nat.eq_of_beq_eq_true he
        cases h'
        simp only [World.var?, hg, Option.bind_some] at hv
        split at hv
        · rename_i c t' fr hb
          cases hv
          exact ⟨(Array.getElem?_eq_some_iff.1 hb).1, _, _, _, hb, fun ρ => datA_den 8 t d l hl _ _ _ hd⟩
        · cases hv
      · exact ih g' cs' h'
    · exact ih
theorem relG_laid {P : Program} {w : World} {laid : List (String × DataW Unit)} (h : laidMetH P laid w) : RelG (gcA P (laid.filter fun x => x.2.handleName?.isNone)) w.heap.size w := by
  unfold laidMetH at h
  split at h
  · rename_i he
    have : (laid.filter fun x => x.2.handleName?.isNone) = laid := by
      rw [List.filter_eq_self]
      intro x hx
      have := List.filter_eq_nil_iff.1 he x hx
      simpa using this
    rw [this]
    obtain ⟨ps, hp, _⟩ := h
    exact relG_vars _ _ hp
  · obtain ⟨⟨ps, hp, _⟩, _⟩ := h
    exact relG_vars _ _ hp
end Go.Proofs.YtnheodgffackoaaDoor.E

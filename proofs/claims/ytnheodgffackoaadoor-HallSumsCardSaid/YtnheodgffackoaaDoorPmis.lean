/- Package hall: a hall's words, in a memory; what each step leaves of them. -/
import Derived.Test.YtnheodgffackoaaDoorPmvik
import Derived.Test.YtnheodgffackoaaDoorYall
namespace Go.Proofs.YtnheodgffackoaaDoor.E
set_option linter.unusedSimpArgs false
set_option linter.unusedVariables false
open Go Go.Proofs.YtnheodgffackoaaDoor.Y
set_option maxRecDepth 100000
def HV.size (V : HV) : Nat := 1 + 4 * V.n + 2 * V.n * V.R
theorem bump_ne (x : Int) : IntKind.u64.wrap (x + 1) ≠ x := by
  intro h
  have e : (x + 1) % 18446744073709551616 = x := h
  omega
def HV.par (V : HV) (h : V.Ok) : Par := ⟨V.n, obW V.o, obAp V.o, obOk V.o, leastT, fun x => IntKind.u64.wrap (x + 1), h.n0, obOk_len V.o, fun l q h => obOk_ap V.o l q h, fun l => (leastT_spec l).2.2, fun l => (leastT_spec l).1, bump_ne⟩
/-- The memory has the hall's words. -/
structure MemIs (V : HV) (m : MemS) (M : M3) : Prop where
  len : V.b + V.size ≤ m.words.length
  head : m.get V.b = (wRf M.head : Nat)
  held : ∀ i, i < V.n → m.get ((V.b + 1 + i : Nat) : Int) = (wRef (M.held i) : Nat)
  asked : ∀ i, i < V.n → m.get ((V.b + 1 + i + V.n : Nat) : Int) = M.asked i
  oa : ∀ i, i < V.n → m.get ((V.b + 1 + i + 2 * V.n : Nat) : Int) = M.oa i
  ob : ∀ i, i < V.n → m.get ((V.b + 1 + i + 3 * V.n : Nat) : Int) = M.ob i
  rc : ∀ i s k, i < V.n → s < 2 → k < V.R → m.get ((V.at_ i s + k : Nat) : Int) = (M.rc i s).getD k 0
theorem at_lt {V : HV} {i s k : Nat} (hi : i < V.n) (hs : s < 2) (hk : k < V.R) : V.b + 1 + 4 * V.n ≤ V.at_ i s + k ∧ V.at_ i s + k < V.b + V.size := by
  unfold HV.at_ HV.size
  have h1 : (2 * i + s + 1) * V.R ≤ 2 * V.n * V.R := Nat.mul_le_mul_right _ (by omega)
  rw [Nat.add_mul, Nat.one_mul] at h1
  omega
theorem at_inj {V : HV} {i s k i' s' k' : Nat} (hs : s < 2) (hs' : s' < 2) (hk : k < V.R) (hk' : k' < V.R) (h : V.at_ i s + k = V.at_ i' s' + k') : i = i' ∧ s = s' ∧ k = k' := by
  unfold HV.at_ at h
  have h0 : (2 * i + s) * V.R + k = (2 * i' + s') * V.R + k' := by omega
  have key : ∀ a b k k' : Nat, k < V.R → k' < V.R → a * V.R + k = b * V.R + k' → a ≤ b := fun a b k k' h1 h2 h3 => by
    apply Classical.byContradiction
    intro hn
    have : (b + 1) * V.R ≤ a * V.R := Nat.mul_le_mul_right _ (by omega)
    rw [Nat.add_mul, Nat.one_mul] at this
    omega
  have e : 2 * i + s = 2 * i' + s' := Nat.le_antisymm (key _ _ _ _ hk hk' h0) (key _ _ _ _ hk' hk h0.symm)
  rw [e] at h0
  exact ⟨by omega, by omega, by omega⟩
theorem get_put {m : MemS} {k : Int} {a : Nat} (h : a < m.words.length) (x : Int) (q : Nat) : ((m.acc k a).put a x).get q = if q = a then x else m.get q := by
  have hin : (m.acc k a).inr a := ⟨by omega, by show (a : Int) < m.words.length; omega⟩
  rw [MemS.put_in hin]
  have hw : (m.acc k a).words = m.words := rfl
  by_cases hq : q < m.words.length
  · rw [MemS.get_in ⟨by omega, by show (q : Int) < ((m.acc k a).words.set _ x).length; rw [hw]; simp; omega⟩]
    show ((m.acc k a).words.set (a : Int).toNat x).getD (q : Int).toNat 0 = _
    rw [hw, Int.toNat_natCast, Int.toNat_natCast]
    by_cases e : q = a
    · subst e; rw [if_pos rfl, Y.getD_set_self h]
    · rw [if_neg e, Y.getD_set_other (fun h => e h.symm), MemS.get_in ⟨by omega, by omega⟩, Int.toNat_natCast]
  · rw [MemS.get_out (fun hh => hq (by have := hh.2; have h2 : (q : Int) < ((m.acc k a).words.set (a : Int).toNat x).length := this; rw [hw] at h2; simp at h2; omega)), if_neg (by omega), MemS.get_out (fun hh => hq (by have := hh.2; omega))]
theorem acc_get (m : MemS) (k a q : Int) : (m.acc k a).get q = m.get q := rfl
section
variable {V : HV} {m : MemS} {M : M3}
theorem MemIs.acc (h : MemIs V m M) (k a : Int) : MemIs V (m.acc k a) M := ⟨h.len, h.head, h.held, h.asked, h.oa, h.ob, h.rc⟩
theorem MemIs.n_lt (h : MemIs V m M) {a : Nat} (ha : a < V.b + V.size) : a < m.words.length := Nat.lt_of_lt_of_le ha h.len
theorem size_ge (V : HV) : 1 + 4 * V.n ≤ V.size := by unfold HV.size; omega
theorem MemIs.plen (h : MemIs V m M) (k a x : Int) : V.b + V.size ≤ ((m.acc k a).put a x).words.length := by rw [MemS.put_len]; exact h.len
theorem MemIs.putHead (h : MemIs V m M) (k : Int) (r : Rf) : MemIs V ((m.acc k V.b).put V.b (wRf r : Nat)) { M with head := r } := by
  have hs := size_ge V
  have hl := h.n_lt (a := V.b) (by omega)
  refine ⟨h.plen .., by rw [get_put hl]; exact if_pos rfl, fun i hi => ?_, fun i hi => ?_, fun i hi => ?_, fun i hi => ?_, fun i s k hi hs' hk => ?_⟩
  · rw [get_put hl, if_neg (by omega)]; exact h.held i hi
  · rw [get_put hl, if_neg (by omega)]; exact h.asked i hi
  · rw [get_put hl, if_neg (by omega)]; exact h.oa i hi
  · rw [get_put hl, if_neg (by omega)]; exact h.ob i hi
  · have := at_lt (V := V) hi hs' hk
    rw [get_put hl, if_neg (by omega)]; exact h.rc i s k hi hs' hk
theorem MemIs.putHeld (h : MemIs V m M) (k : Int) {w : Nat} (hw : w < V.n) (r : Option Rf) : MemIs V ((m.acc k ((V.b + 1 + w : Nat) : Int)).put ((V.b + 1 + w : Nat) : Int) (wRef r : Nat)) { M with held := updF M.held w r } := by
  have hs := size_ge V
  have hl := h.n_lt (a := V.b + 1 + w) (by omega)
  refine ⟨h.plen .., by rw [get_put hl, if_neg (by omega)]; exact h.head, fun i hi => ?_, fun i hi => ?_, fun i hi => ?_, fun i hi => ?_, fun i s k hi hs' hk => ?_⟩
  · rw [get_put hl]
    by_cases e : i = w
    · subst e; rw [if_pos rfl]; show _ = (wRef (updF M.held i r i) : Int); rw [updF_self]
    · rw [if_neg (by omega)]; show _ = (wRef (updF M.held w r i) : Int); rw [updF_ne _ _ e]; exact h.held i hi
  · rw [get_put hl, if_neg (by omega)]; exact h.asked i hi
  · rw [get_put hl, if_neg (by omega)]; exact h.oa i hi
  · rw [get_put hl, if_neg (by omega)]; exact h.ob i hi
  · have := at_lt (V := V) hi hs' hk
    rw [get_put hl, if_neg (by omega)]; exact h.rc i s k hi hs' hk
theorem MemIs.putAsked (h : MemIs V m M) (k : Int) {w : Nat} (hw : w < V.n) (x : Int) : MemIs V ((m.acc k ((V.b + 1 + w + V.n : Nat) : Int)).put ((V.b + 1 + w + V.n : Nat) : Int) x) { M with asked := updF M.asked w x } := by
  have hs := size_ge V
  have hl := h.n_lt (a := V.b + 1 + w + V.n) (by omega)
  refine ⟨h.plen .., by rw [get_put hl, if_neg (by omega)]; exact h.head, fun i hi => ?_, fun i hi => ?_, fun i hi => ?_, fun i hi => ?_, fun i s k hi hs' hk => ?_⟩
  · rw [get_put hl, if_neg (by omega)]; exact h.held i hi
  · rw [get_put hl]
    by_cases e : i = w
    · subst e; rw [if_pos rfl]; show _ = updF M.asked i x i; rw [updF_self]
    · rw [if_neg (by omega)]; show _ = updF M.asked w x i; rw [updF_ne _ _ e]; exact h.asked i hi
  · rw [get_put hl, if_neg (by omega)]; exact h.oa i hi
  · rw [get_put hl, if_neg (by omega)]; exact h.ob i hi
  · have := at_lt (V := V) hi hs' hk
    rw [get_put hl, if_neg (by omega)]; exact h.rc i s k hi hs' hk
theorem MemIs.putOa (h : MemIs V m M) (k : Int) {w : Nat} (hw : w < V.n) (x : Int) : MemIs V ((m.acc k ((V.b + 1 + w + 2 * V.n : Nat) : Int)).put ((V.b + 1 + w + 2 * V.n : Nat) : Int) x) { M with oa := updF M.oa w x } := by
  have hs := size_ge V
  have hl := h.n_lt (a := V.b + 1 + w + 2 * V.n) (by omega)
  refine ⟨h.plen .., by rw [get_put hl, if_neg (by omega)]; exact h.head, fun i hi => ?_, fun i hi => ?_, fun i hi => ?_, fun i hi => ?_, fun i s k hi hs' hk => ?_⟩
  · rw [get_put hl, if_neg (by omega)]; exact h.held i hi
  · rw [get_put hl, if_neg (by omega)]; exact h.asked i hi
  · rw [get_put hl]
    by_cases e : i = w
    · subst e; rw [if_pos rfl]; show _ = updF M.oa i x i; rw [updF_self]
    · rw [if_neg (by omega)]; show _ = updF M.oa w x i; rw [updF_ne _ _ e]; exact h.oa i hi
  · rw [get_put hl, if_neg (by omega)]; exact h.ob i hi
  · have := at_lt (V := V) hi hs' hk
    rw [get_put hl, if_neg (by omega)]; exact h.rc i s k hi hs' hk
theorem MemIs.putOb (h : MemIs V m M) (k : Int) {w : Nat} (hw : w < V.n) (x : Int) : MemIs V ((m.acc k ((V.b + 1 + w + 3 * V.n : Nat) : Int)).put ((V.b + 1 + w + 3 * V.n : Nat) : Int) x) { M with ob := updF M.ob w x } := by
  have hs := size_ge V
  have hl := h.n_lt (a := V.b + 1 + w + 3 * V.n) (by omega)
  refine ⟨h.plen .., by rw [get_put hl, if_neg (by omega)]; exact h.head, fun i hi => ?_, fun i hi => ?_, fun i hi => ?_, fun i hi => ?_, fun i s k hi hs' hk => ?_⟩
  · rw [get_put hl, if_neg (by omega)]; exact h.held i hi
  · rw [get_put hl, if_neg (by omega)]; exact h.asked i hi
  · rw [get_put hl, if_neg (by omega)]; exact h.oa i hi
  · rw [get_put hl]
    by_cases e : i = w
    · subst e; rw [if_pos rfl]; show _ = updF M.ob i x i; rw [updF_self]
    · rw [if_neg (by omega)]; show _ = updF M.ob w x i; rw [updF_ne _ _ e]; exact h.ob i hi
  · have := at_lt (V := V) hi hs' hk
    rw [get_put hl, if_neg (by omega)]; exact h.rc i s k hi hs' hk
theorem MemIs.putRc (h : MemIs V m M) (k : Int) {w s0 j : Nat} (hw : w < V.n) (hs0 : s0 < 2) (hj : j < V.R) (hL : (M.rc w s0).length = V.R) (x : Int) : MemIs V ((m.acc k ((V.at_ w s0 + j : Nat) : Int)).put ((V.at_ w s0 + j : Nat) : Int) x) { M with rc := updR M.rc w s0 ((M.rc w s0).set j x) } := by
  have hs := size_ge V
  have hb := at_lt (V := V) hw hs0 hj
  have hl := h.n_lt (a := V.at_ w s0 + j) (by omega)
  refine ⟨h.plen .., by rw [get_put hl, if_neg (by omega)]; exact h.head, fun i hi => ?_, fun i hi => ?_, fun i hi => ?_, fun i hi => ?_, fun i s k hi hs' hk => ?_⟩
  · rw [get_put hl, if_neg (by omega)]; exact h.held i hi
  · rw [get_put hl, if_neg (by omega)]; exact h.asked i hi
  · rw [get_put hl, if_neg (by omega)]; exact h.oa i hi
  · rw [get_put hl, if_neg (by omega)]; exact h.ob i hi
  · rw [get_put hl]
    show _ = (updR M.rc w s0 ((M.rc w s0).set j x) i s).getD k 0
    by_cases e : V.at_ i s + k = V.at_ w s0 + j
    · obtain ⟨rfl, rfl, rfl⟩ := at_inj hs' hs0 hk hj e
      rw [if_pos rfl, updR_self, Y.getD_set_self (by omega)]
    · rw [if_neg e]
      by_cases e2 : i = w ∧ s = s0
      · obtain ⟨rfl, rfl⟩ := e2
        rw [updR_self, Y.getD_set_other (fun hh => e (by rw [hh]))]
        exact h.rc i s k hi hs' hk
      · rw [updR_ne _ _ e2]; exact h.rc i s k hi hs' hk
end
end Go.Proofs.YtnheodgffackoaaDoor.E

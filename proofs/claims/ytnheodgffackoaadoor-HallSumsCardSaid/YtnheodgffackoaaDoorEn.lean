/- The program of the seat, for the engine. -/
import Derived.Test.YtnheodgffackoaaDoorEo
import Derived.IntWalk
namespace Go.Proofs.YtnheodgffackoaaDoor.E
set_option linter.unusedSimpArgs false
set_option linter.unusedVariables false
open Go
def eqTypes : List TypeId :=
  39 ::
  85 ::
  75 ::
  77 ::
  110 ::
  81 ::
  []
theorem eqTypes_ok : eqTypes.all (fun t => !Tryd.prog.stoodInHeld t && !Tryd.prog.eqGuardType Tryd.prog.depth t) = true := by kernel_rfl
/-- The package variables that the rows lay. -/
def gcs : List (Nat × List AV) := [(0, [.int .i64 0, .int .i64 8, .int .i64 8, .int .i64 8, .int .i64 16, .int .i64 32, .int .i64 63, .int .i64 1])]
noncomputable def En : Env := ⟨Tryd.prog, gcs, eqTypes, fun t h => by
  have := List.all_eq_true.1 eqTypes_ok t h
  simpa using this⟩
theorem mixed : En.P.follows .mixedOrders = true := by kernel_rfl
noncomputable def TriI.of {E : Env} {f : FuncId} {args : List AV} {os os' : List AObj} {v : AV} (h : Tri E f args os v os') : TriI E := ⟨f, args, os, v, os', none, h, fun _ _ h => by cases h⟩
/-- .. called through an interface. -/
noncomputable def TriI.ofM {E : Env} {f : FuncId} {args : List AV} {os os' : List AObj} {v : AV} (t : TypeId) (nm : String) (hm : Meth E t nm f) (h : Tri E f args os v os') : TriI E := ⟨f, args, os, v, os', some (t, nm), h, fun _ _ h => by cases h; exact hm⟩
theorem dec_f {p : Prop} [Decidable p] (h : ¬ p) : decide p = false := decide_eq_false h
theorem dec_t {p : Prop} [Decidable p] (h : p) : decide p = true := decide_eq_true h
theorem dfl_pair (a b : K) : dfl (K.pair a b) = (dfl a, dfl b) := rfl
theorem dfl_int (k : IntKind) : dfl (K.int k) = (0 : Int) := rfl
/-- A number that fits is itself. -/
theorem w64 {x : Int} (h : -9223372036854775808 ≤ x) (h2 : x ≤ 9223372036854775807) : IntKind.i64.wrap x = x := IntWalk.i64_in x ⟨h, h2⟩
theorem wu64 {x : Int} (h : 0 ≤ x) (h2 : x ≤ 18446744073709551615) : IntKind.u64.wrap x = x := IntWalk.u64_in x ⟨h, h2⟩
theorem wf_u8 {x : Int} (h : (Lit.int .u8 x).wf = true) : ∃ n : Nat, x = n ∧ n ≤ 255 := by
  simp [Lit.wf, IntKind.min, IntKind.max, IntKind.bits, IntKind.signed] at h
  exact ⟨x.toNat, by omega, by omega⟩
theorem wf_u16 {x : Int} (h : (Lit.int .u16 x).wf = true) : ∃ n : Nat, x = n ∧ n ≤ 65535 := by
  simp [Lit.wf, IntKind.min, IntKind.max, IntKind.bits, IntKind.signed] at h
  exact ⟨x.toNat, by omega, by omega⟩
theorem wf_u64 {x : Int} (h : (Lit.int .u64 x).wf = true) : 0 ≤ x ∧ x ≤ 18446744073709551615 := by
  simp [Lit.wf, IntKind.min, IntKind.max, IntKind.bits, IntKind.signed] at h
  omega
theorem wf_i64 {x : Int} (h : (Lit.int .i64 x).wf = true) : -9223372036854775808 ≤ x ∧ x ≤ 9223372036854775807 := by
  simp [Lit.wf, IntKind.min, IntKind.max, IntKind.bits, IntKind.signed] at h
  omega
/-- A row of numbers, by what stands at each place. -/
def tabW (n : Nat) (f : Nat → Int) : List Int := (List.range n).map f
@[simp] theorem tabW_len (n : Nat) (f : Nat → Int) : (tabW n f).length = n := by simp [tabW]
theorem tabW_get {n : Nat} {f : Nat → Int} {i : Nat} (h : i < n) : (tabW n f).getD i 0 = f i := by simp [tabW, List.getD, h]
theorem tabW_congr {n : Nat} {f g : Nat → Int} (h : ∀ i, i < n → f i = g i) : tabW n f = tabW n g := List.map_congr_left fun i hi => h i (by simpa using hi)
theorem tabW_set (n : Nat) (f : Nat → Int) (j : Nat) (x : Int) : (tabW n f).set j x = tabW n fun i => if i = j then x else f i := by
  refine List.ext_getElem? fun i => ?_
  simp only [tabW, List.getElem?_set, List.getElem?_map, List.length_map, List.length_range, List.getElem?_range']
  by_cases h : i < n
  · by_cases h2 : j = i
    · subst h2; simp [h]
    · rw [if_neg h2]; simp [h, show ¬ i = j from fun e => h2 e.symm]
  · simp [h]
    omega
theorem tabW_set' {n : Nat} {f g : Nat → Int} {j : Nat} {x : Int} (h : ∀ i, i < n → (if i = j then x else f i) = g i) : (tabW n f).set j x = tabW n g := by rw [tabW_set]; exact tabW_congr h
theorem tabW_zero (n : Nat) : List.replicate n 0 = tabW n fun _ => 0 := by
  refine List.ext_getElem? fun i => ?_
  simp [tabW, List.getElem?_replicate]
  by_cases h : i < n <;> simp [h]
theorem tabW_self (l : List Int) : l = tabW l.length fun i => l.getD i 0 := by
  refine List.ext_getElem? fun i => ?_
  by_cases h : i < l.length <;> simp [tabW, h, List.getD]
end Go.Proofs.YtnheodgffackoaaDoor.E

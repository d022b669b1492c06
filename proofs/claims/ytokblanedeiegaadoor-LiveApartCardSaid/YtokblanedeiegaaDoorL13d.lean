/- LiveApart: the law's contract: a step of the script. -/
import Derived.Test.YtokblanedeiegaaDoorL13c
namespace Go.Proofs.YtokblanedeiegaaDoor.E
open Go
set_option maxRecDepth 100000

abbrev ActK : K := .pair (.int .i64) (.pair (.int .i64) IvK)
abbrev ActT := Int × Int × ThT
def twoW (G : Nat) (f f2 : Nat → Nat) : List Int := tabW (2 * G) fun i => ((if i < G then f i else f2 (i - G) : Nat) : Int)
def oneW (G : Nat) (f : Nat → Nat) : List Int := tabW G fun i => (f i : Int)
def updF (f : Nat → Nat) (g x i : Nat) : Nat := if i = g then x else f i
def F64 (f : Nat → Nat) : Prop := ∀ i, f i < 18446744073709551616
theorem F64.upd {f : Nat → Nat} (h : F64 f) {g x : Nat} (hx : x < 18446744073709551616) : F64 (updF f g x) := fun i => by
  unfold updF; split
  · exact hx
  · exact h i
/-- What the two memories hold: the tables a and b, and a's twin. -/
structure ApI (G : Nat) (f f2 : Nat → Nat) (m n : MemS) : Prop where
  hm : m.words = twoW G f f2
  hn : n.words = oneW G f
  h1 : F64 f
  h2 : F64 f2
  hF : m.faults = 0
namespace ApI
variable {G : Nat} {f f2 : Nat → Nat} {m n : MemS}
theorem lm (h : ApI G f f2 m n) : m.words.length = 2 * G := by rw [h.hm, twoW, tabW_len]
theorem ln (h : ApI G f f2 m n) : n.words.length = G := by rw [h.hn, oneW, tabW_len]
theorem ga (h : ApI G f f2 m n) {g : Nat} (hg : g < G) : m.get ((0 + g : Nat) : Int) = (f g : Int) := by
  rw [MemS.get_in ⟨by omega, by rw [h.lm]; omega⟩, h.hm, Int.toNat_natCast, Nat.zero_add, twoW, tabW_get (by omega), if_pos hg]
theorem gb (h : ApI G f f2 m n) {g : Nat} (hg : g < G) : m.get ((G + g : Nat) : Int) = (f2 g : Int) := by
  rw [MemS.get_in ⟨by omega, by rw [h.lm]; omega⟩, h.hm, Int.toNat_natCast, twoW, tabW_get (by omega), if_neg (by omega), show G + g - G = g by omega]
theorem gn (h : ApI G f f2 m n) {g : Nat} (hg : g < G) : n.get ((0 + g : Nat) : Int) = (f g : Int) := by
  rw [MemS.get_in ⟨by omega, by rw [h.ln]; omega⟩, h.hn, Int.toNat_natCast, Nat.zero_add, oneW, tabW_get hg]
theorem acc (h : ApI G f f2 m n) {k : Int} {a : Nat} (ha : a < 2 * G) : ApI G f f2 (m.acc k (a : Int)) n := ⟨h.hm, h.hn, h.h1, h.h2, by rw [MemS.acc_faults ⟨by omega, by rw [h.lm]; omega⟩, h.hF]⟩
theorem putA (h : ApI G f f2 m n) {k : Int} {g x : Nat} (hg : g < G) (hx : x < 18446744073709551616) : ApI G (updF f g x) f2 ((m.acc k ((0 + g : Nat) : Int)).put ((0 + g : Nat) : Int) x) ((n.acc k ((0 + g : Nat) : Int)).put ((0 + g : Nat) : Int) x) := by
  have i1 : m.inr ((0 + g : Nat) : Int) := ⟨by omega, by rw [h.lm]; omega⟩
  have i2 : n.inr ((0 + g : Nat) : Int) := ⟨by omega, by rw [h.ln]; omega⟩
  refine ⟨?_, ?_, h.h1.upd hx, h.h2, by rw [MemS.put_faults i1, h.hF]⟩
  · rw [MemS.put_words i1, h.hm, Int.toNat_natCast, Nat.zero_add]
    refine tabW_set' fun i hi => ?_
    unfold updF
    by_cases e : i = g
    · subst e; rw [if_pos rfl, if_pos hg, if_pos rfl]
    · rw [if_neg e, if_neg e]
  · rw [MemS.put_words i2, h.hn, Int.toNat_natCast, Nat.zero_add]
    refine tabW_set' fun i hi => ?_
    unfold updF
    by_cases e : i = g
    · subst e; rw [if_pos rfl, if_pos rfl]
    · rw [if_neg e, if_neg e]
theorem putB (h : ApI G f f2 m n) {k : Int} {g x : Nat} (hg : g < G) (hx : x < 18446744073709551616) : ApI G f (updF f2 g x) ((m.acc k ((G + g : Nat) : Int)).put ((G + g : Nat) : Int) x) n := by
  have i1 : m.inr ((G + g : Nat) : Int) := ⟨by omega, by rw [h.lm]; omega⟩
  refine ⟨?_, h.hn, h.h1, h.h2.upd hx, by rw [MemS.put_faults i1, h.hF]⟩
  rw [MemS.put_words i1, h.hm, Int.toNat_natCast]
  refine tabW_set' fun i hi => ?_
  unfold updF
  by_cases e : i = G + g
  · rw [if_pos e, if_neg (by omega), if_pos (by omega)]
  · rw [if_neg e]
    by_cases e2 : i < G
    · rw [if_pos e2, if_pos e2]
    · rw [if_neg e2, if_neg e2, if_neg (by omega)]
end ApI
theorem Tri.toBool {E : Env} {f : FuncId} {args : List AV} {os os' : List AObj} {b : Bool} (h : Tri E f args os (.bl b) os') : Tri E f args os (.bool b) os' := by
  refine ⟨h.enters, fun B ρ w vs h1 h2 h3 => (h.run B ρ w vs h1 h2 h3).mono fun e w' hp => ?_⟩
  obtain ⟨ρ', u, h4, h5, h6⟩ := hp
  exact ⟨ρ', u, h4, by simpa [Den] using h5, h6⟩
theorem Tri.tupBool {E : Env} {f : FuncId} {args : List AV} {os os' : List AObj} {a : AV} {b : Bool} (h : Tri E f args os (.tuple [a, .bl b]) os') : Tri E f args os (.tuple [a, .bool b]) os' := by
  refine ⟨h.enters, fun B ρ w vs h1 h2 h3 => (h.run B ρ w vs h1 h2 h3).mono fun e w' hp => ?_⟩
  obtain ⟨ρ', u, h4, h5, h6⟩ := hp
  refine ⟨ρ', u, h4, ?_, h6⟩
  simpa [Den, DenL] using h5
abbrev TLook (c : Cnf) (b : Nat) (at_ : Int) (m m' : MemS) (x : ThT) (v : Bool) : Prop := Tri En 18 [.ptr 0 0 0, .int .i64 at_] [tableC 1 2 b c, memC 3 m, clsT c, memT m] (.tuple [thA x, .bool v]) [tableC 1 2 b c, memC 3 m', clsT c, memT m']
abbrev TTake (c : Cnf) (b : Nat) (at_ : Int) (m m' : MemS) (x : ThT) (v : Bool) : Prop := Tri En 20 [.ptr 0 0 0, .int .i64 at_] [tableC 1 2 b c, memC 3 m, clsT c, memT m] (.tuple [thA x, .bool v]) [tableC 1 2 b c, memC 3 m', clsT c, memT m']
abbrev TMark (c : Cnf) (b : Nat) (at_ : Int) (y : ThT) (m m' : MemS) (v : Bool) : Prop := Tri En 17 [.ptr 0 0 0, .int .i64 at_, thA y] [tableC 1 2 b c, memC 3 m, clsT c, memT m] (.bool v) [tableC 1 2 b c, memC 3 m', clsT c, memT m']
theorem look_a (c : Cnf) (h : c.Ok) (G : Nat) (hG : (G : Int) = 64 * c.s) (f f2 : Nat → Nat) (m n : MemS) (hI : ApI G f f2 m n) (at_ : Int) : ∃ m' x v, TLook c 0 at_ m m' x v ∧ ApI G f f2 m' n := by
  by_cases hg : grainP c at_
  · obtain ⟨g, h1, rfl⟩ := grain_of hg
    exact ⟨_, _, _, look_yes c h 0 (by omega) m g h1 (f g) (hI.ga (by omega)) (hI.h1 g), hI.acc (by omega)⟩
  · exact ⟨m, (0, 0), false, (look_no c h 0 (by omega) m at_ hg).tupBool, hI⟩
theorem look_b (c : Cnf) (h : c.Ok) (G : Nat) (hG : (G : Int) = 64 * c.s) (f f2 : Nat → Nat) (m n : MemS) (hI : ApI G f f2 m n) (at_ : Int) : ∃ m' x v, TLook c G at_ m m' x v ∧ ApI G f f2 m' n := by
  have s1 := h.s1
  by_cases hg : grainP c at_
  · obtain ⟨g, h1, rfl⟩ := grain_of hg
    exact ⟨_, _, _, look_yes c h G (by omega) m g h1 (f2 g) (hI.gb (by omega)) (hI.h2 g), hI.acc (by omega)⟩
  · exact ⟨m, (0, 0), false, (look_no c h G (by omega) m at_ hg).tupBool, hI⟩
theorem mark_a (c : Cnf) (h : c.Ok) (G : Nat) (hG : (G : Int) = 64 * c.s) (f f2 : Nat → Nat) (m n : MemS) (hI : ApI G f f2 m n) (at_ : Int) (y : ThT) (hy : thOk c y) : ∃ m' n' f' v, TMark c 0 at_ y m m' v ∧ TMark c 0 at_ y n n' v ∧ ApI G f' f2 m' n' := by
  by_cases hg : grainP c at_
  · obtain ⟨g, h1, rfl⟩ := grain_of hg
    exact ⟨_, _, _, true, (mark_yes c h 0 (by omega) m g h1 y hy).toBool, (mark_yes c h 0 (by omega) n g h1 y hy).toBool, hI.putA (by omega) (code_lt y)⟩
  · exact ⟨m, n, f, false, (mark_no c h 0 (by omega) m at_ hg y).toBool, (mark_no c h 0 (by omega) n at_ hg y).toBool, hI⟩
theorem mark_b (c : Cnf) (h : c.Ok) (G : Nat) (hG : (G : Int) = 64 * c.s) (f f2 : Nat → Nat) (m n : MemS) (hI : ApI G f f2 m n) (at_ : Int) (y : ThT) (hy : thOk c y) : ∃ m' f2' v, TMark c G at_ y m m' v ∧ ApI G f f2' m' n := by
  have s1 := h.s1
  by_cases hg : grainP c at_
  · obtain ⟨g, h1, rfl⟩ := grain_of hg
    exact ⟨_, _, true, (mark_yes c h G (by omega) m g h1 y hy).toBool, hI.putB (by omega) (code_lt y)⟩
  · exact ⟨m, f2, false, (mark_no c h G (by omega) m at_ hg y).toBool, hI⟩
theorem take_a (c : Cnf) (h : c.Ok) (G : Nat) (hG : (G : Int) = 64 * c.s) (f f2 : Nat → Nat) (m n : MemS) (hI : ApI G f f2 m n) (at_ : Int) : ∃ m' n' f' x v, TTake c 0 at_ m m' x v ∧ TTake c 0 at_ n n' x v ∧ ApI G f' f2 m' n' := by
  by_cases hg : grainP c at_
  · obtain ⟨g, h1, rfl⟩ := grain_of hg
    exact ⟨_, _, _, _, _, take_yes c h 0 (by omega) m g h1 (f g) (hI.ga (by omega)) (hI.h1 g), take_yes c h 0 (by omega) n g h1 (f g) (hI.gn (by omega)) (hI.h1 g), hI.putA (x := 0) (by omega) (by omega)⟩
  · exact ⟨m, n, f, (0, 0), false, (take_no c h 0 (by omega) m at_ hg).tupBool, (take_no c h 0 (by omega) n at_ hg).tupBool, hI⟩
theorem take_b (c : Cnf) (h : c.Ok) (G : Nat) (hG : (G : Int) = 64 * c.s) (f f2 : Nat → Nat) (m n : MemS) (hI : ApI G f f2 m n) (at_ : Int) : ∃ m' f2' x v, TTake c G at_ m m' x v ∧ ApI G f f2' m' n := by
  have s1 := h.s1
  by_cases hg : grainP c at_
  · obtain ⟨g, h1, rfl⟩ := grain_of hg
    exact ⟨_, _, _, _, take_yes c h G (by omega) m g h1 (f2 g) (hI.gb (by omega)) (hI.h2 g), hI.putB (x := 0) (by omega) (by omega)⟩
  · exact ⟨m, f2, (0, 0), false, (take_no c h G (by omega) m at_ hg).tupBool, hI⟩
end Go.Proofs.YtokblanedeiegaaDoor.E

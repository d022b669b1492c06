/- Which systems may be: the plain law, and the contracts of the document's May and of conf.Check. -/
import Derived.Test.YtbfokghhnhlfgaaBase
import Derived.Test.YtbfokghhnhlfgaaOpen
namespace Go.Proofs.Ytbfokghhnhlfgaa
open Go.RowKit

/-- A system's numbers and classes. -/
structure Cfg where
  workers : Int
  supers : Int
  batch : Int
  tries : Int
  classes : List Int

def okC : Int → List Int → Bool
  | _, [] => true
  | last, n :: r => decide (last < n) && decide (n ≤ 512) && decide (n % 16 = 0) && okC n r
/-- The numbers alone. -/
def Cfg.numOk (c : Cfg) : Bool := decide (1 ≤ c.workers ∧ c.workers ≤ 64 ∧ 1 ≤ c.supers ∧ c.supers ≤ 64 ∧ 1 ≤ c.batch ∧ c.batch ≤ 64 ∧ 0 ≤ c.tries ∧ c.tries ≤ 8 ∧ 1 ≤ c.classes.length ∧ c.classes.length ≤ 16)
def Cfg.may (c : Cfg) : Bool := c.numOk && okC 0 c.classes
/-- The i-th class is right, beside the one ahead of it. -/
def mayAt (xs : List Int) (i : Nat) : Bool := decide (16 ≤ xs.getD i 0 ∧ xs.getD i 0 ≤ 512 ∧ xs.getD i 0 % 16 = 0 ∧ (i = 0 ∨ xs.getD (i - 1) 0 < xs.getD i 0))
def mayUpto (xs : List Int) : Nat → Bool
  | 0 => true
  | k + 1 => mayUpto xs k && mayAt xs k

theorem okC_iff (xs : List Int) : ∀ (last : Int), okC last xs = true ↔ ∀ i, i < xs.length → xs.getD i 0 ≤ 512 ∧ xs.getD i 0 % 16 = 0 ∧ (if i = 0 then last else xs.getD (i - 1) 0) < xs.getD i 0 := by
  induction xs with
  | nil => intro last; simp [okC]
  | cons n r ih =>
    intro last
    simp only [okC, Bool.and_eq_true, decide_eq_true_eq, ih n]
    constructor
    · rintro ⟨⟨⟨h1, h2⟩, h3⟩, h4⟩ i hi
      cases i with
      | zero => simpa using ⟨h2, h3, h1⟩
      | succ i =>
        have := h4 i (by simpa using hi)
        cases i with
        | zero => simpa using this
        | succ i => simpa using this
    · intro h
      have h0 := h 0 (by simp)
      simp only [if_true, List.getD_cons_zero] at h0
      refine ⟨⟨⟨h0.2.2, h0.1⟩, h0.2.1⟩, fun i hi => ?_⟩
      have := h (i + 1) (by simpa using hi)
      cases i with
      | zero => simpa using this
      | succ i => simpa using this
theorem mayUpto_iff (xs : List Int) (k : Nat) : mayUpto xs k = true ↔ ∀ i, i < k → mayAt xs i = true := by
  induction k with
  | zero => simp [mayUpto]
  | succ k ih =>
    simp only [mayUpto, Bool.and_eq_true, ih]
    exact ⟨fun ⟨h1, h2⟩ i hi => by rcases Nat.lt_succ_iff_lt_or_eq.1 hi with h | rfl; exact h1 i h; exact h2, fun h => ⟨fun i hi => h i (by omega), h k (by omega)⟩⟩
theorem mayUpto_okC (xs : List Int) : mayUpto xs xs.length = okC 0 xs := by
  rw [Bool.eq_iff_iff, mayUpto_iff, okC_iff]
  constructor
  · intro h i hi
    have := h i hi
    simp only [mayAt, decide_eq_true_eq] at this
    refine ⟨this.2.1, this.2.2.1, ?_⟩
    split
    · omega
    · rcases this.2.2.2 with h | h; contradiction; exact h
  · intro h
    have pos : ∀ i, i < xs.length → 0 < xs.getD i 0 := by
      intro i
      induction i with
      | zero => intro hi; have := (h 0 hi).2.2; simpa using this
      | succ i ih => intro hi; have := (h (i + 1) hi).2.2; have := ih (by omega); simp at *; omega
    intro i hi
    have h1 := h i hi
    have h2 := pos i hi
    simp only [mayAt, decide_eq_true_eq]
    refine ⟨by omega, h1.1, h1.2.1, ?_⟩
    by_cases h0 : i = 0
    · exact .inl h0
    · have := h1.2.2; rw [if_neg h0] at this; exact .inr this

/-- A system as a value: its classes lie at a. -/
def Cfg.val (c : Cfg) (a : Option Addr) (cap : Nat) : Value := .agg #[.int .i64 c.workers, .int .i64 c.supers, .int .i64 c.batch, .int .i64 c.tries, .slice a c.classes.length cap]
structure IsCfg (w : World) (c : Cfg) (a : Option Addr) (cap : Nat) : Prop where
  rd : RdInts w .i64 a c.classes.length cap c.classes
theorem RdInts.kept {w w1 : World} {k : IntKind} {a : Option Addr} {len cap : Nat} {xs : List Int} {S : List Nat} (h : RdInts w k a len cap xs) (hk : Stp S w w1) (hS : ∀ b, a.map (·.block) = some b → b ∉ S) : RdInts w1 k a len cap xs :=
  ⟨h.n, h.le, h.most, h.nil, fun i hi => by
    obtain ⟨b, off, ha, hb, hc⟩ := h.cell i hi
    exact ⟨b, off, ha, Nat.lt_of_lt_of_le hb hk.size, hk.cell hc (hS b (by rw [ha]; rfl))⟩, h.wf⟩
theorem IsCfg.kept {w w1 : World} {c : Cfg} {a : Option Addr} {cap : Nat} (h : IsCfg w c a cap) (hk : Stp [] w w1) : IsCfg w1 c a cap := ⟨h.rd.kept hk (by simp)⟩
end Go.Proofs.Ytbfokghhnhlfgaa

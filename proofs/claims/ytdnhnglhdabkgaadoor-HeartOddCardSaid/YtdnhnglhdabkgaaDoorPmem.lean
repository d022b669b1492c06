/- Package mem: its plain model, and the contract of each method. -/
import Derived.Test.YtdnhnglhdabkgaaDoorEn
namespace Go.Proofs.YtdnhnglhdabkgaaDoor.E
set_option linter.unusedSimpArgs false
set_option linter.unusedVariables false
open Go
set_option maxRecDepth 100000

structure MemS where
  words : List Int
  ops : Int
  faults : Int
  lk : Int
  la : Int
def inc (x : Int) : Int := IntKind.i64.wrap (x + 1)
namespace MemS
def inr (m : MemS) (a : Int) : Prop := 0 ≤ a ∧ a < m.words.length
instance (m : MemS) (a : Int) : Decidable (m.inr a) := by unfold inr; infer_instance
def get (m : MemS) (a : Int) : Int := if m.inr a then m.words.getD a.toNat 0 else 0
/-- An access: how, and where. -/
def acc (m : MemS) (k a : Int) : MemS := { m with ops := inc m.ops, faults := if m.inr a then m.faults else inc m.faults, lk := k, la := a }
def put (m : MemS) (a x : Int) : MemS := { m with words := if m.inr a then m.words.set a.toNat x else m.words }
theorem acc_in {m : MemS} {a : Int} (h : m.inr a) (k : Int) : m.acc k a = { m with ops := inc m.ops, lk := k, la := a } := by simp [acc, h]
theorem acc_out {m : MemS} {a : Int} (h : ¬ m.inr a) (k : Int) : m.acc k a = { m with ops := inc m.ops, faults := inc m.faults, lk := k, la := a } := by simp [acc, h]
theorem get_in {m : MemS} {a : Int} (h : m.inr a) : m.get a = m.words.getD a.toNat 0 := by simp [get, h]
theorem get_out {m : MemS} {a : Int} (h : ¬ m.inr a) : m.get a = 0 := by simp [get, h]
theorem put_in {m : MemS} {a : Int} (h : m.inr a) (x : Int) : m.put a x = { m with words := m.words.set a.toNat x } := by simp [put, h]
theorem put_out {m : MemS} {a : Int} (h : ¬ m.inr a) (x : Int) : m.put a x = m := by simp [put, h]
/-- What an access leaves, and a put. -/
theorem put_words {m : MemS} {a : Int} (h : m.inr a) (k x : Int) : ((m.acc k a).put a x).words = m.words.set a.toNat x := by rw [put_in (m := m.acc k a) h]; rfl
theorem put_len (m : MemS) (a k x : Int) : ((m.acc k a).put a x).words.length = m.words.length := by
  by_cases h : m.inr a
  · rw [put_words h]; simp
  · rw [put_out (m := m.acc k a) h]; rfl
theorem put_ops (m : MemS) (a k x : Int) : ((m.acc k a).put a x).ops = inc m.ops := rfl
theorem put_faults {m : MemS} {a : Int} (h : m.inr a) (k x : Int) : ((m.acc k a).put a x).faults = m.faults := by show (m.acc k a).faults = _; rw [acc_in h]
theorem acc_words (m : MemS) (a k : Int) : (m.acc k a).words = m.words := rfl
theorem acc_ops (m : MemS) (a k : Int) : (m.acc k a).ops = inc m.ops := rfl
theorem acc_faults {m : MemS} {a : Int} (h : m.inr a) (k : Int) : (m.acc k a).faults = m.faults := by rw [acc_in h]
end MemS
theorem inc_nat {n : Nat} (h : n ≤ 1000000000000) : inc n = (n + 1 : Nat) := by unfold inc; rw [w64 (by omega) (by omega)]; omega
/-- The memory's struct, its words in object j; its words. -/
def memC (j : Nat) (m : MemS) : AObj := .cells [.slice j 0 m.words.length, .int .i64 m.ops, .int .i64 m.faults, .int .i64 m.lk, .int .i64 m.la]
def memT (m : MemS) : AObj := .tab true (.int .u64) m.words

end Go.Proofs.YtdnhnglhdabkgaaDoor.E

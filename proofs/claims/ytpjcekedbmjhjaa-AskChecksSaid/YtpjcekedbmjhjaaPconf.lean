/- Package conf: the contract of each function. -/
import Derived.Test.YtpjcekedbmjhjaaEn
namespace Go.Proofs.Ytpjcekedbmjhjaa.E
open Go
set_option maxRecDepth 100000

/-- A way that a system may be. -/
structure Cnf where
  w : Int
  s : Int
  b : Int
  t : Int
  cl : List Int
def cnfA (j : Nat) (c : Cnf) : AV := .agg [.int .i64 c.w, .int .i64 c.s, .int .i64 c.b, .int .i64 c.t, .slice j 0 c.cl.length]
def okN (last n : Int) : Prop := last < n ∧ n ≤ 512 ∧ n % 16 = 0
instance (last n : Int) : Decidable (okN last n) := by unfold okN; infer_instance
def okL (last : Int) : List Int → Prop
  | [] => True
  | n :: l => okN last n ∧ okL n l
instance okL_dec : ∀ (l : List Int) (last : Int), Decidable (okL last l)
  | [], _ => .isTrue trivial
  | n :: l, last => @instDecidableAnd (okN last n) (okL n l) _ (okL_dec l n)
instance (last : Int) (l : List Int) : Decidable (okL last l) := okL_dec l last
structure Cnf.Small (c : Cnf) : Prop where
  w0 : 1 ≤ c.w
  w1 : c.w ≤ 64
  s0 : 1 ≤ c.s
  s1 : c.s ≤ 64
  b0 : 1 ≤ c.b
  b1 : c.b ≤ 64
  t0 : 0 ≤ c.t
  t1 : c.t ≤ 8
structure Cnf.Ok (c : Cnf) : Prop extends c.Small where
  l0 : 1 ≤ c.cl.length
  l1 : c.cl.length ≤ 16
  ok : okL 0 c.cl
theorem okL_drop {l : List Int} {k : Nat} {last : Int} (h : k < l.length) : okL last (l.drop k) ↔ okN last (l.getD k 0) ∧ okL (l.getD k 0) (l.drop (k + 1)) := by
  rw [List.drop_eq_getElem_cons h]
  simp [okL, List.getD, h]
end Go.Proofs.Ytpjcekedbmjhjaa.E

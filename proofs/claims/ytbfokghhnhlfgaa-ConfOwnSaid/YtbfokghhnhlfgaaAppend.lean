/- append onto a row of the call's own, from whatever source: as one law, for a plain list of operations and for a step of a region that draws its order. -/
import Derived.Test.YtbfokghhnhlfgaaBase
import Derived.Maps.AppendAt
import Derived.Deep.RegionHeld3
import Derived.Deep.AppendLies
import Derived.ArgAppend
namespace Go.Proofs.Ytbfokghhnhlfgaa
open Go.RowKit

/-- What an append leaves. -/
structure App (w w' : World) (base : Nat) (e : TypeId) (size : Nat) (v v' : Value) (n m : Nat) (xs news : List Value) : Prop where
  own : w'.ownsRow base e size v' (n + m) (xs ++ news)
  stp : Stp v.ownBlock.toList w w'
  loc : v'.ownBlock = v.ownBlock ∨ v'.ownBlock = some w.heap.size
  nil : v' = .slice none 0 0 ↔ v = .slice none 0 0 ∧ m = 0

theorem stp_grown {w w' : World} {row : Option Nat} (h : w.grownBy w' row) : Stp row.toList w w' :=
  ⟨h.os, h.tape, h.output, h.size, fun k hk hn => h.block k hk (fun he => hn (by simp [← he]))⟩

/-- The source of an append: m elements whose cells are news, at ao. -/
structure Src (w : World) (ao : Option Addr) (m c size : Nat) (news : List Value) : Prop where
  len : news.length = m * size
  noAddr : ao = none → m = 0 ∧ c = 0
  cell : ∀ ad, ao = some ad → ∀ j u, news[j]? = some u → w.cell? (ad.add j) = some u
  one : ∀ u, u ∈ news → u.oneCell' = true

section
variable {P : Program} {w : World} {o : Oper} {a : Act} {Q : Exit → Act → World → Prop} {t e : TypeId} {i : TypeInfo} {z v : Value} {size bytes base n m c : Nat} {xs news : List Value} {ao : Option Addr}
theorem run_app (ty : TypeId) (ht : P.underlying t = some (.slice e)) (hi : P.info? e = some i) (hz : i.zero = some z) (hsize : i.size = size) (hby : i.bytes = bytes) (hzs : z.cells.size = size) (hsz : 0 < size)
    (hown : w.ownsRow base e size v n xs) (hsrc : Src w ao m c size news) (h63 : n + m ≤ maxLen) (hbytes : (n + m) * bytes ≤ 140737488355328) (hbase : base ≤ w.heap.size) :
    ∃ v' w', (Builtin.append_ #[t, t] ty #[v, .slice ao m c]).run P w = .ok v' w' ∧ App w w' base e size v v' n m xs news := by
  cases ao with
  | none =>
    obtain ⟨rfl, rfl⟩ := hsrc.noAddr rfl
    have hl : news = [] := List.eq_nil_of_length_eq_zero (by simpa using hsrc.len)
    subst hl
    exact ⟨v, w, run_append_owned_none w base t ty e i size ht hi v n xs hown, ⟨by simpa using hown, Stp.refl _ _, .inl rfl, by simp⟩⟩
  | some ad =>
    obtain ⟨v', w', hr, h2, h3, h4, h5⟩ := run_append_own_at (P := P) w base t ty e i z size bytes ht hi hz hsize hby hzs hsz v n xs hown ad m c news hsrc.len (hsrc.cell ad rfl) hsrc.one h63 hbytes hbase
    exact ⟨v', w', hr, ⟨h2, stp_grown h3, h5, h4⟩⟩

theorem wp_app {K : Act → World → Prop} (s x : Operand) (ho : o.op = .call { callee := .builtin .append, args := #[s, x], argTypes := #[t, t] })
    (ht : P.underlying t = some (.slice e)) (hi : P.info? e = some i) (hz : i.zero = some z) (hsize : i.size = size) (hby : i.bytes = bytes) (hzs : z.cells.size = size) (hsz : 0 < size)
    (hs : a.eval s = v) (hx : a.eval x = .slice ao m c) (hown : w.ownsRow base e size v n xs) (hsrc : Src w ao m c size news) (h63 : n + m ≤ maxLen) (hbytes : (n + m) * bytes ≤ 140737488355328) (hbase : base ≤ w.heap.size)
    (h : ∀ v' w', App w w' base e size v v' n m xs news → K (a.put o.dst v') w') : o.wp P a w K Q := by
  obtain ⟨v', w', hr, h2⟩ := run_app (P := P) (ao := ao) o.type ht hi hz hsize hby hzs hsz hown hsrc h63 hbytes hbase
  unfold Oper.wp execOp
  simp only [ho, resolve, invoke, builtin, Sem.run_bind, Sem.run_pure, Result.andThen_ok, List.map_toArray, List.map_cons, List.map_nil, hs, hx, hr]
  exact h v' w' h2

/-- .. at the list of a plain region's operations. -/
theorem wpList_app {ops : Array Oper} {rest : List Oper} (hgd : o.guard = none) (s x : Operand) (ho : o.op = .call { callee := .builtin .append, args := #[s, x], argTypes := #[t, t] })
    (ht : P.underlying t = some (.slice e)) (hi : P.info? e = some i) (hz : i.zero = some z) (hsize : i.size = size) (hby : i.bytes = bytes) (hzs : z.cells.size = size) (hsz : 0 < size)
    (hs : a.eval s = v) (hx : a.eval x = .slice ao m c) (hown : w.ownsRow base e size v n xs) (hsrc : Src w ao m c size news) (h63 : n + m ≤ maxLen) (hbytes : (n + m) * bytes ≤ 140737488355328) (hbase : base ≤ w.heap.size)
    (h : ∀ v' w', App w w' base e size v v' n m xs news → wpList P ops Q rest (a.put o.dst v') w') : wpList P ops Q (o :: rest) a w :=
  wpList_plain hgd fun _ hK => wp_app s x ho ht hi hz hsize hby hzs hsz hs hx hown hsrc h63 hbytes hbase fun v' w' h2 => hK _ _ (h v' w' h2)

/-- .. at a step of a region that draws its order. -/
theorem step_app {ops : Array Oper} {K : Act → World → Prop} {E : Prop} (hgd : o.guard = none) (s x : Operand) (ho : o.op = .call { callee := .builtin .append, args := #[s, x], argTypes := #[t, t] })
    (ht : P.underlying t = some (.slice e)) (hi : P.info? e = some i) (hz : i.zero = some z) (hsize : i.size = size) (hby : i.bytes = bytes) (hzs : z.cells.size = size) (hsz : 0 < size)
    (hs : a.eval s = v) (hx : a.eval x = .slice ao m c) (hown : w.ownsRow base e size v n xs) (hsrc : Src w ao m c size news) (h63 : n + m ≤ maxLen) (hbytes : (n + m) * bytes ≤ 140737488355328) (hbase : base ≤ w.heap.size)
    (h : ∀ v' w', App w w' base e size v v' n m xs news → K (a.put o.dst v') w') : if Region.wanted o (yielded ops a.tmps) = true then Oper.wp P o a w K Q else E := by
  have hw : Region.wanted o (yielded ops a.tmps) = true := by simp [Region.wanted, hgd]
  rw [if_pos hw]
  exact wp_app s x ho ht hi hz hsize hby hzs hsz hs hx hown hsrc h63 hbytes hbase h
end

/-- A new block as a source. -/
theorem Src.blk {w : World} {B m c size : Nat} {cs : Array Value} {t : TypeId} {fr : Nat × Nat} {news : List Value} (hb : w.heap[B]? = some (.cells cs t fr)) (hn : news = cs.toList) (hl : news.length = m * size) (h1 : ∀ u, u ∈ news → u.oneCell' = true) : Src w (some ⟨B, 0, none⟩) m c size news :=
  ⟨hl, by simp, fun ad had => by cases had; subst hn; exact World.news_of_block hb, h1⟩
theorem Src.own {w : World} {base n cap size : Nat} {e : TypeId} {a : Option Addr} {xs : List Value} (h : w.ownsRow base e size (.slice a n cap) n xs) (h1 : ∀ u, u ∈ xs → u.oneCell' = true) (hc : a = none → cap = 0) : Src w a n cap size xs := by
  refine ⟨h.1, fun ha => ⟨?_, hc ha⟩, fun ad had j u hu => ?_, h1⟩
  · subst ha
    rcases h.2 with ⟨_, h0⟩ | ⟨g, _, _, hv, _⟩
    · exact h0
    · cases hv
  · subst had
    rcases h.2 with ⟨hv, _⟩ | ⟨g, cap', cur, hv, _, hh, _, _, _, ht⟩
    · cases hv
    · simp only [Value.slice.injEq, Option.some.injEq] at hv
      obtain ⟨rfl, _, rfl⟩ := hv
      have hj : j < n * size := by have := (List.getElem?_eq_some_iff.1 hu).1; have := h.1; omega
      rw [← ht, List.getElem?_take_of_lt hj] at hu
      exact World.news_of_block hh j u hu
theorem own_nil_cap {w : World} {base n cap size : Nat} {e : TypeId} {a : Option Addr} {xs : List Value} (h : w.ownsRow base e size (.slice a n cap) n xs) (ha : a = none) : cap = 0 := by
  subst ha
  rcases h.2 with ⟨hv, _⟩ | ⟨g, _, _, hv, _⟩
  · cases hv; rfl
  · cases hv
/-- An empty row in a new block: '[]T{}'. -/
theorem own_empty {w : World} {d size base : Nat} {e : TypeId} (hb : w.heap[d]? = some (.cells #[] e (0, 0))) (hd : base ≤ d) : w.ownsRow base e size (.slice (some ⟨d, 0, none⟩) 0 0) 0 [] :=
  ⟨by simp, .inr ⟨d, 0, #[], rfl, hd, hb, Nat.le_refl _, Nat.zero_le _, by simp, by simp⟩⟩
theorem own_nil0 (w : World) (base : Nat) (e : TypeId) (size : Nat) : w.ownsRow base e size (.slice none 0 0) 0 [] := ⟨by simp, .inl ⟨rfl, rfl⟩⟩
theorem oneCell_ints (k : IntKind) (zs : List Int) : ∀ u, u ∈ zs.map (Value.int k) → u.oneCell' = true := ints_oneCell k zs
end Go.Proofs.Ytbfokghhnhlfgaa

/- Opening arguments: whatever reads as data of a plain type (integers, bools, structs, arrays, slices of such) is told cell by cell. -/
import Derived.ProofKit
import Derived.OpenShut
import Derived.Below
import Derived.Carry
import Derived.SizedLaws
import Derived.Deep.Slices
namespace Go.Proofs.Ytbfokghhnhlfgaa
open Go.RowKit Go.ChangeShapes Go.WideShapes

/-- The plain types. -/
inductive Sh where
  | int (k : IntKind)
  | bool
  | unit
  | pair (a b : Sh)
  | slice (e : Sh)

def Sh.size : Sh → Nat
  | .int _ => 1
  | .bool => 1
  | .unit => 0
  | .pair a b => a.size + b.size
  | .slice _ => 1

def Sh.rep (e : Sh) : Nat → Sh
  | 0 => .unit
  | n + 1 => .pair e (e.rep n)

/-- A slice's elements, cell by cell. -/
def RowsAt (w : World) (a : Option Addr) (sz : Nat) (rows : List (List Value)) : Prop :=
  ∀ i r, rows[i]? = some r → ∃ b off, a = some ⟨b, off, none⟩ ∧ b < w.heap.size ∧ ∀ j u, r[j]? = some u → w.cell? ⟨b, off + (i * sz + j), none⟩ = some u

def Fits (w : World) : Sh → List Value → Prop
  | .int k, cs => ∃ n, cs = [.int k n] ∧ (Lit.int k n).wf = true
  | .bool, cs => ∃ b, cs = [.bool b]
  | .unit, cs => cs = []
  | .pair a b, cs => ∃ c1 c2, cs = c1 ++ c2 ∧ Fits w a c1 ∧ Fits w b c2
  | .slice e, cs => ∃ a len cap rows, cs = [.slice a len cap] ∧ len ≤ cap ∧ cap ≤ maxLen ∧ (a = none → len = 0 ∧ cap = 0) ∧ rows.length = len ∧ (∀ r, r ∈ rows → Fits w e r) ∧ (0 < e.size → RowsAt w a e.size rows)

theorem Fits.len {w : World} : ∀ {s : Sh} {cs : List Value}, Fits w s cs → cs.length = s.size
  | .int _, _, h => by obtain ⟨_, rfl, _⟩ := h; rfl
  | .bool, _, h => by obtain ⟨_, rfl⟩ := h; rfl
  | .unit, _, h => by cases h; rfl
  | .pair _ _, _, h => by obtain ⟨_, _, rfl, h1, h2⟩ := h; simp [Sh.size, h1.len, h2.len]
  | .slice _, _, h => by obtain ⟨_, _, _, _, rfl, _⟩ := h; rfl

def shapeFields (sh : TypeId → Option Sh) : Nat → List Field → Option Sh
  | _, [] => some .unit
  | off, f :: r => if f.offset = off then (sh f.type).bind fun a => (shapeFields sh (off + a.size) r).map fun b => .pair a b else none

/-- A type's shape; none: it is no plain one. -/
def shape (P : Program) : Nat → TypeId → Option Sh
  | 0, _ => none
  | n + 1, t =>
    let s : Option Sh := match P.underlying t with
      | some .bool => some .bool
      | some (.int k) => some (.int k)
      | some (.slice e) => (shape P n e).map .slice
      | some (.struct fs) => shapeFields (shape P n) 0 fs.toList
      | some (.array m e) => (shape P n e).map (·.rep m)
      | _ => none
    s.bind fun s => if P.cellsOf t = s.size then some s else none

section
variable {H : Type} {enc : TypeId × Value → H} {P : Program} {w : World} {base : Nat} {spare : Nat → Bool} {held : Bool}

theorem shape_cells {n : Nat} {t : TypeId} {s : Sh} (h : shape P n t = some s) : P.cellsOf t = s.size := by
  cases n with
  | zero => simp [shape] at h
  | succ n =>
    unfold shape at h
    obtain ⟨s', _, hs⟩ := Option.bind_eq_some_iff.1 h
    split at hs
    · cases hs; assumption
    · cases hs

theorem fields_fit {sh : TypeId → Option Sh} {cs : List Value} (hsz : ∀ t s, sh t = some s → P.cellsOf t = s.size)
    {tr : TypeId → List Value → Prop} (hfit : ∀ t s c, sh t = some s → tr t c → Fits w s c) :
    ∀ (l : List Field) (off : Nat) (s : Sh), shapeFields sh off l = some s → (∀ f, f ∈ l → tr f.type ((cs.drop f.offset).take (P.cellsOf f.type))) → off + s.size ≤ cs.length → Fits w s ((cs.drop off).take s.size)
  | [], off, s, h, _, _ => by simp only [shapeFields, Option.some.injEq] at h; subst h; simp [Fits, Sh.size]
  | f :: r, off, s, h, ht, hle => by
    unfold shapeFields at h
    split at h
    case isFalse => cases h
    case isTrue ho =>
      obtain ⟨a, ha, h2⟩ := Option.bind_eq_some_iff.1 h
      obtain ⟨b, hb, rfl⟩ := Option.map_eq_some_iff.1 h2
      simp only [Sh.size] at hle
      have h1 := hfit f.type a _ ha (ht f (by simp))
      rw [ho, hsz _ _ ha] at h1
      have h3 := fields_fit hsz hfit r (off + a.size) b hb (fun f hf => ht f (by simp [hf])) (by omega)
      refine ⟨_, _, ?_, h1, h3⟩
      simp only [Sh.size]
      rw [List.take_add, List.drop_drop]

theorem rep_fit {e : Sh} {cs : List Value} (m : Nat) (h : ∀ i, i < m → Fits w e ((cs.drop (i * e.size)).take e.size)) : ∀ (k i : Nat), i + k = m → Fits w (e.rep k) ((cs.drop (i * e.size)).take (e.rep k).size)
  | 0, i, _ => by simp [Sh.rep, Fits, Sh.size]
  | k + 1, i, hk => by
    refine ⟨_, _, ?_, h i (by omega), rep_fit m h k (i + 1) (by omega)⟩
    simp only [Sh.rep, Sh.size]
    rw [List.take_add, List.drop_drop, Nat.succ_mul]

theorem rep_size (e : Sh) (m : Nat) : (e.rep m).size = m * e.size := by
  induction m with
  | zero => simp [Sh.rep, Sh.size]
  | succ n ih => simp [Sh.rep, Sh.size, ih, Nat.succ_mul, Nat.add_comm]

theorem cells_at {a : Addr} {n : Nat} {cs : List Value} (h : w.cells? base a n = some cs) : cs.length = n ∧ ∀ j u, cs[j]? = some u → w.cell? (a.add j) = some u := by
  unfold World.cells? at h
  split at h
  case isFalse => cases h
  case isTrue =>
    have hl := mapM_some_length h
    refine ⟨by simpa using hl, fun j u hu => ?_⟩
    have hj : j < n := by have := (List.getElem?_eq_some_iff.1 hu).1; simp at hl; omega
    have := mapM_some_get h j j (by simp [hj])
    rw [this, hu]

theorem addr_form {a : Addr} {u : Value} (h : w.cell? a = some u) : a = ⟨a.block, a.off, none⟩ := by
  obtain ⟨b, o, s⟩ := a
  unfold World.cell? at h
  cases s with
  | none => rfl
  | some x =>
    exfalso
    revert h
    cases w.heap[b]? with
    | none => simp
    | some o => cases o <;> simp

theorem shape_fits : ∀ (n : Nat) (t : TypeId) (s : Sh), shape P n t = some s → ∀ (fuel : Nat) (cs : List Value) (x : DataW H × List MemPlace), DataW.trod enc P w base spare held fuel t cs = some x → Fits w s cs
  | 0, _, _, h, _, _, _, _ => by simp [shape] at h
  | n + 1, t, s, h, fuel, cs, x, hx => by
    have hc := shape_cells h
    unfold shape at h
    obtain ⟨s', h1, h2⟩ := Option.bind_eq_some_iff.1 h
    split at h2
    case isFalse => cases h2
    case isTrue hcc =>
    cases h2
    split at h1
    · rename_i hu
      cases h1
      obtain ⟨b, rfl, _⟩ := DataW.trod_bool hu hx
      exact ⟨b, rfl⟩
    · rename_i k hu
      cases h1
      obtain ⟨m, rfl, _, hw⟩ := DataW.trod_int hu hx
      exact ⟨m, rfl, hw⟩
    · rename_i e hu
      obtain ⟨se, he, rfl⟩ := Option.map_eq_some_iff.1 h1
      have hce := shape_cells he
      rcases DataW.trod_slice hu hx with ⟨rfl, _⟩ | ⟨a, len, cap, elems, rest, m, _, rfl, _, hb, hlc, hcm, hel, hev, _, _⟩
      · exact ⟨none, 0, 0, [], rfl, Nat.le_refl _, Nat.zero_le _, fun _ => ⟨rfl, rfl⟩, rfl, by simp, fun _ i r hr => by simp at hr⟩
      · have hrow : ∀ i, i < len → ∃ r, w.cells? base (a.add (i * se.size)) se.size = some r ∧ Fits w se r := by
          intro i hi
          have h3 := hev i hi
          rw [hce] at h3
          have h4 : (elems[i]?).isSome := by simp [hel, hi]
          rw [← h3] at h4
          obtain ⟨y, hy⟩ := Option.isSome_iff_exists.1 h4
          obtain ⟨r, hr, hy2⟩ := Option.bind_eq_some_iff.1 hy
          exact ⟨r, hr, shape_fits n e se he _ _ _ hy2⟩
        obtain ⟨f, hf⟩ := Deep.choose_lt hrow
        refine ⟨some a, len, cap, (List.range len).map f, rfl, hlc, hcm, by simp, by simp, ?_, ?_⟩
        · intro r hr
          obtain ⟨i, hi, rfl⟩ := List.mem_map.1 hr
          exact (hf i (by simpa using hi)).2
        · intro hpos i r hr
          have hi : i < len := by have := (List.getElem?_eq_some_iff.1 hr).1; simpa using this
          have hr2 : f i = r := by simpa [hi] using hr
          subst hr2
          obtain ⟨hlen, hcell⟩ := cells_at (hf i hi).1
          have h0 : 0 < (f i).length := by omega
          have hc0 := hcell 0 _ (List.getElem?_eq_getElem h0)
          have hform := addr_form hc0
          have ha : a = ⟨a.block, a.off, none⟩ := by
            obtain ⟨hlen0, hcell0⟩ := cells_at (hf 0 (by omega)).1
            have h00 : 0 < (f 0).length := by omega
            have := addr_form (hcell0 0 _ (List.getElem?_eq_getElem h00))
            simpa [Addr.add] using this
          refine ⟨a.block, a.off, by rw [← ha], ?_, ?_⟩
          · have := World.block_lt_of_cell? w _ hc0
            simpa [Addr.add, apply_ite] using this
          · intro j u hu
            have := hcell j u hu
            rw [ha, Addr.add_lit, Addr.add_lit] at this
            rw [← Nat.add_assoc]
            exact this
    · rename_i fs hu
      obtain ⟨xs, m, _, _, hl, hxl, hf⟩ := DataW.trod_struct hu hx
      have := fields_fit (w := w) (P := P) (cs := cs) (sh := shape P n) (tr := fun t c => ∃ y, DataW.trod enc P w base spare held m t c = some y) (fun t s h => shape_cells h) (fun t s c h1 h2 => by obtain ⟨y, hy⟩ := h2; exact shape_fits n t s h1 _ _ _ hy)
        fs.toList 0 s h1 (fun f hfm => by
          obtain ⟨i, hi⟩ := List.mem_iff_getElem?.1 hfm
          have h3 := hf i f (by simpa using hi)
          have hlt : i < fs.size := by have := (List.getElem?_eq_some_iff.1 hi).1; simpa using this
          exact ⟨xs[i]'(by omega), by rw [h3]; exact List.getElem?_eq_getElem _⟩) (by omega)
      rwa [List.drop_zero, List.take_of_length_le (by omega)] at this
    · rename_i m e hu
      obtain ⟨se, he, rfl⟩ := Option.map_eq_some_iff.1 h1
      have hce := shape_cells he
      obtain ⟨xs, q, _, _, hl, hxl, hf⟩ := DataW.trod_array hu hx
      have := rep_fit (w := w) (e := se) (cs := cs) m (fun i hi => by
        have h3 := hf i hi
        rw [hce] at h3
        exact shape_fits n e se he _ _ (xs[i]'(by omega)) (by rw [h3]; exact List.getElem?_eq_getElem _)) m 0 (by omega)
      rwa [Nat.zero_mul, List.drop_zero, List.take_of_length_le (by omega)] at this
    · cases h1
end

theorem okWide_array' {P : Program} {w : World} {r : Reach} {base : Nat} {t : TypeId} {v : Value} {m : Nat} {e : TypeId} (ht : P.underlying t = some (.array m e)) (h : Value.okWide P w r base t v) : ∃ cs, v = .agg cs ∧ cs.size = P.cellsOf t := by
  unfold Value.okWide at h
  rw [ht] at h
  obtain ⟨cs, h1, h2, _⟩ := h
  exact ⟨cs, h1, h2⟩

/-- A list of rows, by what each holds. -/
theorem rows_map {α : Type} {f : α → List Value} {p : α → Prop} : ∀ {rows : List (List Value)}, (∀ r, r ∈ rows → ∃ y, r = f y ∧ p y) → ∃ ys : List α, rows = ys.map f ∧ ∀ y, y ∈ ys → p y
  | [], _ => ⟨[], rfl, by simp⟩
  | r :: rs, h => by
    obtain ⟨y, rfl, hp⟩ := h r (by simp)
    obtain ⟨ys, rfl, hps⟩ := rows_map (rows := rs) (fun r hr => h r (by simp [hr]))
    exact ⟨y :: ys, rfl, by simpa using ⟨hp, hps⟩⟩

/-- A slice of numbers. -/
structure RdInts (w : World) (k : IntKind) (a : Option Addr) (len cap : Nat) (xs : List Int) : Prop where
  n : xs.length = len
  le : len ≤ cap
  most : cap ≤ maxLen
  nil : a = none → len = 0 ∧ cap = 0
  cell : ∀ i, i < len → ∃ b off, a = some ⟨b, off, none⟩ ∧ b < w.heap.size ∧ w.cell? ⟨b, off + i, none⟩ = some (.int k (xs.getD i 0))
  wf : ∀ x, x ∈ xs → (Lit.int k x).wf = true

theorem Fits.ints {w : World} {k : IntKind} {a : Option Addr} {len cap : Nat} (h : Fits w (.slice (.int k)) [.slice a len cap]) : ∃ xs, RdInts w k a len cap xs := by
  obtain ⟨a', len', cap', rows, hcs, h1, h2, h3, h4, h5, h6⟩ := h
  simp only [List.cons.injEq, Value.slice.injEq, and_true] at hcs
  obtain ⟨rfl, rfl, rfl⟩ := hcs
  obtain ⟨xs, rfl, hwf⟩ := rows_map (f := fun n => [Value.int k n]) (p := fun n => (Lit.int k n).wf = true) h5
  refine ⟨xs, by simpa using h4, h1, h2, h3, ?_, hwf⟩
  intro i hi
  simp only [List.length_map] at h4
  obtain ⟨b, off, ha, hb, hc⟩ := h6 (by show 0 < 1; omega) i [.int k (xs.getD i 0)] (by simp [show i < xs.length by omega])
  exact ⟨b, off, ha, hb, by simpa [Sh.size] using hc 0 _ rfl⟩

/-- A slice of structs (or arrays) of flat cells: element y has the cells f y. -/
structure RdRows {α : Type} (w : World) (f : α → List Value) (sz : Nat) (a : Option Addr) (len cap : Nat) (ys : List α) : Prop where
  n : ys.length = len
  le : len ≤ cap
  most : cap ≤ maxLen
  nil : a = none → len = 0 ∧ cap = 0
  cell : ∀ i y, ys[i]? = some y → ∃ b off, a = some ⟨b, off, none⟩ ∧ b < w.heap.size ∧ ∀ j u, (f y)[j]? = some u → w.cell? ⟨b, off + (i * sz + j), none⟩ = some u

theorem Fits.rows {α : Type} {w : World} {e : Sh} {f : α → List Value} {p : α → Prop} {a : Option Addr} {len cap : Nat} (h : Fits w (.slice e) [.slice a len cap]) (hs : 0 < e.size) (hf : ∀ c, Fits w e c → ∃ y, c = f y ∧ p y) :
    ∃ ys, RdRows w f e.size a len cap ys ∧ ∀ y, y ∈ ys → p y := by
  obtain ⟨a', len', cap', rows, hcs, h1, h2, h3, h4, h5, h6⟩ := h
  simp only [List.cons.injEq, Value.slice.injEq, and_true] at hcs
  obtain ⟨rfl, rfl, rfl⟩ := hcs
  obtain ⟨ys, rfl, hp⟩ := rows_map (f := f) (p := p) (fun r hr => hf r (h5 r hr))
  refine ⟨ys, ⟨by simpa using h4, h1, h2, h3, ?_⟩, hp⟩
  intro i y hy
  exact h6 hs i (f y) (by simp [hy])

end Go.Proofs.Ytbfokghhnhlfgaa

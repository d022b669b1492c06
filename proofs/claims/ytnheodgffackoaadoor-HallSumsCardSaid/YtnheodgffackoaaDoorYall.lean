/- Several texts in one. -/
/- A hall as a plain machine: its words, what each worker is at, and one step of it. -/
namespace Go.Proofs.YtnheodgffackoaaDoor.Y
set_option linter.unusedVariables false
set_option linter.unusedSimpArgs false

abbrev O2 := Int × Int
abbrev Rf := Nat × Nat × Nat
/-- What was done: whose, what was asked, what was answered. -/
abbrev Dn := Nat × O2 × O2
inductive Pc where
  | load | hold | check | copying | recheck | ask | askA | askB | scanning | laying | swing | tellA | tellB | tell | last | lastA | lastB | over
/-- The object, and how many workers. -/
structure Par where
  n : Nat
  W : Nat
  ap : List Int → O2 → List Int × O2
  ok : List Int → Prop
  least : List Int → Nat
  bump : Int → Int
  n0 : 0 < n
  ok_len : ∀ l, ok l → l.length = W
  ok_ap : ∀ l o, ok l → ok (ap l o).1
  least_not : ∀ l, ((least l : Nat) : Int) ∉ l
  least_le : ∀ l, least l ≤ l.length
  bump_ne : ∀ x, bump x ≠ x
def Par.R (P : Par) : Nat := P.W + 3 * P.n
def Par.dn (P : Par) (q : Nat) : Nat := P.W + 3 * q
/-- A hall's words. -/
structure M3 where
  head : Rf
  held : Nat → Option Rf
  asked : Nat → Int
  oa : Nat → Int
  ob : Nat → Int
  rc : Nat → Nat → List Int
/-- A call on its way. -/
structure Cl where
  pc : Pc
  op : O2
  left : Nat
  helped : Bool
  href : Rf
  cp : List Int
  who : Nat
  phase : Int
  wA : Int
  done : List Dn
  used : List Int
  pos : Nat
  tag : Nat
  laid : Nat
  ans : O2
def updF {β : Type} (f : Nat → β) (i : Nat) (x : β) : Nat → β := fun j => if j = i then x else f j
def updR (f : Nat → Nat → List Int) (i s : Nat) (x : List Int) : Nat → Nat → List Int := fun j t => if j = i ∧ t = s then x else f j t
theorem updF_self {β : Type} (f : Nat → β) (i : Nat) (x : β) : updF f i x i = x := if_pos rfl
theorem updF_ne {β : Type} (f : Nat → β) {i j : Nat} (x : β) (h : j ≠ i) : updF f i x j = f j := if_neg h
theorem updR_self (f : Nat → Nat → List Int) (i s : Nat) (x : List Int) : updR f i s x i s = x := if_pos ⟨rfl, rfl⟩
theorem updR_ne (f : Nat → Nat → List Int) {i s j t : Nat} (x : List Int) (h : ¬ (j = i ∧ t = s)) : updR f i s x j t = f j t := if_neg h
/-- The slot of its own record that a worker lays next. -/
def sideC (w : Nat) (r : Rf) : Nat := if r.1 = w ∧ r.2.1 = 0 then 1 else 0
theorem sideC_lt (w : Nat) (r : Rf) : sideC w r < 2 := by unfold sideC; split <;> omega
theorem sideC_ne {w : Nat} {r : Rf} (h : r.1 = w) (h2 : r.2.1 < 2) : r.2.1 ≠ sideC w r := by
  unfold sideC
  split
  · omega
  · rename_i h3; intro h4; exact h3 ⟨h, h4⟩
def Cl.to (c : Cl) (w : Nat) : Rf := (w, sideC w c.href, c.tag)
def slot3 (l : List Int) (d : Nat) : Int × O2 := (l.getD d 0, l.getD (d + 1) 0, l.getD (d + 2) 0)
def put3 (l : List Int) (d : Nat) (x : Int) (a : O2) : List Int := ((l.set d x).set (d + 1) a.1).set (d + 2) a.2
section
variable (P : Par)
/-- Something is done to a copy. -/
def apC (l : List Int) (o : O2) : List Int × O2 := ((P.ap (l.take P.W) o).1 ++ l.drop P.W, (P.ap (l.take P.W) o).2)
def failC (c : Cl) : Cl := { c with left := c.left - 1, pc := if 1 < c.left then .load else if c.helped = true then .last else .tellA }
def ownC (w : Nat) (c : Cl) : Cl := if c.helped = true then c else { c with cp := (apC P c.cp c.op).1, done := c.done ++ [(w, c.op, (apC P c.cp c.op).2)], ans := (apC P c.cp c.op).2 }
def turnC (w : Nat) (c : Cl) : Cl := if c.who + 1 < P.n then { c with who := c.who + 1, pc := .ask } else { ownC P w { c with who := c.who + 1 } with pc := .scanning, used := [], pos := 0 }
def hitC (w s : Nat) : Option Rf → List Int
  | some r => if r.1 = w ∧ r.2.1 = s then [(r.2.2 : Int)] else []
  | none => []
/-- One step of a worker's call: the words behind it, the call, and what was done to the object. -/
def stepC (w : Nat) (M : M3) (c : Cl) : M3 × Cl × List Dn := match c.pc with
  | .load => (M, { c with pc := .hold, href := M.head }, [])
  | .hold => ({ M with held := updF M.held w (some c.href) }, { c with pc := .check }, [])
  | .check => if M.head = c.href then (M, { c with pc := .copying, cp := [] }, []) else (M, failC c, [])
  | .copying => (M, { c with cp := c.cp ++ [(M.rc c.href.1 c.href.2.1).getD c.cp.length 0], pc := if c.cp.length + 1 = P.R then .recheck else .copying }, [])
  | .recheck => if M.head = c.href then
      (if c.helped = true ∧ c.cp.getD (P.dn w) 0 = M.asked w then (M, { c with pc := .over, ans := (slot3 c.cp (P.dn w)).2, done := [], who := 0 }, [])
      else (M, { c with pc := .ask, done := [], who := 0 }, []))
    else (M, failC c, [])
  | .ask => if M.asked c.who = c.cp.getD (P.dn c.who) 0 then (M, turnC P w { c with phase := M.asked c.who }, []) else (M, { c with phase := M.asked c.who, pc := .askA }, [])
  | .askA => (M, { c with wA := M.oa c.who, pc := .askB }, [])
  | .askB => (M, turnC P w { c with cp := put3 (apC P c.cp (c.wA, M.ob c.who)).1 (P.dn c.who) c.phase (apC P c.cp (c.wA, M.ob c.who)).2, done := c.done ++ [(c.who, (c.wA, M.ob c.who), (apC P c.cp (c.wA, M.ob c.who)).2)] }, [])
  | .scanning => (M, { c with used := c.used ++ hitC w (sideC w c.href) (M.held c.pos), pos := c.pos + 1, tag := P.least (c.used ++ hitC w (sideC w c.href) (M.held c.pos)), laid := 0, pc := if c.pos + 1 = P.n then .laying else .scanning }, [])
  | .laying => ({ M with rc := updR M.rc w (sideC w c.href) ((M.rc w (sideC w c.href)).set c.laid (c.cp.getD c.laid 0)) }, { c with laid := c.laid + 1, pc := if c.laid + 1 = P.R then .swing else .laying }, [])
  | .swing => if M.head = c.href then ({ M with head := c.to w }, { c with pc := .over, ans := if c.helped = true then (slot3 c.cp (P.dn w)).2 else c.ans }, c.done) else (M, failC c, [])
  | .tellA => ({ M with oa := updF M.oa w c.op.1 }, { c with pc := .tellB }, [])
  | .tellB => ({ M with ob := updF M.ob w c.op.2 }, { c with pc := .tell }, [])
  | .tell => ({ M with asked := updF M.asked w (P.bump (M.asked w)) }, { c with pc := .load, helped := true, left := 2 }, [])
  | .last => (M, { c with pc := .lastA, href := M.head }, [])
  | .lastA => (M, { c with pc := .lastB, ans := ((M.rc c.href.1 c.href.2.1).getD (P.dn w + 1) 0, c.ans.2) }, [])
  | .lastB => (M, { c with pc := .over, ans := (c.ans.1, (M.rc c.href.1 c.href.2.1).getD (P.dn w + 2) 0) }, [])
  | .over => (M, c, [])
end
/-- An object's run, word by word. -/
def rep (ap : List Int → O2 → List Int × O2) (s : List Int) : List O2 → List Int × List O2
  | [] => (s, [])
  | o :: l => ((rep ap (ap s o).1 l).1, (ap s o).2 :: (rep ap (ap s o).1 l).2)
theorem rep_app (ap : List Int → O2 → List Int × O2) (l' : List O2) : ∀ (l : List O2) (s : List Int), rep ap s (l ++ l') = ((rep ap (rep ap s l).1 l').1, (rep ap s l).2 ++ (rep ap (rep ap s l).1 l').2)
  | [], _ => by simp [rep]
  | x :: l, s => by simp only [List.cons_append, rep]; rw [rep_app ap l' l]
theorem rep_ok (P : Par) : ∀ (l : List O2) (s : List Int), P.ok s → P.ok (rep P.ap s l).1
  | [], _, h => h
  | o :: l, s, h => rep_ok P l _ (P.ok_ap s o h)
section
variable {P : Par} {l : List Int}
theorem dn_add (q : Nat) : P.dn q = P.W + 3 * q := rfl
theorem take_W {P : Par} {l : List Int} (ws : List Int) (h : ws.length = P.W) : (ws ++ l).take P.W = ws := by rw [← h]; simp
theorem apC_take (h : P.ok (l.take P.W)) (o : O2) : (apC P l o).1.take P.W = (P.ap (l.take P.W) o).1 := by
  unfold apC
  exact take_W _ (P.ok_len _ (P.ok_ap _ o h))
theorem apC_len (h : P.ok (l.take P.W)) (hl : P.W ≤ l.length) (o : O2) : (apC P l o).1.length = l.length := by
  have := P.ok_len _ (P.ok_ap _ o h)
  simp only [apC, List.length_append, List.length_drop]; omega
theorem getD_app_r (a b : List Int) (i : Nat) (h : a.length ≤ i) : (a ++ b).getD i 0 = b.getD (i - a.length) 0 := by
  simp [List.getD, List.getElem?_append_right h]
theorem apC_getD (h : P.ok (l.take P.W)) (o : O2) (hl : P.W ≤ l.length) {i : Nat} (hi : P.W ≤ i) : (apC P l o).1.getD i 0 = l.getD i 0 := by
  have hL := P.ok_len _ (P.ok_ap _ o h)
  unfold apC
  rw [getD_app_r _ _ _ (by omega), hL]
  simp only [List.getD, List.getElem?_drop]
  rw [show P.W + (i - P.W) = i by omega]
theorem apC_slot (h : P.ok (l.take P.W)) (o : O2) (hl : P.W ≤ l.length) (q : Nat) : slot3 (apC P l o).1 (P.dn q) = slot3 l (P.dn q) := by
  have : P.W ≤ P.dn q := by unfold Par.dn; omega
  unfold slot3
  rw [apC_getD h o hl this, apC_getD h o hl (by omega), apC_getD h o hl (by omega)]
theorem getD_set_self {l : List Int} {i : Nat} (h : i < l.length) (x : Int) : (l.set i x).getD i 0 = x := by simp [List.getD, h]
theorem getD_set_other {l : List Int} {i j : Nat} (h : i ≠ j) (x : Int) : (l.set i x).getD j 0 = l.getD j 0 := by
  simp only [List.getD, List.getElem?_set]; rw [if_neg h]
theorem put3_len (d : Nat) (x : Int) (a : O2) : (put3 l d x a).length = l.length := by simp [put3]
theorem put3_self {d : Nat} (h : d + 2 < l.length) (x : Int) (a : O2) : slot3 (put3 l d x a) d = (x, a) := by
  unfold slot3 put3
  rw [getD_set_other (i := d + 2) (j := d) (by omega), getD_set_other (i := d + 1) (j := d) (by omega), getD_set_self (i := d) (by omega), getD_set_other (i := d + 2) (j := d + 1) (by omega), getD_set_self (i := d + 1) (by simp; omega), getD_set_self (i := d + 2) (by simp; omega)]
theorem put3_ne {d d' : Nat} (h : d' + 2 < d ∨ d + 2 < d') (x : Int) (a : O2) : slot3 (put3 l d x a) d' = slot3 l d' := by
  unfold slot3 put3
  rw [getD_set_other (by omega), getD_set_other (by omega), getD_set_other (by omega), getD_set_other (by omega), getD_set_other (by omega), getD_set_other (by omega), getD_set_other (by omega), getD_set_other (by omega), getD_set_other (by omega)]
theorem put3_dn {q q' : Nat} (h : q' ≠ q) (x : Int) (a : O2) : slot3 (put3 l (P.dn q) x a) (P.dn q') = slot3 l (P.dn q') := by
  refine put3_ne ?_ x a
  unfold Par.dn
  omega
theorem take_set_ge {l : List Int} {i k : Nat} (h : k ≤ i) (x : Int) : (l.set i x).take k = l.take k := by
  apply List.ext_getElem?
  intro j
  simp only [List.getElem?_take, List.getElem?_set]
  by_cases hj : j < k
  · rw [if_pos hj, if_neg (by omega), if_pos hj]
  · rw [if_neg hj, if_neg hj]
theorem put3_take (q : Nat) (x : Int) (a : O2) : (put3 l (P.dn q) x a).take P.W = l.take P.W := by
  unfold put3
  have : P.W ≤ P.dn q := by unfold Par.dn; omega
  rw [take_set_ge (by omega), take_set_ge (by omega), take_set_ge (by omega)]
theorem dn_lt {q : Nat} (h : q < P.n) : P.dn q + 2 < P.R := by unfold Par.dn Par.R; omega
theorem W_le_R : P.W ≤ P.R := by unfold Par.R; omega
theorem R_pos : 0 < P.R := by have := P.n0; unfold Par.R; omega
theorem take_succ_getD {l : List Int} {k : Nat} (h : k < l.length) : l.take (k + 1) = l.take k ++ [l.getD k 0] := by
  rw [List.take_succ_eq_append_getElem h]; simp [List.getD, h]
theorem slot3_eq {l l' : List Int} {d : Nat} (h : slot3 l d = slot3 l' d) : l.getD d 0 = l'.getD d 0 ∧ l.getD (d + 1) 0 = l'.getD (d + 1) 0 ∧ l.getD (d + 2) 0 = l'.getD (d + 2) 0 := by
  unfold slot3 at h
  injection h with h1 h2
  injection h2 with h2 h3
  exact ⟨h1, h2, h3⟩
end
end Go.Proofs.YtnheodgffackoaaDoor.Y

/- A hall as a plain machine: what holds at all times, whoever steps. -/
namespace Go.Proofs.YtnheodgffackoaaDoor.Y
set_option linter.unusedVariables false
set_option linter.unusedSimpArgs false

/-- What is one worker's of what was done. -/
def mineOf (l : List Dn) (q : Nat) : List (O2 × O2) := l.filterMap fun d => if d.1 = q then some d.2 else none
theorem mineOf_app (l l' : List Dn) (q : Nat) : mineOf (l ++ l') q = mineOf l q ++ mineOf l' q := List.filterMap_append ..
theorem mineOf_one (q : Nat) (d : Dn) : mineOf [d] q = if d.1 = q then [d.2] else [] := by unfold mineOf; by_cases h : d.1 = q <;> simp [h]
theorem mineOf_nil (q : Nat) : mineOf [] q = [] := rfl
def curM (M : M3) : List Int := M.rc M.head.1 M.head.2.1
/-- Between the look at the whole record, and the swing. -/
def Pc.u : Pc → Bool
  | .ask | .askA | .askB | .scanning | .laying | .swing => true
  | _ => false
def Pc.v : Pc → Bool
  | .copying | .recheck | .ask | .askA | .askB | .scanning | .laying | .swing => true
  | _ => false
def Pc.lays : Pc → Bool
  | .laying | .swing => true
  | _ => false
def Pc.lasts : Pc → Bool
  | .lastA | .lastB => true
  | _ => false
def Pc.asks : Pc → Bool
  | .askA | .askB => true
  | _ => false
def Pc.ends : Pc → Bool
  | .scanning | .laying | .swing => true
  | _ => false
theorem Pc.u_v {p : Pc} (h : p.u = true) : p.v = true := by cases p <;> first | rfl | cases h
def ownPart (w : Nat) (c : Cl) (q : Nat) : List (O2 × O2) := if q = w ∧ c.helped = false ∧ c.pc.ends = true then [(c.op, c.ans)] else []
section
variable (P : Par)
/-- A copy of the record that holds, and what was done to it. -/
structure Good (M : M3) (N : Nat) (nt : Nat → Nat) (w : Nat) (c : Cl) : Prop where
  rpl : rep P.ap ((curM M).take P.W) (c.done.map (·.2.1)) = (c.cp.take P.W, c.done.map (·.2.2))
  sl : ∀ q, q < P.n → (slot3 c.cp (P.dn q) = slot3 (curM M) (P.dn q) ∧ mineOf c.done q = ownPart w c q) ∨
    (q < c.who ∧ M.asked q ≠ (curM M).getD (P.dn q) 0 ∧ c.cp.getD (P.dn q) 0 = M.asked q ∧ mineOf c.done q = ((M.oa q, M.ob q), (slot3 c.cp (P.dn q)).2) :: ownPart w c q)
  cnt : ∀ q, q < c.who → M.asked q = c.cp.getD (P.dn q) 0 ∨ N ≤ nt q
  own : c.helped = true → w < c.who → M.asked w = c.cp.getD (P.dn w) 0
/-- A worker that is on its way. -/
def Run (M : M3) (N ntw : Nat) (hw mw : List (O2 × O2)) (w : Nat) (c : Cl) : Prop :=
  (c.helped = true → M.oa w = c.op.1 ∧ M.ob w = c.op.2 ∧ ntw ≤ N ∧ (M.asked w = (curM M).getD (P.dn w) 0 → mw = hw ++ [(c.op, (slot3 (curM M) (P.dn w)).2)]) ∧ (M.asked w ≠ (curM M).getD (P.dn w) 0 → mw = hw) ∧ (ntw + 2 ≤ N → M.asked w = (curM M).getD (P.dn w) 0)) ∧
  (c.helped = false → M.asked w = (curM M).getD (P.dn w) 0 ∧ mw = hw)
/-- .. in an attempt. -/
structure Att (M : M3) (N ntw nlw : Nat) (c : Cl) (w : Nat) : Prop where
  h1 : c.href.1 < P.n
  h2 : c.href.2.1 < 2
  h3 : c.href.2.2 ≤ P.n
  l1 : 1 ≤ c.left
  ne : M.head ≠ c.href → nlw < N
  le : nlw ≤ N
  help : c.helped = true → c.left ≤ 2 ∧ ntw ≤ nlw ∧ (c.left = 1 → ntw + 1 ≤ nlw)
structure UP (M : M3) (N : Nat) (nt : Nat → Nat) (w : Nat) (c : Cl) : Prop where
  len : c.cp.length = P.R
  ok : P.ok (c.cp.take P.W)
  side : M.head.1 = w → M.head.2.1 ≠ sideC w c.href
  good : M.head = c.href → Good P M N nt w c
  dl : c.done.length ≤ c.who + 1
def LocP (M : M3) (N : Nat) (nt : Nat → Nat) (nlw : Nat) (hw mw : List (O2 × O2)) (w : Nat) (c : Cl) : Prop := match c.pc with
  | .load => Run P M N (nt w) hw mw w c ∧ 1 ≤ c.left ∧ (c.helped = true → c.left ≤ 2 ∧ (c.left = 1 → nt w + 1 ≤ N))
  | .hold => Run P M N (nt w) hw mw w c ∧ Att P M N (nt w) nlw c w
  | .check => Run P M N (nt w) hw mw w c ∧ Att P M N (nt w) nlw c w ∧ M.held w = some c.href
  | .copying => Run P M N (nt w) hw mw w c ∧ Att P M N (nt w) nlw c w ∧ M.held w = some c.href ∧ c.cp.length < P.R ∧ (M.head = c.href → c.cp = (curM M).take c.cp.length)
  | .recheck => Run P M N (nt w) hw mw w c ∧ Att P M N (nt w) nlw c w ∧ M.held w = some c.href ∧ c.cp.length = P.R ∧ (M.head = c.href → c.cp = curM M)
  | .ask => Run P M N (nt w) hw mw w c ∧ Att P M N (nt w) nlw c w ∧ M.held w = some c.href ∧ UP P M N nt w c ∧ c.who < P.n ∧ c.done.length ≤ c.who
  | .askA => Run P M N (nt w) hw mw w c ∧ Att P M N (nt w) nlw c w ∧ M.held w = some c.href ∧ UP P M N nt w c ∧ c.who < P.n ∧ c.done.length ≤ c.who ∧ (M.head = c.href → c.phase = M.asked c.who ∧ M.asked c.who ≠ (curM M).getD (P.dn c.who) 0)
  | .askB => Run P M N (nt w) hw mw w c ∧ Att P M N (nt w) nlw c w ∧ M.held w = some c.href ∧ UP P M N nt w c ∧ c.who < P.n ∧ c.done.length ≤ c.who ∧ (M.head = c.href → c.phase = M.asked c.who ∧ M.asked c.who ≠ (curM M).getD (P.dn c.who) 0 ∧ c.wA = M.oa c.who)
  | .scanning => Run P M N (nt w) hw mw w c ∧ Att P M N (nt w) nlw c w ∧ M.held w = some c.href ∧ UP P M N nt w c ∧ c.who = P.n ∧ c.pos < P.n ∧ c.used.length ≤ c.pos
  | .laying => Run P M N (nt w) hw mw w c ∧ Att P M N (nt w) nlw c w ∧ M.held w = some c.href ∧ UP P M N nt w c ∧ c.who = P.n ∧ c.tag ≤ P.n ∧ c.laid < P.R ∧ (M.rc w (sideC w c.href)).take c.laid = c.cp.take c.laid
  | .swing => Run P M N (nt w) hw mw w c ∧ Att P M N (nt w) nlw c w ∧ M.held w = some c.href ∧ UP P M N nt w c ∧ c.who = P.n ∧ c.tag ≤ P.n ∧ M.rc w (sideC w c.href) = c.cp
  | .tellA => Run P M N (nt w) hw mw w c ∧ c.helped = false
  | .tellB => Run P M N (nt w) hw mw w c ∧ c.helped = false ∧ M.oa w = c.op.1
  | .tell => Run P M N (nt w) hw mw w c ∧ c.helped = false ∧ M.oa w = c.op.1 ∧ M.ob w = c.op.2
  | .last => Run P M N (nt w) hw mw w c ∧ c.helped = true ∧ M.asked w = (curM M).getD (P.dn w) 0
  | .lastA => Run P M N (nt w) hw mw w c ∧ c.helped = true ∧ M.asked w = (curM M).getD (P.dn w) 0 ∧ c.href.1 < P.n ∧ c.href.2.1 < 2 ∧ slot3 (M.rc c.href.1 c.href.2.1) (P.dn w) = slot3 (curM M) (P.dn w)
  | .lastB => Run P M N (nt w) hw mw w c ∧ c.helped = true ∧ M.asked w = (curM M).getD (P.dn w) 0 ∧ c.href.1 < P.n ∧ c.href.2.1 < 2 ∧ slot3 (M.rc c.href.1 c.href.2.1) (P.dn w) = slot3 (curM M) (P.dn w) ∧ c.ans.1 = (curM M).getD (P.dn w + 1) 0
  | .over => M.asked w = (curM M).getD (P.dn w) 0 ∧ mw = hw
/-- A record that isn't the one that holds any more never is again, while it is held. -/
def SafeB (M : M3) (p : Nat) (c : Cl) (q : Nat) (d : Cl) : Prop := c.pc.v = true → c.href.1 = q → M.head ≠ c.href → sideC q d.href = c.href.2.1 → (d.pc.lays = true → d.tag ≠ c.href.2.2) ∧ (d.pc = .scanning → p < d.pos → (c.href.2.2 : Int) ∈ d.used)
/-- What is laid over a record in which a worker looks up its answer has that answer too. -/
def LastOk (M : M3) (p : Nat) (c : Cl) (q : Nat) (d : Cl) : Prop := c.pc.lasts = true → c.href.1 = q → d.pc.u = true → sideC q d.href = c.href.2.1 → slot3 d.cp (P.dn p) = slot3 (curM M) (P.dn p) ∧ (d.pc.asks = true → d.who ≠ p)
end
structure St where
  M : M3
  cl : Nat → Option Cl
  ents : List Dn
  hist : Nat → List (O2 × O2)
  N : Nat
  nt : Nat → Nat
  nl : Nat → Nat
structure Inv (P : Par) (S : St) : Prop where
  hd : S.M.head.1 < P.n ∧ S.M.head.2.1 < 2 ∧ S.M.head.2.2 ≤ P.n
  len : ∀ w s, w < P.n → s < 2 → (S.M.rc w s).length = P.R
  cok : P.ok ((curM S.M).take P.W)
  rpl : rep P.ap (List.replicate P.W 0) (S.ents.map (·.2.1)) = ((curM S.M).take P.W, S.ents.map (·.2.2))
  loc : ∀ w c, w < P.n → S.cl w = some c → LocP P S.M S.N S.nt (S.nl w) (S.hist w) (mineOf S.ents w) w c
  idle : ∀ w, w < P.n → S.cl w = none → S.M.asked w = (curM S.M).getD (P.dn w) 0 ∧ mineOf S.ents w = S.hist w
  safe : ∀ p q c d, p < P.n → q < P.n → S.cl p = some c → S.cl q = some d → SafeB S.M p c q d
  last : ∀ p q c d, p < P.n → q < P.n → S.cl p = some c → S.cl q = some d → LastOk P S.M p c q d
  held : ∀ p r, p < P.n → S.M.held p = some r → r.1 < P.n ∧ r.2.1 < 2 ∧ r.2.2 ≤ P.n

section
variable {P : Par} {S : St} {w : Nat} {c : Cl}
theorem upd_cases {f : Nat → Option Cl} {w q : Nat} {c' d : Cl} (h : updF f w (some c') q = some d) : (q = w ∧ d = c') ∨ (q ≠ w ∧ f q = some d) := by
  unfold updF at h
  split at h
  · exact .inl ⟨by assumption, (Option.some.inj h).symm⟩
  · exact .inr ⟨by assumption, h⟩
theorem upd_none {f : Nat → Option Cl} {w q : Nat} {c' : Cl} (h : updF f w (some c') q = none) : q ≠ w ∧ f q = none := by
  unfold updF at h
  split at h
  · cases h
  · exact ⟨by assumption, h⟩
theorem u_lasts {p : Pc} (h : p.u = true) : p.lasts = false := by cases p <;> first | rfl | cases h
theorem curM_len (h : Inv P S) : (curM S.M).length = P.R := h.len _ _ h.hd.1 h.hd.2.1
/-- A step of a worker that writes nothing. -/
theorem Inv.quiet0 (h : Inv P S) (hw : w < P.n) (c' : Cl) (nl' : Nat → Nat) (hist' : Nat → List (O2 × O2)) (hnl : ∀ q, q ≠ w → nl' q = S.nl q) (hh : ∀ q, q ≠ w → hist' q = S.hist q)
    (hl : LocP P S.M S.N S.nt (nl' w) (hist' w) (mineOf S.ents w) w c')
    (hs1 : ∀ q d, q < P.n → q ≠ w → S.cl q = some d → SafeB S.M w c' q d) (hs2 : ∀ p d, p < P.n → p ≠ w → S.cl p = some d → SafeB S.M p d w c')
    (hs3 : c'.pc.v = true → c'.href.2.1 < 2)
    (hl1 : ∀ q d, q < P.n → q ≠ w → S.cl q = some d → LastOk P S.M w c' q d) (hl2 : ∀ p d, p < P.n → p ≠ w → S.cl p = some d → LastOk P S.M p d w c') :
    Inv P { S with cl := updF S.cl w (some c'), nl := nl', hist := hist' } := by
  refine ⟨h.hd, h.len, h.cok, h.rpl, fun q d hq hd => ?_, fun q hq hd => ?_, fun p q a b hp hq ha hb => ?_, fun p q a b hp hq ha hb => ?_, h.held⟩
  · rcases upd_cases (f := S.cl) hd with ⟨rfl, rfl⟩ | ⟨e, hd⟩
    · exact hl
    · show LocP P S.M S.N S.nt (nl' q) (hist' q) (mineOf S.ents q) q d
      rw [hnl q e, hh q e]
      exact h.loc q d hq hd
  · obtain ⟨e, hd⟩ := upd_none (f := S.cl) hd
    show _ ∧ _ = hist' q
    rw [hh q e]
    exact h.idle q hq hd
  · rcases upd_cases (f := S.cl) ha with ⟨rfl, rfl⟩ | ⟨e, ha'⟩
    · rcases upd_cases (f := S.cl) hb with ⟨rfl, rfl⟩ | ⟨e2, hb'⟩
      · intro hv h1 _ h3
        exact absurd h3.symm (sideC_ne h1 (hs3 hv))
      · exact hs1 q b hq e2 hb'
    · rcases upd_cases (f := S.cl) hb with ⟨rfl, rfl⟩ | ⟨e2, hb'⟩
      · exact hs2 p a hp e ha'
      · exact h.safe p q a b hp hq ha' hb'
  · rcases upd_cases (f := S.cl) ha with ⟨rfl, rfl⟩ | ⟨e, ha'⟩
    · rcases upd_cases (f := S.cl) hb with ⟨rfl, rfl⟩ | ⟨e2, hb'⟩
      · intro h1 _ h2
        exact absurd h1 (by rw [u_lasts h2]; exact Bool.false_ne_true)
      · exact hl1 q b hq e2 hb'
    · rcases upd_cases (f := S.cl) hb with ⟨rfl, rfl⟩ | ⟨e2, hb'⟩
      · exact hl2 p a hp e ha'
      · exact h.last p q a b hp hq ha' hb'
theorem Inv.quiet (h : Inv P S) (hw : w < P.n) (hc : S.cl w = some c) (c' : Cl) (nl' : Nat → Nat) (hist' : Nat → List (O2 × O2)) (hnl : ∀ q, q ≠ w → nl' q = S.nl q) (hh : ∀ q, q ≠ w → hist' q = S.hist q)
    (hl : LocP P S.M S.N S.nt (nl' w) (hist' w) (mineOf S.ents w) w c')
    (hs1 : ∀ q d, q < P.n → q ≠ w → S.cl q = some d → SafeB S.M w c' q d) (hs2 : ∀ p d, p < P.n → p ≠ w → S.cl p = some d → SafeB S.M p d w c')
    (hs3 : c'.pc.v = true → c'.href.2.1 < 2)
    (hl1 : ∀ q d, q < P.n → q ≠ w → S.cl q = some d → LastOk P S.M w c' q d) (hl2 : ∀ p d, p < P.n → p ≠ w → S.cl p = some d → LastOk P S.M p d w c') :
    Inv P { S with cl := updF S.cl w (some c'), nl := nl', hist := hist' } := h.quiet0 hw c' nl' hist' hnl hh hl hs1 hs2 hs3 hl1 hl2
theorem updF_id {β : Type} (f : Nat → β) (i : Nat) : updF f i (f i) = f := by funext j; unfold updF; split <;> simp_all
/-- A call that failed goes on. -/
theorem fail_loc {M : M3} {N : Nat} {nt : Nat → Nat} {nlw : Nat} {hh mm : List (O2 × O2)} (hr : Run P M N (nt w) hh mm w c) (ha : Att P M N (nt w) nlw c w) (hne : M.head ≠ c.href) : LocP P M N nt nlw hh mm w (failC c) := by
  have hn := ha.ne hne
  unfold failC
  by_cases h1 : 1 < c.left
  · rw [if_pos h1]
    refine ⟨hr, ?_, fun hp => ?_⟩
    · show 1 ≤ c.left - 1; omega
    · have := ha.help hp
      show c.left - 1 ≤ 2 ∧ (c.left - 1 = 1 → _)
      exact ⟨by omega, fun _ => by omega⟩
  · rw [if_neg h1]
    by_cases hp : c.helped = true
    · rw [if_pos hp]
      have hl := ha.l1
      have h3 := ha.help hp
      refine ⟨hr, hp, (hr.1 hp).2.2.2.2.2 ?_⟩
      have := h3.2.2 (by omega)
      omega
    · rw [if_neg hp]
      exact ⟨hr, by simpa using hp⟩
theorem failC_pc : (failC c).pc.v = false ∧ (failC c).pc.u = false ∧ (failC c).pc.lays = false ∧ (failC c).pc.lasts = false ∧ (failC c).pc ≠ .scanning := by
  unfold failC
  by_cases h1 : 1 < c.left
  · simp [h1, Pc.v, Pc.u, Pc.lays, Pc.lasts]
  · by_cases hp : c.helped = true
    · simp [h1, hp, Pc.v, Pc.u, Pc.lays, Pc.lasts]
    · simp [h1, hp, Pc.v, Pc.u, Pc.lays, Pc.lasts]
/-- .. a call that isn't watching, nor laying, nor looking up. -/
theorem Inv.calm0 (h : Inv P S) (hw : w < P.n) (c' : Cl) (nl' : Nat → Nat) (hist' : Nat → List (O2 × O2)) (hnl : ∀ q, q ≠ w → nl' q = S.nl q) (hh : ∀ q, q ≠ w → hist' q = S.hist q)
    (hl : LocP P S.M S.N S.nt (nl' w) (hist' w) (mineOf S.ents w) w c') (h1 : c'.pc.v = false) (h4 : c'.pc.lasts = false) : Inv P { S with cl := updF S.cl w (some c'), nl := nl', hist := hist' } := by
  have h2 : c'.pc.u = false := by revert h1; cases c'.pc <;> intro h1 <;> first | rfl | cases h1
  have h3 : c'.pc.lays = false := by revert h1; cases c'.pc <;> intro h1 <;> first | rfl | cases h1
  have h5 : c'.pc ≠ .scanning := by intro e; rw [e] at h1; cases h1
  refine h.quiet0 hw c' nl' hist' hnl hh hl (fun q d _ _ _ hv => ?_) (fun p d _ _ _ _ _ _ _ => ⟨fun hv => ?_, fun hv => absurd hv h5⟩) (fun hv => ?_) (fun q d _ _ _ hv => ?_) (fun p d _ _ _ _ _ hv => ?_)
  · rw [h1] at hv; cases hv
  · rw [h3] at hv; cases hv
  · rw [h1] at hv; cases hv
  · rw [h4] at hv; cases hv
  · rw [h2] at hv; cases hv
theorem Inv.calm (h : Inv P S) (hw : w < P.n) (hc : S.cl w = some c) (c' : Cl) (nl' : Nat → Nat) (hist' : Nat → List (O2 × O2)) (hnl : ∀ q, q ≠ w → nl' q = S.nl q) (hh : ∀ q, q ≠ w → hist' q = S.hist q)
    (hl : LocP P S.M S.N S.nt (nl' w) (hist' w) (mineOf S.ents w) w c') (h1 : c'.pc.v = false) (h4 : c'.pc.lasts = false) : Inv P { S with cl := updF S.cl w (some c'), nl := nl', hist := hist' } := h.calm0 hw c' nl' hist' hnl hh hl h1 h4
theorem Inv.fails (h : Inv P S) (hw : w < P.n) (hc : S.cl w = some c) (hr : Run P S.M S.N (S.nt w) (S.hist w) (mineOf S.ents w) w c) (ha : Att P S.M S.N (S.nt w) (S.nl w) c w) (hne : S.M.head ≠ c.href) : Inv P { S with cl := updF S.cl w (some (failC c)) } := by
  obtain ⟨f1, _, _, f4, _⟩ := failC_pc (c := c)
  exact h.calm hw hc (failC c) S.nl S.hist (fun _ _ => rfl) (fun _ _ => rfl) (fail_loc hr ha hne) f1 f4
end
end Go.Proofs.YtnheodgffackoaaDoor.Y

/- A hall as a plain machine: each step keeps what holds. -/
namespace Go.Proofs.YtnheodgffackoaaDoor.Y
set_option linter.unusedVariables false
set_option linter.unusedSimpArgs false
section
variable {P : Par} {S : St} {w : Nat} {c : Cl}
theorem ownPart_no {q : Nat} (h : c.pc.ends = false) : ownPart w c q = [] := by unfold ownPart; rw [if_neg]; rintro ⟨_, _, h2⟩; rw [h] at h2; cases h2
theorem ownPart_pc {c' : Cl} {q : Nat} (h1 : c'.helped = c.helped) (h2 : c'.pc.ends = c.pc.ends) (h3 : c'.op = c.op) (h4 : c'.ans = c.ans) : ownPart w c' q = ownPart w c q := by unfold ownPart; rw [h1, h2, h3, h4]
theorem ownPart_helped {q : Nat} (h : c.helped = true) : ownPart w c q = [] := by unfold ownPart; rw [if_neg]; rintro ⟨_, h2, _⟩; rw [h] at h2; cases h2
/-- Good holds of a call that differs where it doesn't look. -/
theorem Good.call {M : M3} {N : Nat} {nt : Nat → Nat} {c' : Cl} (h : Good P M N nt w c) (h1 : c'.helped = c.helped) (h2 : c'.pc.ends = c.pc.ends) (h3 : c'.op = c.op) (h4 : c'.ans = c.ans) (h5 : c'.cp = c.cp) (h6 : c'.done = c.done) (h7 : c'.who = c.who) : Good P M N nt w c' := by
  refine ⟨by rw [h6, h5]; exact h.rpl, fun q hq => ?_, by rw [h7, h5]; exact h.cnt, by rw [h1, h7, h5]; exact h.own⟩
  rw [ownPart_pc h1 h2 h3 h4, h5, h6, h7]
  exact h.sl q hq
theorem UP.call {M : M3} {N : Nat} {nt : Nat → Nat} {c' : Cl} (h : UP P M N nt w c) (h1 : c'.helped = c.helped) (h2 : c'.pc.ends = c.pc.ends) (h3 : c'.op = c.op) (h4 : c'.ans = c.ans) (h5 : c'.cp = c.cp) (h6 : c'.done = c.done) (h7 : c'.who = c.who) (h8 : c'.href = c.href) : UP P M N nt w c' :=
  ⟨by rw [h5]; exact h.len, by rw [h5]; exact h.ok, by rw [h8]; exact h.side, by rw [h8]; exact fun hh => (h.good hh).call h1 h2 h3 h4 h5 h6 h7, by rw [h6, h7]; exact h.dl⟩
theorem Att.call {M : M3} {N ntw nlw : Nat} {c' : Cl} (h : Att P M N ntw nlw c w) (h1 : c'.helped = c.helped) (h2 : c'.left = c.left) (h3 : c'.href = c.href) : Att P M N ntw nlw c' w :=
  ⟨by rw [h3]; exact h.h1, by rw [h3]; exact h.h2, by rw [h3]; exact h.h3, by rw [h2]; exact h.l1, by rw [h3]; exact h.ne, h.le, by rw [h1, h2]; exact h.help⟩
theorem Run.call {M : M3} {N ntw : Nat} {hh mm : List (O2 × O2)} {c' : Cl} (h : Run P M N ntw hh mm w c) (h1 : c'.helped = c.helped) (h2 : c'.op = c.op) : Run P M N ntw hh mm w c' := by
  unfold Run at *; rw [h1, h2]; exact h
theorem loc_U {M : M3} {N : Nat} {nt : Nat → Nat} {nlw : Nat} {hh mm : List (O2 × O2)} (h : LocP P M N nt nlw hh mm w c) (hu : c.pc.u = true) : UP P M N nt w c := by
  unfold LocP at h
  cases hp : c.pc <;> rw [hp] at h hu <;> first | (cases hu; done) | exact h.2.2.2.1
theorem loc_V {M : M3} {N : Nat} {nt : Nat → Nat} {nlw : Nat} {hh mm : List (O2 × O2)} (h : LocP P M N nt nlw hh mm w c) (hu : c.pc.v = true) : Run P M N (nt w) hh mm w c ∧ Att P M N (nt w) nlw c w ∧ M.held w = some c.href := by
  unfold LocP at h
  cases hp : c.pc <;> rw [hp] at h hu <;> first | (cases hu; done) | exact ⟨h.1, h.2.1, h.2.2.1⟩
theorem loc_L {M : M3} {N : Nat} {nt : Nat → Nat} {nlw : Nat} {hh mm : List (O2 × O2)} (h : LocP P M N nt nlw hh mm w c) (hu : c.pc.lasts = true) : Run P M N (nt w) hh mm w c ∧ c.helped = true ∧ M.asked w = (curM M).getD (P.dn w) 0 ∧ c.href.1 < P.n ∧ c.href.2.1 < 2 ∧ slot3 (M.rc c.href.1 c.href.2.1) (P.dn w) = slot3 (curM M) (P.dn w) := by
  unfold LocP at h
  cases hp : c.pc <;> rw [hp] at h hu <;> first | (cases hu; done) | exact ⟨h.1, h.2.1, h.2.2.1, h.2.2.2.1, h.2.2.2.2.1, h.2.2.2.2.2⟩ | exact ⟨h.1, h.2.1, h.2.2.1, h.2.2.2.1, h.2.2.2.2.1, h.2.2.2.2.2.1⟩
theorem u_lays {p : Pc} (h : p.lays = true) : p.u = true := by cases p <;> first | rfl | cases h
/-- The next worker; behind all, what it wants itself. -/
theorem turn_loc {M : M3} {N : Nat} {nt : Nat → Nat} {nlw : Nat} {hh mm : List (O2 × O2)} (hr : Run P M N (nt w) hh mm w c) (ha : Att P M N (nt w) nlw c w) (hh' : M.held w = some c.href) (hcl : (curM M).length = P.R) (hwn : w < P.n) (hn : c.who < P.n) (hlen : c.cp.length = P.R) (hok : P.ok (c.cp.take P.W)) (hside : M.head.1 = w → M.head.2.1 ≠ sideC w c.href)
    (hg : M.head = c.href → Good P M N nt w { c with who := c.who + 1, pc := .ask }) (hd : c.done.length ≤ c.who + 1) : LocP P M N nt nlw hh mm w (turnC P w c) := by
  have hW : P.W ≤ c.cp.length := by rw [hlen]; exact W_le_R
  unfold turnC
  by_cases h1 : c.who + 1 < P.n
  · rw [if_pos h1]
    exact ⟨hr, ha.call rfl rfl rfl, hh', ⟨hlen, hok, hside, hg, by show c.done.length ≤ c.who + 1 + 1; omega⟩, h1, hd⟩
  · rw [if_neg h1]
    by_cases hp : c.helped = true
    · have e : ownC P w { c with who := c.who + 1 } = { c with who := c.who + 1 } := by unfold ownC; rw [if_pos hp]
      rw [e]
      refine ⟨hr, ha.call rfl rfl rfl, hh', ⟨hlen, hok, hside, fun hhd => ?_, by show c.done.length ≤ c.who + 1 + 1; omega⟩, by show c.who + 1 = P.n; omega, P.n0, Nat.le_refl _⟩
      have g := hg hhd
      refine ⟨g.rpl, fun q hq => ?_, g.cnt, g.own⟩
      rcases g.sl q hq with ⟨g1, g2⟩ | ⟨g1, g2, g3, g4⟩
      · exact .inl ⟨g1, (g2.trans (ownPart_helped (by exact hp))).trans (ownPart_helped (by exact hp)).symm⟩
      · exact .inr ⟨g1, g2, g3, g4.trans (congrArg _ ((ownPart_helped (by exact hp)).trans (ownPart_helped (by exact hp)).symm))⟩
    · have hp' : c.helped = false := by simpa using hp
      have e : ownC P w { c with who := c.who + 1 } = { c with who := c.who + 1, cp := (apC P c.cp c.op).1, done := c.done ++ [(w, c.op, (apC P c.cp c.op).2)], ans := (apC P c.cp c.op).2 } := by unfold ownC; rw [if_neg hp]
      rw [e]
      refine ⟨hr, ha.call rfl rfl rfl, hh', ⟨(apC_len hok hW c.op).trans hlen, ?_, hside, fun hhd => ?_, by show (c.done ++ [_]).length ≤ c.who + 1 + 1; simp; omega⟩, by show c.who + 1 = P.n; omega, P.n0, Nat.le_refl _⟩
      · show P.ok ((apC P c.cp c.op).1.take P.W)
        rw [apC_take hok]
        exact P.ok_ap _ _ hok
      · have g := hg hhd
        have hask := (hr.2 hp').1
        refine ⟨?_, fun q hq => ?_, fun q hq => ?_, fun h => absurd h hp⟩
        · show rep P.ap ((curM M).take P.W) ((c.done ++ [(w, c.op, (apC P c.cp c.op).2)]).map (·.2.1)) = ((apC P c.cp c.op).1.take P.W, (c.done ++ [(w, c.op, (apC P c.cp c.op).2)]).map (·.2.2))
          have gr : rep P.ap ((curM M).take P.W) (c.done.map (·.2.1)) = (c.cp.take P.W, c.done.map (·.2.2)) := g.rpl
          rw [List.map_append, List.map_append, rep_app, gr, apC_take hok]
          rfl
        · show (slot3 (apC P c.cp c.op).1 (P.dn q) = _ ∧ mineOf (c.done ++ [(w, c.op, (apC P c.cp c.op).2)]) q = _) ∨ (q < c.who + 1 ∧ _ ∧ (apC P c.cp c.op).1.getD (P.dn q) 0 = _ ∧ mineOf (c.done ++ [(w, c.op, (apC P c.cp c.op).2)]) q = _ :: _)
          have hsl := apC_slot hok c.op hW q
          have e2 : ∀ (c' : Cl), c'.pc = .scanning → c'.helped = false → c'.op = c.op → c'.ans = (apC P c.cp c.op).2 → ownPart w c' q = mineOf [(w, c.op, (apC P c.cp c.op).2)] q := fun c' h1 h2 h3 h4 => by
            unfold ownPart
            rw [mineOf_one, h1, h2, h3, h4]
            by_cases hq2 : q = w
            · subst hq2; rw [if_pos ⟨rfl, rfl, rfl⟩, if_pos rfl]
            · rw [if_neg (fun h => hq2 h.1), if_neg (fun h => hq2 h.symm)]
          rw [mineOf_app, hsl, (slot3_eq hsl).1]
          rcases g.sl q hq with ⟨g1, g2⟩ | ⟨g1, g2, g3, g4⟩
          · refine .inl ⟨g1, ?_⟩
            rw [show mineOf c.done q = [] from g2.trans (ownPart_no rfl)]
            exact (e2 _ (by exact rfl) (by exact hp') (by exact rfl) (by exact rfl)).symm
          · refine .inr ⟨g1, g2, g3, ?_⟩
            rw [show mineOf c.done q = [((M.oa q, M.ob q), (slot3 c.cp (P.dn q)).2)] from g4.trans (by rw [ownPart_no rfl])]
            exact congrArg (((M.oa q, M.ob q), (slot3 c.cp (P.dn q)).2) :: ·) (e2 _ (by exact rfl) (by exact hp') (by exact rfl) (by exact rfl)).symm
        · show M.asked q = (apC P c.cp c.op).1.getD (P.dn q) 0 ∨ _
          rw [(slot3_eq (apC_slot hok c.op hW q)).1]
          exact g.cnt q hq
theorem turn_pc : (turnC P w c).pc.v = true ∧ (turnC P w c).pc.u = true ∧ (turnC P w c).pc.lays = false ∧ (turnC P w c).pc.lasts = false ∧ (turnC P w c).pc.asks = false ∧ (turnC P w c).href = c.href ∧ ((turnC P w c).pc = .scanning → (turnC P w c).pos = 0) := by
  unfold turnC
  by_cases h1 : c.who + 1 < P.n
  · rw [if_pos h1]
    exact ⟨rfl, rfl, rfl, rfl, rfl, rfl, fun h => by cases h⟩
  · rw [if_neg h1]
    refine ⟨rfl, rfl, rfl, rfl, rfl, ?_, fun _ => rfl⟩
    show (ownC P w { c with who := c.who + 1 }).href = c.href
    unfold ownC
    split <;> rfl
theorem turn_slot (hlen : c.cp.length = P.R) (hok : P.ok (c.cp.take P.W)) (q : Nat) : slot3 (turnC P w c).cp (P.dn q) = slot3 c.cp (P.dn q) := by
  unfold turnC
  by_cases h1 : c.who + 1 < P.n
  · rw [if_pos h1]
  · rw [if_neg h1]
    show slot3 (ownC P w { c with who := c.who + 1 }).cp (P.dn q) = _
    unfold ownC
    split
    · rfl
    · exact apC_slot hok c.op (by rw [hlen]; exact W_le_R) q
/-- .. as a step. -/
theorem Inv.turn (h : Inv P S) (hw : w < P.n) (hc : S.cl w = some c) (c1 : Cl) (hu : c.pc.u = true) (h1 : c1.href = c.href)
    (hloc : LocP P S.M S.N S.nt (S.nl w) (S.hist w) (mineOf S.ents w) w (turnC P w c1)) (hlen : c1.cp.length = P.R) (hok : P.ok (c1.cp.take P.W))
    (hsl : ∀ p, slot3 c.cp (P.dn p) = slot3 (curM S.M) (P.dn p) → (c.pc.asks = true → c.who ≠ p) → slot3 c1.cp (P.dn p) = slot3 (curM S.M) (P.dn p)) : Inv P { S with cl := updF S.cl w (some (turnC P w c1)) } := by
  obtain ⟨t1, t2, t3, t4, t5, t6, t7⟩ := turn_pc (P := P) (w := w) (c := c1)
  have hv := Pc.u_v hu
  have ha := (loc_V (h.loc w c hw hc) hv).2.1
  refine h.quiet hw hc (turnC P w c1) S.nl S.hist (fun _ _ => rfl) (fun _ _ => rfl) hloc (fun q d hq hqw hd _ => ?_) (fun p d hp hpw hd _ _ _ _ => ⟨fun hv => ?_, fun hv hps => ?_⟩) (fun _ => ?_) (fun q d hq hqw hd hv => ?_) (fun p d hp hpw hd hl he _ hs => ⟨?_, fun hv => ?_⟩)
  · rw [t6, h1]; exact h.safe w q c d hw hq hc hd hv
  · rw [t3] at hv; cases hv
  · rw [t7 hv] at hps; exact absurd hps (Nat.not_lt_zero _)
  · rw [t6, h1]; exact ha.h2
  · rw [t4] at hv; cases hv
  · rw [turn_slot hlen hok]
    rw [t6, h1] at hs
    have := h.last p w d c hp hw hd hc hl he hu hs
    exact hsl p this.1 this.2
  · rw [t5] at hv; cases hv
end
end Go.Proofs.YtnheodgffackoaaDoor.Y

/- A hall as a plain machine: the steps that write nothing. -/
namespace Go.Proofs.YtnheodgffackoaaDoor.Y
set_option linter.unusedVariables false
set_option linter.unusedSimpArgs false
section
variable {P : Par} {S : St} {w : Nat} {c : Cl}
/-- What a step leaves, the words and counts aside. -/
def St.put (S : St) (w : Nat) (c : Cl) : St := { S with cl := updF S.cl w (some c) }
theorem step_load (h : Inv P S) (hw : w < P.n) (hc : S.cl w = some c) (hp : c.pc = .load) : Inv P { S with cl := updF S.cl w (some { c with pc := .hold, href := S.M.head }), nl := updF S.nl w S.N } := by
  have hl := h.loc w c hw hc
  unfold LocP at hl; rw [hp] at hl
  obtain ⟨hr, l1, l2⟩ := hl
  refine h.calm hw hc _ _ S.hist (fun q hq => updF_ne _ _ hq) (fun _ _ => rfl) ⟨hr, ?_⟩ rfl rfl
  rw [updF_self]
  exact ⟨h.hd.1, h.hd.2.1, h.hd.2.2, l1, fun ne => absurd rfl ne, Nat.le_refl _, fun hh => ⟨(l2 hh).1, (hr.1 hh).2.2.1, (l2 hh).2⟩⟩
theorem step_check (h : Inv P S) (hw : w < P.n) (hc : S.cl w = some c) (hp : c.pc = .check) (he : S.M.head = c.href) : Inv P { S with cl := updF S.cl w (some { c with pc := .copying, cp := [] }) } := by
  have hl := h.loc w c hw hc
  unfold LocP at hl; rw [hp] at hl
  obtain ⟨hr, ha, hh⟩ := hl
  refine h.quiet hw hc _ S.nl S.hist (fun _ _ => rfl) (fun _ _ => rfl) ⟨hr, ha.call rfl rfl rfl, hh, R_pos, fun _ => rfl⟩ (fun q d _ _ _ _ _ hne => absurd he hne) (fun p d _ _ _ _ _ _ _ => ⟨fun hv => (by cases hv), fun hv => (by cases hv)⟩) (fun _ => ha.h2) (fun q d _ _ _ hv => by cases hv) (fun p d _ _ _ _ _ hv => by cases hv)
theorem step_copying (h : Inv P S) (hw : w < P.n) (hc : S.cl w = some c) (hp : c.pc = .copying) : Inv P { S with cl := updF S.cl w (some { c with cp := c.cp ++ [(S.M.rc c.href.1 c.href.2.1).getD c.cp.length 0], pc := if c.cp.length + 1 = P.R then .recheck else .copying }) } := by
  have hl := h.loc w c hw hc
  unfold LocP at hl; rw [hp] at hl
  obtain ⟨hr, ha, hh, l1, l2⟩ := hl
  have key : S.M.head = c.href → c.cp ++ [(S.M.rc c.href.1 c.href.2.1).getD c.cp.length 0] = (curM S.M).take (c.cp.length + 1) := fun he => by
    have hcl := curM_len h
    rw [take_succ_getD (by omega), ← l2 he]
    unfold curM
    rw [he]
  have hv : ∀ q d, q < P.n → q ≠ w → S.cl q = some d → SafeB S.M w c q d := fun q d hq _ hd => h.safe w q c d hw hq hc hd
  have v0 : c.pc.v = true := by rw [hp]; rfl
  by_cases e : c.cp.length + 1 = P.R
  · rw [if_pos e]
    refine h.quiet hw hc _ S.nl S.hist (fun _ _ => rfl) (fun _ _ => rfl) ⟨hr, ha.call rfl rfl rfl, hh, ?_, fun he => ?_⟩ (fun q d hq hqw hd _ => hv q d hq hqw hd v0) (fun p d _ _ _ _ _ _ _ => ⟨fun hv => (by cases hv), fun hv => (by cases hv)⟩) (fun _ => ha.h2) (fun q d _ _ _ hv => by cases hv) (fun p d _ _ _ _ _ hv => by cases hv)
    · simpa using e
    · have := key he
      rw [e, ← curM_len h, List.take_length] at this
      exact this
  · rw [if_neg e]
    refine h.quiet hw hc _ S.nl S.hist (fun _ _ => rfl) (fun _ _ => rfl) ⟨hr, ha.call rfl rfl rfl, hh, ?_, fun he => ?_⟩ (fun q d hq hqw hd _ => hv q d hq hqw hd v0) (fun p d _ _ _ _ _ _ _ => ⟨fun hv => (by cases hv), fun hv => (by cases hv)⟩) (fun _ => ha.h2) (fun q d _ _ _ hv => by cases hv) (fun p d _ _ _ _ _ hv => by cases hv)
    · show (c.cp ++ [_]).length < P.R
      simp; omega
    · show _ = (curM S.M).take (c.cp ++ [_]).length
      rw [List.length_append]
      exact key he
theorem step_told (h : Inv P S) (hw : w < P.n) (hc : S.cl w = some c) (hp : c.pc = .recheck) (he : S.M.head = c.href) (ht : c.helped = true ∧ c.cp.getD (P.dn w) 0 = S.M.asked w) :
    Inv P { S with cl := updF S.cl w (some { c with pc := .over, ans := (slot3 c.cp (P.dn w)).2, done := [], who := 0 }), hist := updF S.hist w (S.hist w ++ [(c.op, (slot3 c.cp (P.dn w)).2)]) } := by
  have hl := h.loc w c hw hc
  unfold LocP at hl; rw [hp] at hl
  obtain ⟨hr, ha, hh, l1, l2⟩ := hl
  refine h.calm hw hc _ S.nl _ (fun _ _ => rfl) (fun q hq => updF_ne _ _ hq) ?_ rfl rfl
  have e1 := l2 he
  rw [e1] at ht ⊢
  refine ⟨ht.2.symm, ?_⟩
  rw [updF_self]
  exact (hr.1 ht.1).2.2.2.1 ht.2.symm
theorem step_recheck (h : Inv P S) (hw : w < P.n) (hc : S.cl w = some c) (hp : c.pc = .recheck) (he : S.M.head = c.href) : Inv P { S with cl := updF S.cl w (some { c with pc := .ask, done := [], who := 0 }) } := by
  have hl := h.loc w c hw hc
  unfold LocP at hl; rw [hp] at hl
  obtain ⟨hr, ha, hh, l1, l2⟩ := hl
  have e1 := l2 he
  refine h.quiet hw hc _ S.nl S.hist (fun _ _ => rfl) (fun _ _ => rfl) ⟨hr, ha.call rfl rfl rfl, hh, ⟨l1, ?_, ?_, fun _ => ⟨?_, fun q hq => .inl ⟨?_, ?_⟩, fun q hq => absurd hq (Nat.not_lt_zero _), fun _ hq => absurd hq (Nat.not_lt_zero _)⟩, Nat.zero_le _⟩, P.n0, Nat.le_refl _⟩ (fun q d _ _ _ _ _ hne => absurd he hne) (fun p d _ _ _ _ _ _ _ => ⟨fun hv => (by cases hv), fun hv => (by cases hv)⟩) (fun _ => ha.h2) (fun q d _ _ _ hv => by cases hv) (fun p d _ _ _ _ _ _ _ => ⟨by rw [show Cl.cp _ = curM S.M from e1], fun hv => (by cases hv)⟩)
  · show P.ok (c.cp.take P.W); rw [e1]; exact h.cok
  · rw [he]; exact fun h1 => sideC_ne h1 ha.h2
  · show rep P.ap _ [] = (c.cp.take P.W, []); rw [e1]; rfl
  · show slot3 c.cp _ = _; rw [e1]
  · exact (ownPart_no rfl).symm
theorem step_ask (h : Inv P S) (hw : w < P.n) (hc : S.cl w = some c) (hp : c.pc = .ask) (he : ¬ S.M.asked c.who = c.cp.getD (P.dn c.who) 0) : Inv P { S with cl := updF S.cl w (some { c with phase := S.M.asked c.who, pc := .askA }) } := by
  have hl := h.loc w c hw hc
  unfold LocP at hl; rw [hp] at hl
  obtain ⟨hr, ha, hh, hu, l1, l2⟩ := hl
  have hpu : c.pc.u = true := by rw [hp]; rfl
  refine h.quiet hw hc _ S.nl S.hist (fun _ _ => rfl) (fun _ _ => rfl) ⟨hr, ha.call rfl rfl rfl, hh, hu.call rfl (by rw [hp]; rfl) rfl rfl rfl rfl rfl rfl, l1, l2, fun hhd => ⟨rfl, ?_⟩⟩ (fun q d hq _ hd _ => h.safe w q c d hw hq hc hd (Pc.u_v hpu)) (fun p d _ _ _ _ _ _ _ => ⟨fun hv => (by cases hv), fun hv => (by cases hv)⟩) (fun _ => ha.h2) (fun q d _ _ _ hv => by cases hv) (fun p d hp' hpw hd hv h1 _ h2 => ?_)
  · have g := hu.good hhd
    rcases g.sl c.who l1 with ⟨g1, _⟩ | ⟨g1, _⟩
    · rw [← (slot3_eq g1).1]; exact he
    · exact absurd g1 (Nat.lt_irrefl _)
  · have hL := (h.last p w d c hp' hw hd hc hv h1 hpu h2).1
    refine ⟨hL, fun _ ew => ?_⟩
    have ha := (loc_L (h.loc p d hp' hd) hv).2.2.1
    apply he
    show S.M.asked c.who = _
    rw [show c.who = p from ew, (slot3_eq hL).1]
    exact ha
theorem step_askA (h : Inv P S) (hw : w < P.n) (hc : S.cl w = some c) (hp : c.pc = .askA) : Inv P { S with cl := updF S.cl w (some { c with wA := S.M.oa c.who, pc := .askB }) } := by
  have hl := h.loc w c hw hc
  unfold LocP at hl; rw [hp] at hl
  obtain ⟨hr, ha, hh, hu, l1, l2, l3⟩ := hl
  have hpu : c.pc.u = true := by rw [hp]; rfl
  exact h.quiet hw hc _ S.nl S.hist (fun _ _ => rfl) (fun _ _ => rfl) ⟨hr, ha.call rfl rfl rfl, hh, hu.call rfl (by rw [hp]; rfl) rfl rfl rfl rfl rfl rfl, l1, l2, fun hhd => ⟨(l3 hhd).1, (l3 hhd).2, rfl⟩⟩ (fun q d hq _ hd _ => h.safe w q c d hw hq hc hd (Pc.u_v hpu)) (fun p d _ _ _ _ _ _ _ => ⟨fun hv => (by cases hv), fun hv => (by cases hv)⟩) (fun _ => ha.h2) (fun q d _ _ _ hv => by cases hv) (fun p d hp' hpw hd hv h1 _ h2 => ⟨(h.last p w d c hp' hw hd hc hv h1 hpu h2).1, fun _ => (h.last p w d c hp' hw hd hc hv h1 hpu h2).2 (by rw [hp]; rfl)⟩)
theorem step_skip (h : Inv P S) (hw : w < P.n) (hc : S.cl w = some c) (hp : c.pc = .ask) (he : S.M.asked c.who = c.cp.getD (P.dn c.who) 0) : Inv P { S with cl := updF S.cl w (some (turnC P w { c with phase := S.M.asked c.who })) } := by
  have hl := h.loc w c hw hc
  unfold LocP at hl; rw [hp] at hl
  obtain ⟨hr, ha, hh, hu, l1, l2⟩ := hl
  have hpu : c.pc.u = true := by rw [hp]; rfl
  refine h.turn hw hc _ hpu rfl (turn_loc hr (ha.call rfl rfl rfl) hh (curM_len h) hw l1 hu.len hu.ok hu.side (fun hhd => ?_) (by show c.done.length ≤ c.who + 1; omega)) hu.len hu.ok (fun p h1 _ => h1)
  have g := hu.good hhd
  refine ⟨g.rpl, fun q hq => ?_, fun q hq => ?_, fun h1 h2 => ?_⟩
  · rcases g.sl q hq with ⟨g1, g2⟩ | ⟨g1, g2, g3, g4⟩
    · exact .inl ⟨g1, (g2.trans (ownPart_no (by rw [hp]; rfl))).trans (ownPart_no rfl).symm⟩
    · exact .inr ⟨Nat.lt_succ_of_lt g1, g2, g3, g4.trans (congrArg _ ((ownPart_no (by rw [hp]; rfl)).trans (ownPart_no rfl).symm))⟩
  · rcases Nat.lt_or_ge q c.who with h3 | h3
    · exact g.cnt q h3
    · obtain rfl : q = c.who := by have : q < c.who + 1 := hq; omega
      exact .inl he
  · rcases Nat.lt_or_ge w c.who with h3 | h3
    · exact g.own h1 h3
    · have e : w = c.who := by have : w < c.who + 1 := h2; omega
      show S.M.asked w = c.cp.getD (P.dn w) 0
      rw [e]; exact he
theorem step_askB (h : Inv P S) (hw : w < P.n) (hc : S.cl w = some c) (hp : c.pc = .askB) : Inv P { S with cl := updF S.cl w (some (turnC P w { c with cp := put3 (apC P c.cp (c.wA, S.M.ob c.who)).1 (P.dn c.who) c.phase (apC P c.cp (c.wA, S.M.ob c.who)).2, done := c.done ++ [(c.who, (c.wA, S.M.ob c.who), (apC P c.cp (c.wA, S.M.ob c.who)).2)] })) } := by
  have hl := h.loc w c hw hc
  unfold LocP at hl; rw [hp] at hl
  obtain ⟨hr, ha, hh, hu, l1, l2, l3⟩ := hl
  have hpu : c.pc.u = true := by rw [hp]; rfl
  have hW : P.W ≤ c.cp.length := by rw [hu.len]; exact W_le_R
  have hlen : (put3 (apC P c.cp (c.wA, S.M.ob c.who)).1 (P.dn c.who) c.phase (apC P c.cp (c.wA, S.M.ob c.who)).2).length = P.R := by rw [put3_len, apC_len hu.ok hW]; exact hu.len
  have hta : (put3 (apC P c.cp (c.wA, S.M.ob c.who)).1 (P.dn c.who) c.phase (apC P c.cp (c.wA, S.M.ob c.who)).2).take P.W = (P.ap (c.cp.take P.W) (c.wA, S.M.ob c.who)).1 := by rw [put3_take, apC_take hu.ok]
  have hsl : ∀ p, c.who ≠ p → slot3 (put3 (apC P c.cp (c.wA, S.M.ob c.who)).1 (P.dn c.who) c.phase (apC P c.cp (c.wA, S.M.ob c.who)).2) (P.dn p) = slot3 c.cp (P.dn p) := fun p hpw => by rw [put3_dn (fun e => hpw e.symm), apC_slot hu.ok _ hW]
  have hsw : slot3 (put3 (apC P c.cp (c.wA, S.M.ob c.who)).1 (P.dn c.who) c.phase (apC P c.cp (c.wA, S.M.ob c.who)).2) (P.dn c.who) = (c.phase, (apC P c.cp (c.wA, S.M.ob c.who)).2) := put3_self (by rw [apC_len hu.ok hW, hu.len]; exact dn_lt l1) _ _
  have hok : P.ok ((put3 (apC P c.cp (c.wA, S.M.ob c.who)).1 (P.dn c.who) c.phase (apC P c.cp (c.wA, S.M.ob c.who)).2).take P.W) := by rw [hta]; exact P.ok_ap _ _ hu.ok
  have hans : (apC P c.cp (c.wA, S.M.ob c.who)).2 = (P.ap (c.cp.take P.W) (c.wA, S.M.ob c.who)).2 := rfl
  generalize put3 (apC P c.cp (c.wA, S.M.ob c.who)).1 (P.dn c.who) c.phase (apC P c.cp (c.wA, S.M.ob c.who)).2 = C at *
  generalize (apC P c.cp (c.wA, S.M.ob c.who)).2 = A at *
  refine h.turn hw hc _ hpu rfl (turn_loc hr (ha.call rfl rfl rfl) hh (curM_len h) hw l1 hlen hok hu.side (fun hhd => ?_) (by show (c.done ++ [_]).length ≤ c.who + 1; simp; omega)) hlen hok (fun p h1 h2 => (hsl p (h2 (by rw [hp]; rfl))).trans h1)
  have g := hu.good hhd
  obtain ⟨p1, p2, p3⟩ := l3 hhd
  refine ⟨?_, fun q hq => ?_, fun q hq => ?_, fun h1 h2 => ?_⟩
  · show rep P.ap ((curM S.M).take P.W) ((c.done ++ [(c.who, (c.wA, S.M.ob c.who), A)]).map (·.2.1)) = (C.take P.W, (c.done ++ [(c.who, (c.wA, S.M.ob c.who), A)]).map (·.2.2))
    rw [List.map_append, List.map_append, rep_app, g.rpl, hta, hans]
    rfl
  · show (slot3 C (P.dn q) = _ ∧ mineOf (c.done ++ [(c.who, (c.wA, S.M.ob c.who), A)]) q = _) ∨ (q < c.who + 1 ∧ _ ∧ C.getD (P.dn q) 0 = _ ∧ mineOf (c.done ++ [(c.who, (c.wA, S.M.ob c.who), A)]) q = ((S.M.oa q, S.M.ob q), (slot3 C (P.dn q)).2) :: _)
    by_cases e : c.who = q
    · subst e
      refine .inr ⟨Nat.lt_succ_self _, p2, (slot3_eq (l' := C) (d := P.dn c.who) rfl).1 ▸ (by have := congrArg (·.1) hsw; exact this.trans p1), ?_⟩
      rcases g.sl c.who hq with ⟨_, g2⟩ | ⟨g1, _⟩
      · rw [mineOf_app, mineOf_one, if_pos rfl, g2.trans (ownPart_no (by rw [hp]; rfl)), ownPart_no rfl, hsw, p3]
        rfl
      · exact absurd g1 (Nat.lt_irrefl _)
    · rw [mineOf_app, mineOf_one, if_neg e, List.append_nil, (slot3_eq (hsl q e)).1, hsl q e]
      rcases g.sl q hq with ⟨g1, g2⟩ | ⟨g1, g2, g3, g4⟩
      · exact .inl ⟨g1, (g2.trans (ownPart_no (by rw [hp]; rfl))).trans (ownPart_no rfl).symm⟩
      · exact .inr ⟨Nat.lt_succ_of_lt g1, g2, g3, g4.trans (congrArg _ ((ownPart_no (by rw [hp]; rfl)).trans (ownPart_no rfl).symm))⟩
  · show S.M.asked q = C.getD (P.dn q) 0 ∨ _
    rcases Nat.lt_or_ge q c.who with h3 | h3
    · rw [(slot3_eq (hsl q (by omega))).1]; exact g.cnt q h3
    · obtain rfl : q = c.who := by have : q < c.who + 1 := hq; omega
      have := congrArg (·.1) hsw
      exact .inl ((this.trans p1).symm)
  · show S.M.asked w = C.getD (P.dn w) 0
    rcases Nat.lt_or_ge w c.who with h3 | h3
    · rw [(slot3_eq (hsl w (by omega))).1]; exact g.own h1 h3
    · have e : w = c.who := by have : w < c.who + 1 := h2; omega
      have := congrArg (·.1) hsw
      rw [e]
      exact (this.trans p1).symm
end
end Go.Proofs.YtnheodgffackoaaDoor.Y

/- A hall as a plain machine: the scan, and the last looks. -/
namespace Go.Proofs.YtnheodgffackoaaDoor.Y
set_option linter.unusedVariables false
set_option linter.unusedSimpArgs false
section
variable {P : Par} {S : St} {w : Nat} {c : Cl}
theorem hitC_len (w s : Nat) (r : Option Rf) : (hitC w s r).length ≤ 1 := by
  unfold hitC
  cases r with
  | none => simp
  | some r => simp only; split <;> simp
theorem hitC_mem {w s : Nat} {r : Rf} (h1 : r.1 = w) (h2 : r.2.1 = s) : (r.2.2 : Int) ∈ hitC w s (some r) := by
  unfold hitC; simp only; rw [if_pos ⟨h1, h2⟩]; simp
theorem step_scanning (h : Inv P S) (hw : w < P.n) (hc : S.cl w = some c) (hp : c.pc = .scanning) : Inv P { S with cl := updF S.cl w (some { c with used := c.used ++ hitC w (sideC w c.href) (S.M.held c.pos), pos := c.pos + 1, tag := P.least (c.used ++ hitC w (sideC w c.href) (S.M.held c.pos)), laid := 0, pc := if c.pos + 1 = P.n then .laying else .scanning }) } := by
  have hl := h.loc w c hw hc
  unfold LocP at hl; rw [hp] at hl
  obtain ⟨hr, ha, hh, hu, l1, l2, l3⟩ := hl
  have hpu : c.pc.u = true := by rw [hp]; rfl
  have hin : ∀ p d, p < P.n → p ≠ w → S.cl p = some d → d.pc.v = true → d.href.1 = w → S.M.head ≠ d.href → sideC w c.href = d.href.2.1 → p < c.pos + 1 → (d.href.2.2 : Int) ∈ c.used ++ hitC w (sideC w c.href) (S.M.held c.pos) := fun p d hp' hpw hd hv h1 hne hs hlt => by
    rcases Nat.lt_or_ge p c.pos with h3 | h3
    · exact List.mem_append_left _ ((h.safe p w d c hp' hw hd hc hv h1 hne hs).2 hp h3)
    · obtain rfl : p = c.pos := by omega
      rw [(loc_V (h.loc _ d hp' hd) hv).2.2]
      exact List.mem_append_right _ (hitC_mem h1 hs.symm)
  have hlen : (c.used ++ hitC w (sideC w c.href) (S.M.held c.pos)).length ≤ c.pos + 1 := by
    have := hitC_len w (sideC w c.href) (S.M.held c.pos)
    simp; omega
  generalize c.used ++ hitC w (sideC w c.href) (S.M.held c.pos) = U at *
  have s1 : ∀ q d, q < P.n → q ≠ w → S.cl q = some d → SafeB S.M w c q d := fun q d hq _ hd => h.safe w q c d hw hq hc hd
  have hL : ∀ p d, p < P.n → p ≠ w → S.cl p = some d → LastOk P S.M p d w c := fun p d hq _ hd => h.last p w d c hq hw hd hc
  by_cases e : c.pos + 1 = P.n
  · rw [if_pos e]
    refine h.quiet hw hc _ S.nl S.hist (fun _ _ => rfl) (fun _ _ => rfl) ⟨hr, ha.call rfl rfl rfl, hh, hu.call rfl (by rw [hp]; rfl) rfl rfl rfl rfl rfl rfl, l1, ?_, R_pos, rfl⟩ (fun q d hq hqw hd _ => s1 q d hq hqw hd (Pc.u_v hpu)) (fun p d hp' hpw hd hv h1 hne hs => ⟨fun _ et => ?_, fun hv => (by cases hv)⟩) (fun _ => ha.h2) (fun q d _ _ _ hv => (by cases hv)) (fun p d hp' hpw hd hv h1 _ h2 => ⟨(hL p d hp' hpw hd hv h1 hpu h2).1, fun hv => (by cases hv)⟩)
    · have := P.least_le U; show P.least U ≤ P.n; omega
    · have := hin p d hp' hpw hd hv h1 hne hs (by omega)
      rw [← show P.least U = d.href.2.2 from et] at this
      exact P.least_not U this
  · rw [if_neg e]
    exact h.quiet hw hc _ S.nl S.hist (fun _ _ => rfl) (fun _ _ => rfl) ⟨hr, ha.call rfl rfl rfl, hh, hu.call rfl (by rw [hp]) rfl rfl rfl rfl rfl rfl, l1, by show c.pos + 1 < P.n; omega, hlen⟩ (fun q d hq hqw hd _ => s1 q d hq hqw hd (Pc.u_v hpu)) (fun p d hp' hpw hd hv h1 hne hs => ⟨fun hv => (by cases hv), fun _ hlt => hin p d hp' hpw hd hv h1 hne hs hlt⟩) (fun _ => ha.h2) (fun q d _ _ _ hv => (by cases hv)) (fun p d hp' hpw hd hv h1 _ h2 => ⟨(hL p d hp' hpw hd hv h1 hpu h2).1, fun hv => (by cases hv)⟩)
theorem step_last (h : Inv P S) (hw : w < P.n) (hc : S.cl w = some c) (hp : c.pc = .last) : Inv P { S with cl := updF S.cl w (some { c with pc := .lastA, href := S.M.head }) } := by
  have hl := h.loc w c hw hc
  unfold LocP at hl; rw [hp] at hl
  obtain ⟨hr, h1, h2⟩ := hl
  refine h.quiet hw hc _ S.nl S.hist (fun _ _ => rfl) (fun _ _ => rfl) ⟨hr, h1, h2, h.hd.1, h.hd.2.1, rfl⟩ (fun q d _ _ _ hv => (by cases hv)) (fun p d _ _ _ _ _ _ _ => ⟨fun hv => (by cases hv), fun hv => (by cases hv)⟩) (fun hv => (by cases hv)) (fun q d hq _ hd _ he hu hs => ?_) (fun p d _ _ _ _ _ hv => (by cases hv))
  exact absurd hs.symm ((loc_U (h.loc q d hq hd) hu).side he)
theorem step_lastA (h : Inv P S) (hw : w < P.n) (hc : S.cl w = some c) (hp : c.pc = .lastA) : Inv P { S with cl := updF S.cl w (some { c with pc := .lastB, ans := ((S.M.rc c.href.1 c.href.2.1).getD (P.dn w + 1) 0, c.ans.2) }) } := by
  have hl := h.loc w c hw hc
  unfold LocP at hl; rw [hp] at hl
  obtain ⟨hr, h1, h2, h3, h4, h5⟩ := hl
  exact h.quiet hw hc _ S.nl S.hist (fun _ _ => rfl) (fun _ _ => rfl) ⟨hr, h1, h2, h3, h4, h5, (slot3_eq h5).2.1⟩ (fun q d _ _ _ hv => (by cases hv)) (fun p d _ _ _ _ _ _ _ => ⟨fun hv => (by cases hv), fun hv => (by cases hv)⟩) (fun hv => (by cases hv)) (fun q d hq _ hd _ => h.last w q c d hw hq hc hd (by rw [hp]; rfl)) (fun p d _ _ _ _ _ hv => (by cases hv))
theorem step_lastB (h : Inv P S) (hw : w < P.n) (hc : S.cl w = some c) (hp : c.pc = .lastB) : Inv P { S with cl := updF S.cl w (some { c with pc := .over, ans := (c.ans.1, (S.M.rc c.href.1 c.href.2.1).getD (P.dn w + 2) 0) }), hist := updF S.hist w (S.hist w ++ [(c.op, (c.ans.1, (S.M.rc c.href.1 c.href.2.1).getD (P.dn w + 2) 0))]) } := by
  have hl := h.loc w c hw hc
  unfold LocP at hl; rw [hp] at hl
  obtain ⟨hr, h1, h2, h3, h4, h5, h6⟩ := hl
  refine h.calm hw hc _ S.nl _ (fun _ _ => rfl) (fun q hq => updF_ne _ _ hq) ⟨h2, ?_⟩ rfl rfl
  rw [updF_self, h6, (slot3_eq h5).2.2]
  exact (hr.1 h1).2.2.2.1 h2
/-! The steps that write, but for the swing. -/
theorem Good.mem {M M' : M3} {N : Nat} {nt nt' : Nat → Nat} {q : Nat} (h : Good P M N nt q c) (hcur : curM M' = curM M) (hp : ∀ k, k < P.n → M.asked k ≠ (curM M).getD (P.dn k) 0 → M'.asked k = M.asked k ∧ M'.oa k = M.oa k ∧ M'.ob k = M.ob k)
    (hcnt : ∀ k, (M'.asked k = M.asked k ∧ nt' k = nt k) ∨ N ≤ nt' k) (hq : M'.asked q = M.asked q) : Good P M' N nt' q c := by
  refine ⟨by rw [hcur]; exact h.rpl, fun k hk => ?_, fun k hk => ?_, by rw [hq]; exact h.own⟩
  · rw [hcur]
    rcases h.sl k hk with g | ⟨g1, g2, g3, g4⟩
    · exact .inl g
    · obtain ⟨e1, e2, e3⟩ := hp k hk g2
      exact .inr ⟨g1, by rw [e1]; exact g2, by rw [e1]; exact g3, by rw [e2, e3]; exact g4⟩
  · rcases hcnt k with ⟨e1, e2⟩ | e
    · rw [e1, e2]; exact h.cnt k hk
    · exact .inr e
theorem Run.mem {M M' : M3} {N ntw ntw' : Nat} {hh mm : List (O2 × O2)} (h : Run P M N ntw hh mm w c) (hcur : curM M' = curM M) (h1 : M'.asked w = M.asked w) (h2 : M'.oa w = M.oa w) (h3 : M'.ob w = M.ob w) (h4 : ntw' = ntw) : Run P M' N ntw' hh mm w c := by
  unfold Run at *; rw [hcur, h1, h2, h3, h4]; exact h
theorem Att.mem {M M' : M3} {N ntw ntw' nlw : Nat} (h : Att P M N ntw nlw c w) (hh : M'.head = M.head) (h4 : ntw' = ntw) : Att P M' N ntw' nlw c w :=
  ⟨h.h1, h.h2, h.h3, h.l1, by rw [hh]; exact h.ne, h.le, by rw [h4]; exact h.help⟩
/-- What holds of another worker's call, when something is written that it doesn't look at. -/
theorem loc_other {M M' : M3} {N : Nat} {nt nt' : Nat → Nat} {nlw : Nat} {hh mm : List (O2 × O2)} (h : LocP P M N nt nlw hh mm w c) (hhd : M'.head = M.head) (hcur : curM M' = curM M) (hheld : M'.held w = M.held w) (h1 : M'.asked w = M.asked w) (h2 : M'.oa w = M.oa w) (h3 : M'.ob w = M.ob w) (h4 : nt' w = nt w)
    (hp : ∀ k, k < P.n → M.asked k ≠ (curM M).getD (P.dn k) 0 → M'.asked k = M.asked k ∧ M'.oa k = M.oa k ∧ M'.ob k = M.ob k) (hcnt : ∀ k, (M'.asked k = M.asked k ∧ nt' k = nt k) ∨ N ≤ nt' k)
    (hr : ∀ s, M'.rc w s = M.rc w s) (hL : c.pc.lasts = true → slot3 (M'.rc c.href.1 c.href.2.1) (P.dn w) = slot3 (curM M) (P.dn w)) : LocP P M' N nt' nlw hh mm w c := by
  have hU : UP P M N nt w c → UP P M' N nt' w c := fun u => ⟨u.len, u.ok, by rw [hhd]; exact u.side, by rw [hhd]; exact fun e => (u.good e).mem hcur hp hcnt h1, u.dl⟩
  have hA : Att P M N (nt w) nlw c w → Att P M' N (nt' w) nlw c w := fun a => a.mem hhd h4
  have hR : Run P M N (nt w) hh mm w c → Run P M' N (nt' w) hh mm w c := fun a => a.mem hcur h1 h2 h3 h4
  unfold LocP at *
  cases hpc : c.pc <;> rw [hpc] at h hL <;> simp only at h hL ⊢
  · rw [h4]; exact ⟨h4 ▸ hR h.1, h.2⟩
  · exact ⟨hR h.1, hA h.2⟩
  · rw [hheld]; exact ⟨hR h.1, hA h.2.1, h.2.2⟩
  · rw [hheld, hhd, hcur]; exact ⟨hR h.1, hA h.2.1, h.2.2⟩
  · rw [hheld, hhd, hcur]; exact ⟨hR h.1, hA h.2.1, h.2.2⟩
  · rw [hheld]; exact ⟨hR h.1, hA h.2.1, h.2.2.1, hU h.2.2.2.1, h.2.2.2.2⟩
  · rw [hheld, hhd, hcur]
    refine ⟨hR h.1, hA h.2.1, h.2.2.1, hU h.2.2.2.1, h.2.2.2.2.1, h.2.2.2.2.2.1, fun e => ?_⟩
    obtain ⟨e1, e2⟩ := h.2.2.2.2.2.2 e
    rw [(hp _ h.2.2.2.2.1 e2).1]; exact ⟨e1, e2⟩
  · rw [hheld, hhd, hcur]
    refine ⟨hR h.1, hA h.2.1, h.2.2.1, hU h.2.2.2.1, h.2.2.2.2.1, h.2.2.2.2.2.1, fun e => ?_⟩
    obtain ⟨e1, e2, e3⟩ := h.2.2.2.2.2.2 e
    rw [(hp _ h.2.2.2.2.1 e2).1, (hp _ h.2.2.2.2.1 e2).2.1]; exact ⟨e1, e2, e3⟩
  · rw [hheld]; exact ⟨hR h.1, hA h.2.1, h.2.2.1, hU h.2.2.2.1, h.2.2.2.2⟩
  · rw [hheld, hr]; exact ⟨hR h.1, hA h.2.1, h.2.2.1, hU h.2.2.2.1, h.2.2.2.2⟩
  · rw [hheld, hr]; exact ⟨hR h.1, hA h.2.1, h.2.2.1, hU h.2.2.2.1, h.2.2.2.2⟩
  · exact ⟨hR h.1, h.2⟩
  · rw [h2]; exact ⟨hR h.1, h.2⟩
  · rw [h2, h3]; exact ⟨hR h.1, h.2⟩
  · rw [h1, hcur]; exact ⟨hR h.1, h.2⟩
  · rw [h1, hcur]; exact ⟨hR h.1, h.2.1, h.2.2.1, h.2.2.2.1, h.2.2.2.2.1, hL rfl⟩
  · rw [h1, hcur]; exact ⟨hR h.1, h.2.1, h.2.2.1, h.2.2.2.1, h.2.2.2.2.1, hL rfl, h.2.2.2.2.2.2⟩
  · rw [h1, hcur]; exact h
theorem Inv.write (h : Inv P S) (hw : w < P.n) (hc : S.cl w = some c) (c' : Cl) (M' : M3) (nt' : Nat → Nat) (hhd : M'.head = S.M.head) (hcur : curM M' = curM S.M) (hlen : ∀ q s, q < P.n → s < 2 → (M'.rc q s).length = P.R)
    (hheld : ∀ q, q ≠ w → M'.held q = S.M.held q) (hheldw : ∀ r, M'.held w = some r → r.1 < P.n ∧ r.2.1 < 2 ∧ r.2.2 ≤ P.n)
    (ho : ∀ q, q ≠ w → M'.asked q = S.M.asked q ∧ M'.oa q = S.M.oa q ∧ M'.ob q = S.M.ob q ∧ nt' q = S.nt q ∧ ∀ s, M'.rc q s = S.M.rc q s)
    (hpw : S.M.asked w ≠ (curM S.M).getD (P.dn w) 0 → M'.asked w = S.M.asked w ∧ M'.oa w = S.M.oa w ∧ M'.ob w = S.M.ob w) (hcw : (M'.asked w = S.M.asked w ∧ nt' w = S.nt w) ∨ S.N ≤ nt' w)
    (hL : ∀ q d, q < P.n → q ≠ w → S.cl q = some d → d.pc.lasts = true → d.href.1 = w → slot3 (M'.rc w d.href.2.1) (P.dn q) = slot3 (curM S.M) (P.dn q))
    (hl : LocP P M' S.N nt' (S.nl w) (S.hist w) (mineOf S.ents w) w c')
    (hs1 : ∀ q d, q < P.n → q ≠ w → S.cl q = some d → SafeB S.M w c' q d) (hs2 : ∀ p d, p < P.n → p ≠ w → S.cl p = some d → SafeB S.M p d w c')
    (hs3 : c'.pc.v = true → c'.href.2.1 < 2)
    (hl1 : ∀ q d, q < P.n → q ≠ w → S.cl q = some d → LastOk P S.M w c' q d) (hl2 : ∀ p d, p < P.n → p ≠ w → S.cl p = some d → LastOk P S.M p d w c') :
    Inv P { S with M := M', cl := updF S.cl w (some c'), nt := nt' } := by
  have hp : ∀ k, k < P.n → S.M.asked k ≠ (curM S.M).getD (P.dn k) 0 → M'.asked k = S.M.asked k ∧ M'.oa k = S.M.oa k ∧ M'.ob k = S.M.ob k := fun k _ hk => by
    by_cases e : k = w
    · subst e; exact hpw hk
    · exact ⟨(ho k e).1, (ho k e).2.1, (ho k e).2.2.1⟩
  have hcnt : ∀ k, (M'.asked k = S.M.asked k ∧ nt' k = S.nt k) ∨ S.N ≤ nt' k := fun k => by
    by_cases e : k = w
    · subst e; exact hcw
    · exact .inl ⟨(ho k e).1, (ho k e).2.2.2.1⟩
  have hS : ∀ p a q b, SafeB S.M p a q b → SafeB M' p a q b := fun p a q b hh => by unfold SafeB at *; rw [hhd]; exact hh
  have hO : ∀ p a q b, LastOk P S.M p a q b → LastOk P M' p a q b := fun p a q b hh => by unfold LastOk at *; rw [hcur]; exact hh
  refine ⟨by show M'.head.1 < _ ∧ _; rw [hhd]; exact h.hd, hlen, by show P.ok ((curM M').take P.W); rw [hcur]; exact h.cok, by show _ = ((curM M').take P.W, _); rw [hcur]; exact h.rpl, fun q d hq hd => ?_, fun q hq hd => ?_, fun p q a b hp' hq ha hb => ?_, fun p q a b hp' hq ha hb => ?_, fun p r hp' hr => ?_⟩
  · rcases upd_cases (f := S.cl) hd with ⟨rfl, rfl⟩ | ⟨e, hd'⟩
    · exact hl
    · obtain ⟨o1, o2, o3, o4, o5⟩ := ho q e
      refine loc_other (h.loc q d hq hd') hhd hcur (hheld q e) o1 o2 o3 o4 hp hcnt o5 fun hv => ?_
      by_cases e2 : d.href.1 = w
      · rw [e2]; exact hL q d hq e hd' hv e2
      · rw [(ho _ e2).2.2.2.2]; exact (loc_L (h.loc q d hq hd') hv).2.2.2.2.2
  · obtain ⟨e, hd'⟩ := upd_none (f := S.cl) hd
    show M'.asked q = (curM M').getD _ 0 ∧ _
    rw [(ho q e).1, hcur]
    exact h.idle q hq hd'
  · rcases upd_cases (f := S.cl) ha with ⟨rfl, rfl⟩ | ⟨e, ha'⟩
    · rcases upd_cases (f := S.cl) hb with ⟨rfl, rfl⟩ | ⟨e2, hb'⟩
      · intro hv h1 _ h3
        exact absurd h3.symm (sideC_ne h1 (hs3 hv))
      · exact hS _ _ _ _ (hs1 q b hq e2 hb')
    · rcases upd_cases (f := S.cl) hb with ⟨rfl, rfl⟩ | ⟨e2, hb'⟩
      · exact hS _ _ _ _ (hs2 p a hp' e ha')
      · exact hS _ _ _ _ (h.safe p q a b hp' hq ha' hb')
  · rcases upd_cases (f := S.cl) ha with ⟨rfl, rfl⟩ | ⟨e, ha'⟩
    · rcases upd_cases (f := S.cl) hb with ⟨rfl, rfl⟩ | ⟨e2, hb'⟩
      · intro h1 _ h2
        exact absurd h1 (by rw [u_lasts h2]; exact Bool.false_ne_true)
      · exact hO _ _ _ _ (hl1 q b hq e2 hb')
    · rcases upd_cases (f := S.cl) hb with ⟨rfl, rfl⟩ | ⟨e2, hb'⟩
      · exact hO _ _ _ _ (hl2 p a hp' e ha')
      · exact hO _ _ _ _ (h.last p q a b hp' hq ha' hb')
  · by_cases e : p = w
    · subst e; exact hheldw r hr
    · exact h.held p r hp' ((hheld p e).symm.trans hr)
end
end Go.Proofs.YtnheodgffackoaaDoor.Y

/- A hall as a plain machine: the steps that write. -/
namespace Go.Proofs.YtnheodgffackoaaDoor.Y
set_option linter.unusedVariables false
set_option linter.unusedSimpArgs false
section
variable {P : Par} {S : St} {w : Nat} {c : Cl}
theorem run_unhelped {M M' : M3} {N ntw ntw' : Nat} {hh mm : List (O2 × O2)} (h : Run P M N ntw hh mm w c) (hf : c.helped = false) (hcur : curM M' = curM M) (ha : M'.asked w = M.asked w) : Run P M' N ntw' hh mm w c :=
  ⟨fun e => (by rw [hf] at e; cases e), fun _ => (by rw [hcur, ha]; exact h.2 hf)⟩
theorem Att.both {M M' : M3} {N ntw nlw : Nat} {c' : Cl} (h : Att P M N ntw nlw c w) (hh : M'.head = M.head) (h1 : c'.helped = c.helped) (h2 : c'.left = c.left) (h3 : c'.href = c.href) : Att P M' N ntw nlw c' w := (h.call h1 h2 h3).mem hh rfl
theorem step_hold (h : Inv P S) (hw : w < P.n) (hc : S.cl w = some c) (hp : c.pc = .hold) : Inv P { S with M := { S.M with held := updF S.M.held w (some c.href) }, cl := updF S.cl w (some { c with pc := .check }) } := by
  have hl := h.loc w c hw hc
  unfold LocP at hl; rw [hp] at hl
  obtain ⟨hr, ha⟩ := hl
  refine h.write hw hc _ _ S.nt rfl rfl h.len (fun q hq => updF_ne _ _ hq) (fun r hr' => ?_) (fun q _ => ⟨rfl, rfl, rfl, rfl, fun _ => rfl⟩) (fun _ => ⟨rfl, rfl, rfl⟩) (.inl ⟨rfl, rfl⟩) (fun q d hq _ hd hv he => ?_) ⟨hr.mem rfl rfl rfl rfl rfl, ha.both (by exact rfl) (by exact rfl) (by exact rfl) (by exact rfl), updF_self ..⟩ (fun q d _ _ _ hv => (by cases hv)) (fun p d _ _ _ _ _ _ _ => ⟨fun hv => (by cases hv), fun hv => (by cases hv)⟩) (fun hv => (by cases hv)) (fun q d _ _ _ hv => (by cases hv)) (fun p d _ _ _ _ _ hv => (by cases hv))
  · have e1 : updF S.M.held w (some c.href) w = some c.href := updF_self ..
    obtain rfl := Option.some.inj (e1.symm.trans hr')
    exact ⟨ha.h1, ha.h2, ha.h3⟩
  · have := (loc_L (h.loc q d hq hd) hv).2.2.2.2.2
    rw [he] at this; exact this
theorem Inv.says (h : Inv P S) (hw : w < P.n) (hc : S.cl w = some c) (c' : Cl) (M' : M3) (nt' : Nat → Nat) (hhd : M'.head = S.M.head) (hrc : M'.rc = S.M.rc) (hheld : M'.held = S.M.held)
    (ho : ∀ q, q ≠ w → M'.asked q = S.M.asked q ∧ M'.oa q = S.M.oa q ∧ M'.ob q = S.M.ob q ∧ nt' q = S.nt q)
    (hpw : S.M.asked w = (curM S.M).getD (P.dn w) 0) (hcw : (M'.asked w = S.M.asked w ∧ nt' w = S.nt w) ∨ S.N ≤ nt' w)
    (hl : LocP P M' S.N nt' (S.nl w) (S.hist w) (mineOf S.ents w) w c') (hv : c'.pc.v = false) (hv2 : c'.pc.lasts = false) : Inv P { S with M := M', cl := updF S.cl w (some c'), nt := nt' } := by
  have h2 : c'.pc.u = false := by revert hv; cases c'.pc <;> intro hv <;> first | rfl | cases hv
  have h3 : c'.pc.lays = false := by revert hv; cases c'.pc <;> intro hv <;> first | rfl | cases hv
  have h5 : c'.pc ≠ .scanning := by intro e; rw [e] at hv; cases hv
  refine h.write hw hc _ _ nt' hhd (by unfold curM; rw [hhd, hrc]) (by rw [hrc]; exact h.len) (fun q hq => by rw [hheld]) (fun r hr' => h.held w r hw (by rw [← hheld]; exact hr')) (fun q hq => ?_) (fun hn => absurd hpw hn) hcw (fun q d hq _ hd hv he => ?_) hl (fun q d _ _ _ h1 => ?_) (fun p d _ _ _ _ _ _ _ => ⟨fun h1 => ?_, fun h1 => absurd h1 h5⟩) (fun h1 => ?_) (fun q d _ _ _ h1 => ?_) (fun p d _ _ _ _ _ h1 => ?_)
  · obtain ⟨o1, o2, o3, o4⟩ := ho q hq
    exact ⟨o1, o2, o3, o4, fun s => by rw [hrc]⟩
  · have := (loc_L (h.loc q d hq hd) hv).2.2.2.2.2
    rw [hrc, ← he]; exact this
  · rw [hv] at h1; cases h1
  · rw [h3] at h1; cases h1
  · rw [hv] at h1; cases h1
  · rw [hv2] at h1; cases h1
  · rw [h2] at h1; cases h1
theorem step_tellA (h : Inv P S) (hw : w < P.n) (hc : S.cl w = some c) (hp : c.pc = .tellA) : Inv P { S with M := { S.M with oa := updF S.M.oa w c.op.1 }, cl := updF S.cl w (some { c with pc := .tellB }) } := by
  have hl := h.loc w c hw hc
  unfold LocP at hl; rw [hp] at hl
  obtain ⟨hr, hf⟩ := hl
  exact h.says hw hc _ _ S.nt rfl rfl rfl (fun q hq => ⟨rfl, updF_ne _ _ hq, rfl, rfl⟩) (hr.2 hf).1 (.inl ⟨rfl, rfl⟩) ⟨run_unhelped hr hf rfl rfl, hf, updF_self ..⟩ rfl rfl
theorem step_tellB (h : Inv P S) (hw : w < P.n) (hc : S.cl w = some c) (hp : c.pc = .tellB) : Inv P { S with M := { S.M with ob := updF S.M.ob w c.op.2 }, cl := updF S.cl w (some { c with pc := .tell }) } := by
  have hl := h.loc w c hw hc
  unfold LocP at hl; rw [hp] at hl
  obtain ⟨hr, hf, ho⟩ := hl
  exact h.says hw hc _ _ S.nt rfl rfl rfl (fun q hq => ⟨rfl, rfl, updF_ne _ _ hq, rfl⟩) (hr.2 hf).1 (.inl ⟨rfl, rfl⟩) ⟨run_unhelped hr hf rfl rfl, hf, ho, updF_self ..⟩ rfl rfl
theorem step_tell (h : Inv P S) (hw : w < P.n) (hc : S.cl w = some c) (hp : c.pc = .tell) : Inv P { S with M := { S.M with asked := updF S.M.asked w (P.bump (S.M.asked w)) }, cl := updF S.cl w (some { c with pc := .load, helped := true, left := 2 }), nt := updF S.nt w S.N } := by
  have hl := h.loc w c hw hc
  unfold LocP at hl; rw [hp] at hl
  obtain ⟨hr, hf, ho, ho2⟩ := hl
  obtain ⟨r1, r2⟩ := hr.2 hf
  have hne : updF S.M.asked w (P.bump (S.M.asked w)) w ≠ (curM S.M).getD (P.dn w) 0 := by rw [updF_self, ← r1]; exact P.bump_ne _
  refine h.says hw hc _ _ _ rfl rfl rfl (fun q hq => ⟨updF_ne _ _ hq, rfl, rfl, updF_ne _ _ hq⟩) r1 (.inr (by rw [updF_self]; exact Nat.le_refl _)) ⟨⟨fun _ => ⟨ho, ho2, by rw [updF_self]; exact Nat.le_refl _, fun e => absurd e hne, fun _ => r2, fun e => ?_⟩, fun e => by cases e⟩, by show 1 ≤ 2; omega, fun _ => ⟨Nat.le_refl _, fun e => by cases e⟩⟩ rfl rfl
  rw [updF_self] at e; omega
theorem step_laying (h : Inv P S) (hw : w < P.n) (hc : S.cl w = some c) (hp : c.pc = .laying) : Inv P { S with M := { S.M with rc := updR S.M.rc w (sideC w c.href) ((S.M.rc w (sideC w c.href)).set c.laid (c.cp.getD c.laid 0)) }, cl := updF S.cl w (some { c with laid := c.laid + 1, pc := if c.laid + 1 = P.R then .swing else .laying }) } := by
  have hl := h.loc w c hw hc
  unfold LocP at hl; rw [hp] at hl
  obtain ⟨hr, ha, hh, hu, l1, l2, l3, l4⟩ := hl
  have hpu : c.pc.u = true := by rw [hp]; rfl
  have hlen0 := h.len w (sideC w c.href) hw (sideC_lt _ _)
  have hcur : curM { S.M with rc := updR S.M.rc w (sideC w c.href) ((S.M.rc w (sideC w c.href)).set c.laid (c.cp.getD c.laid 0)) } = curM S.M := updR_ne _ _ fun e => hu.side e.1 e.2
  have hself : updR S.M.rc w (sideC w c.href) ((S.M.rc w (sideC w c.href)).set c.laid (c.cp.getD c.laid 0)) w (sideC w c.href) = (S.M.rc w (sideC w c.href)).set c.laid (c.cp.getD c.laid 0) := updR_self ..
  have htk : ((S.M.rc w (sideC w c.href)).set c.laid (c.cp.getD c.laid 0)).take (c.laid + 1) = c.cp.take (c.laid + 1) := by
    rw [take_succ_getD (by simp; omega), take_set_ge (Nat.le_refl _), l4, getD_set_self (by omega), ← take_succ_getD (by rw [hu.len]; exact l3)]
  have hmem : ∀ c' : Cl, UP P S.M S.N S.nt w c → c'.helped = c.helped → c'.pc.ends = true → c'.op = c.op → c'.ans = c.ans → c'.cp = c.cp → c'.done = c.done → c'.who = c.who → c'.href = c.href → UP P { S.M with rc := updR S.M.rc w (sideC w c.href) ((S.M.rc w (sideC w c.href)).set c.laid (c.cp.getD c.laid 0)) } S.N S.nt w c' := fun c' u e1 e2 e3 e4 e5 e6 e7 e8 => by
    have u2 : UP P { S.M with rc := updR S.M.rc w (sideC w c.href) ((S.M.rc w (sideC w c.href)).set c.laid (c.cp.getD c.laid 0)) } S.N S.nt w c := ⟨u.len, u.ok, u.side, fun e => (u.good e).mem hcur (fun _ _ _ => ⟨rfl, rfl, rfl⟩) (fun _ => .inl ⟨rfl, rfl⟩) rfl, u.dl⟩
    exact u2.call e1 (by rw [hp]; exact e2) e3 e4 e5 e6 e7 e8
  have hsl : ∀ q d, q < P.n → q ≠ w → S.cl q = some d → d.pc.lasts = true → d.href.1 = w → slot3 (updR S.M.rc w (sideC w c.href) ((S.M.rc w (sideC w c.href)).set c.laid (c.cp.getD c.laid 0)) w d.href.2.1) (P.dn q) = slot3 (curM S.M) (P.dn q) := fun q d hq hqw hd hv he => by
    have h0 := (loc_L (h.loc q d hq hd) hv).2.2.2.2.2
    rw [he] at h0
    by_cases e : d.href.2.1 = sideC w c.href
    · have h1 := (h.last q w d c hq hw hd hc hv he hpu e.symm).1
      rw [e] at h0 ⊢
      rw [hself]
      obtain ⟨a1, a2, a3⟩ := slot3_eq h0
      obtain ⟨b1, b2, b3⟩ := slot3_eq h1
      have key : ∀ i, i < P.R → (S.M.rc w (sideC w c.href)).getD i 0 = (curM S.M).getD i 0 → c.cp.getD i 0 = (curM S.M).getD i 0 → ((S.M.rc w (sideC w c.href)).set c.laid (c.cp.getD c.laid 0)).getD i 0 = (curM S.M).getD i 0 := fun i hi g1 g2 => by
        by_cases e2 : c.laid = i
        · rw [e2, getD_set_self (by omega)]; exact g2
        · rw [getD_set_other e2]; exact g1
      have hd := dn_lt (P := P) hq
      unfold slot3
      rw [key _ (by omega) a1 b1, key _ (by omega) a2 b2, key _ (by omega) a3 b3]
    · rw [updR_ne _ _ fun e2 => e e2.2]; exact h0
  have hlen : ∀ q s, q < P.n → s < 2 → (updR S.M.rc w (sideC w c.href) ((S.M.rc w (sideC w c.href)).set c.laid (c.cp.getD c.laid 0)) q s).length = P.R := fun q s hq hs => by
    unfold updR
    split
    · simpa using hlen0
    · exact h.len q s hq hs
  have hlast : ∀ p d, p < P.n → p ≠ w → S.cl p = some d → ∀ c' : Cl, c'.cp = c.cp → c'.href = c.href → c'.pc.asks = false → LastOk P S.M p d w c' := fun p d hp' hpw hd c' e1 e2 e3 hv h1 _ h2 => by
    rw [e2] at h2; rw [e1, e3]
    exact ⟨(h.last p w d c hp' hw hd hc hv h1 hpu h2).1, fun e => by cases e⟩
  have hsafe : ∀ p d, p < P.n → p ≠ w → S.cl p = some d → ∀ c' : Cl, c'.href = c.href → c'.tag = c.tag → c'.pc ≠ .scanning → SafeB S.M p d w c' := fun p d hp' hpw hd c' e1 e2 e3 hv h1 hne hs => by
    rw [e1] at hs; rw [e2]
    exact ⟨fun _ => (h.safe p w d c hp' hw hd hc hv h1 hne hs).1 (by rw [hp]; rfl), fun e => absurd e e3⟩
  by_cases e : c.laid + 1 = P.R
  · rw [if_pos e]
    refine h.write hw hc _ _ S.nt rfl hcur hlen (fun _ _ => rfl) (fun r hr' => h.held w r hw hr') (fun q hq => ⟨rfl, rfl, rfl, rfl, fun s => updR_ne _ _ fun e => hq e.1⟩) (fun _ => ⟨rfl, rfl, rfl⟩) (.inl ⟨rfl, rfl⟩) hsl ⟨hr.mem hcur rfl rfl rfl rfl, ha.both (by exact rfl) (by exact rfl) (by exact rfl) (by exact rfl), hh, hmem _ hu rfl rfl rfl rfl rfl rfl rfl rfl, l1, l2, ?_⟩ (fun q d hq _ hd _ => h.safe w q c d hw hq hc hd (Pc.u_v hpu)) (fun p d hp' hpw hd => hsafe p d hp' hpw hd _ rfl rfl (fun e => (by cases e))) (fun _ => ha.h2) (fun q d _ _ _ hv => (by cases hv)) (fun p d hp' hpw hd => hlast p d hp' hpw hd _ rfl rfl rfl)
    show updR S.M.rc w (sideC w c.href) _ w (sideC w c.href) = c.cp
    rw [hself]
    rw [e] at htk
    rw [List.take_of_length_le (by simp; omega), List.take_of_length_le (by rw [hu.len]; exact Nat.le_refl _)] at htk
    exact htk
  · rw [if_neg e]
    refine h.write hw hc _ _ S.nt rfl hcur hlen (fun _ _ => rfl) (fun r hr' => h.held w r hw hr') (fun q hq => ⟨rfl, rfl, rfl, rfl, fun s => updR_ne _ _ fun e => hq e.1⟩) (fun _ => ⟨rfl, rfl, rfl⟩) (.inl ⟨rfl, rfl⟩) hsl ⟨hr.mem hcur rfl rfl rfl rfl, ha.both (by exact rfl) (by exact rfl) (by exact rfl) (by exact rfl), hh, hmem _ hu rfl rfl rfl rfl rfl rfl rfl rfl, l1, l2, by show c.laid + 1 < P.R; omega, ?_⟩ (fun q d hq _ hd _ => h.safe w q c d hw hq hc hd (Pc.u_v hpu)) (fun p d hp' hpw hd => hsafe p d hp' hpw hd _ rfl rfl (fun e => (by cases e))) (fun _ => ha.h2) (fun q d _ _ _ hv => (by cases hv)) (fun p d hp' hpw hd => hlast p d hp' hpw hd _ rfl rfl rfl)
    show (updR S.M.rc w (sideC w c.href) _ w (sideC w c.href)).take _ = c.cp.take _
    rw [hself]
    exact htk
end
end Go.Proofs.YtnheodgffackoaaDoor.Y

/- A hall as a plain machine: the swing; any step; a new call. -/
namespace Go.Proofs.YtnheodgffackoaaDoor.Y
set_option linter.unusedVariables false
set_option linter.unusedSimpArgs false
section
variable {P : Par} {S : St} {w : Nat} {c : Cl}
theorem step_swing (h : Inv P S) (hw : w < P.n) (hc : S.cl w = some c) (hp : c.pc = .swing) (he : S.M.head = c.href) (A : O2) (hA : A = if c.helped = true then (slot3 c.cp (P.dn w)).2 else c.ans) :
    Inv P { S with M := { S.M with head := c.to w }, cl := updF S.cl w (some { c with pc := .over, ans := A }), ents := S.ents ++ c.done, hist := updF S.hist w (S.hist w ++ [(c.op, A)]), N := S.N + 1 } := by
  have hl := h.loc w c hw hc
  unfold LocP at hl; rw [hp] at hl
  obtain ⟨hr, ha, hh, hu, l1, l2, l3⟩ := hl
  have hpu : c.pc.u = true := by rw [hp]; rfl
  have g := hu.good he
  have hcur : curM { S.M with head := c.to w } = c.cp := l3
  have unt : ∀ q, q < P.n → q ≠ w → S.M.asked q = (curM S.M).getD (P.dn q) 0 → slot3 c.cp (P.dn q) = slot3 (curM S.M) (P.dn q) ∧ mineOf c.done q = [] := fun q hq hqw e => by
    rcases g.sl q hq with ⟨g1, g2⟩ | ⟨_, g2, _⟩
    · exact ⟨g1, g2.trans (by unfold ownPart; rw [if_neg fun h => hqw h.1])⟩
    · exact absurd e g2
  have hne : ∀ q d, q < P.n → q ≠ w → S.cl q = some d → d.pc.v = true → c.to w ≠ d.href := fun q d hq hqw hd hv e => by
    by_cases e2 : S.M.head = d.href
    · have := hu.side (by rw [e2, ← e]; rfl)
      apply this
      rw [e2, ← e]; rfl
    · exact (h.safe q w d c hq hw hd hc hv (by rw [← e]; rfl) e2 (by rw [← e]; rfl)).1 (by rw [hp]; rfl) (by rw [← e]; rfl)
  have run : ∀ q d, q < P.n → q ≠ w → Run P S.M S.N (S.nt q) (S.hist q) (mineOf S.ents q) q d → Run P { S.M with head := c.to w } (S.N + 1) (S.nt q) (S.hist q) (mineOf (S.ents ++ c.done) q) q d := fun q d hq hqw hr' => by
    unfold Run
    rw [hcur, mineOf_app]
    refine ⟨fun e => ?_, fun e => ?_⟩
    · obtain ⟨r1, r2, r3, r4, r5, r6⟩ := hr'.1 e
      refine ⟨r1, r2, Nat.le_succ_of_le r3, ?_⟩
      show (S.M.asked q = c.cp.getD (P.dn q) 0 → _) ∧ (S.M.asked q ≠ c.cp.getD (P.dn q) 0 → _) ∧ (_ → S.M.asked q = c.cp.getD (P.dn q) 0)
      refine ⟨fun e2 => ?_, fun e2 => ?_, fun e2 => ?_⟩
      · rcases g.sl q hq with ⟨g1, g2⟩ | ⟨_, g2, g3, g4⟩
        · rw [(slot3_eq g1).1] at e2
          rw [(unt q hq hqw e2).2, r4 e2, g1, List.append_nil]
        · rw [r5 g2, g4, r1, r2]
          congr 2
          unfold ownPart; rw [if_neg fun h => hqw h.1]
      · rcases g.sl q hq with ⟨g1, g2⟩ | ⟨_, g2, g3, g4⟩
        · rw [(slot3_eq g1).1] at e2
          rw [r5 e2, g2]
          unfold ownPart; rw [if_neg fun h => hqw h.1, List.append_nil]
        · exact absurd g3.symm e2
      · rcases g.cnt q (by omega) with e3 | e3
        · exact e3
        · omega
    · obtain ⟨r1, r2⟩ := hr'.2 e
      obtain ⟨u1, u2⟩ := unt q hq hqw r1
      show S.M.asked q = c.cp.getD (P.dn q) 0 ∧ _
      rw [(slot3_eq u1).1, u2, List.append_nil]
      exact ⟨r1, r2⟩
  have att : ∀ q d nlw, Att P S.M S.N (S.nt q) nlw d q → Att P { S.M with head := c.to w } (S.N + 1) (S.nt q) nlw d q := fun q d nlw a => ⟨a.h1, a.h2, a.h3, a.l1, fun _ => Nat.lt_succ_of_le a.le, Nat.le_succ_of_le a.le, a.help⟩
  have up : ∀ q d, q < P.n → q ≠ w → S.cl q = some d → d.pc.u = true → UP P S.M S.N S.nt q d → UP P { S.M with head := c.to w } (S.N + 1) S.nt q d := fun q d hq hqw hd hv u => ⟨u.len, u.ok, fun e => absurd e.symm hqw, fun e => absurd e (hne q d hq hqw hd (Pc.u_v hv)), u.dl⟩
  have own : S.M.asked w = c.cp.getD (P.dn w) 0 ∧ mineOf (S.ents ++ c.done) w = S.hist w ++ [(c.op, A)] := by
    rw [mineOf_app, hA]
    by_cases e : c.helped = true
    · rw [if_pos e]
      obtain ⟨r1, r2, r3, r4, r5, r6⟩ := hr.1 e
      refine ⟨g.own e (by omega), ?_⟩
      rcases g.sl w hw with ⟨g1, g2⟩ | ⟨_, g2, g3, g4⟩
      · have e2 : S.M.asked w = (curM S.M).getD (P.dn w) 0 := (g.own e (by omega)).trans (slot3_eq g1).1
        rw [g2, ownPart_helped e, r4 e2, g1, List.append_nil]
      · rw [r5 g2, g4, r1, r2, ownPart_helped e]
    · have e' : c.helped = false := by simpa using e
      rw [if_neg e]
      obtain ⟨r1, r2⟩ := hr.2 e'
      rcases g.sl w hw with ⟨g1, g2⟩ | ⟨_, g2, _⟩
      · refine ⟨r1.trans (slot3_eq g1).1.symm, ?_⟩
        rw [g2, r2]
        unfold ownPart; rw [if_pos ⟨rfl, e', by rw [hp]; rfl⟩]
      · exact absurd r1 g2
  refine ⟨⟨hw, sideC_lt _ _, l2⟩, h.len, by show P.ok ((curM { S.M with head := c.to w }).take P.W); rw [hcur]; exact hu.ok, ?_, fun q d hq hd => ?_, fun q hq hd => ?_, fun p q a b hp' hq ha' hb => ?_, fun p q a b hp' hq ha' hb => ?_, h.held⟩
  · show rep P.ap _ ((S.ents ++ c.done).map _) = ((curM { S.M with head := c.to w }).take P.W, (S.ents ++ c.done).map _)
    rw [hcur, List.map_append, List.map_append, rep_app, h.rpl, g.rpl]
  · rcases upd_cases (f := S.cl) hd with ⟨rfl, rfl⟩ | ⟨e, hd'⟩
    · show S.M.asked q = (curM { S.M with head := c.to q }).getD (P.dn q) 0 ∧ _ = updF _ _ _ _
      rw [hcur, updF_self]
      exact own
    · have hl := h.loc q d hq hd'
      show LocP P { S.M with head := c.to w } (S.N + 1) S.nt (S.nl q) (updF S.hist w _ q) (mineOf (S.ents ++ c.done) q) q d
      rw [updF_ne _ _ e]
      have un := unt q hq e
      have rn := run q d hq e
      have at_ := att q d (S.nl q)
      have up_ := up q d hq e hd'
      have ne_ := hne q d hq e hd'
      unfold LocP at hl ⊢
      cases hpc : d.pc <;> rw [hpc] at hl up_ ne_ <;> simp only at hl ⊢
      · exact ⟨rn hl.1, hl.2.1, fun hh => ⟨(hl.2.2 hh).1, fun h1 => Nat.le_succ_of_le ((hl.2.2 hh).2 h1)⟩⟩
      · exact ⟨rn hl.1, at_ hl.2⟩
      · exact ⟨rn hl.1, at_ hl.2.1, hl.2.2⟩
      · exact ⟨rn hl.1, at_ hl.2.1, hl.2.2.1, hl.2.2.2.1, fun e => absurd e (ne_ rfl)⟩
      · exact ⟨rn hl.1, at_ hl.2.1, hl.2.2.1, hl.2.2.2.1, fun e => absurd e (ne_ rfl)⟩
      · exact ⟨rn hl.1, at_ hl.2.1, hl.2.2.1, up_ rfl hl.2.2.2.1, hl.2.2.2.2⟩
      · exact ⟨rn hl.1, at_ hl.2.1, hl.2.2.1, up_ rfl hl.2.2.2.1, hl.2.2.2.2.1, hl.2.2.2.2.2.1, fun e => absurd e (ne_ rfl)⟩
      · exact ⟨rn hl.1, at_ hl.2.1, hl.2.2.1, up_ rfl hl.2.2.2.1, hl.2.2.2.2.1, hl.2.2.2.2.2.1, fun e => absurd e (ne_ rfl)⟩
      · exact ⟨rn hl.1, at_ hl.2.1, hl.2.2.1, up_ rfl hl.2.2.2.1, hl.2.2.2.2⟩
      · exact ⟨rn hl.1, at_ hl.2.1, hl.2.2.1, up_ rfl hl.2.2.2.1, hl.2.2.2.2⟩
      · exact ⟨rn hl.1, at_ hl.2.1, hl.2.2.1, up_ rfl hl.2.2.2.1, hl.2.2.2.2⟩
      · exact ⟨rn hl.1, hl.2⟩
      · exact ⟨rn hl.1, hl.2⟩
      · exact ⟨rn hl.1, hl.2⟩
      · rw [hcur]
        obtain ⟨u1, u2⟩ := un hl.2.2
        exact ⟨rn hl.1, hl.2.1, hl.2.2.trans (slot3_eq u1).1.symm⟩
      · rw [hcur]
        obtain ⟨u1, u2⟩ := un hl.2.2.1
        exact ⟨rn hl.1, hl.2.1, hl.2.2.1.trans (slot3_eq u1).1.symm, hl.2.2.2.1, hl.2.2.2.2.1, hl.2.2.2.2.2.trans u1.symm⟩
      · rw [hcur]
        obtain ⟨u1, u2⟩ := un hl.2.2.1
        exact ⟨rn hl.1, hl.2.1, hl.2.2.1.trans (slot3_eq u1).1.symm, hl.2.2.2.1, hl.2.2.2.2.1, hl.2.2.2.2.2.1.trans u1.symm, hl.2.2.2.2.2.2.trans (slot3_eq u1).2.1.symm⟩
      · rw [hcur]
        obtain ⟨u1, u2⟩ := un hl.1
        rw [mineOf_app, u2, List.append_nil]
        exact ⟨hl.1.trans (slot3_eq u1).1.symm, hl.2⟩
  · obtain ⟨e, hd'⟩ := upd_none (f := S.cl) hd
    obtain ⟨i1, i2⟩ := h.idle q hq hd'
    obtain ⟨u1, u2⟩ := unt q hq e i1
    show S.M.asked q = (curM { S.M with head := c.to w }).getD (P.dn q) 0 ∧ mineOf (S.ents ++ c.done) q = updF _ _ _ _
    rw [hcur, mineOf_app, u2, List.append_nil, updF_ne _ _ e]
    exact ⟨i1.trans (slot3_eq u1).1.symm, i2⟩
  · rcases upd_cases (f := S.cl) ha' with ⟨rfl, rfl⟩ | ⟨e, ha2⟩
    · intro hv; cases hv
    · rcases upd_cases (f := S.cl) hb with ⟨rfl, rfl⟩ | ⟨e2, hb2⟩
      · intro _ _ _ _; exact ⟨fun hv => (by cases hv), fun hv => (by cases hv)⟩
      · intro hv h1 _ hs
        by_cases e3 : S.M.head = a.href
        · have hbl := h.loc q b hq hb2
          have key : b.pc.u = true → False := fun hub => (loc_U hbl hub).side (by rw [e3]; exact h1) (by rw [e3]; exact hs.symm)
          exact ⟨fun hv => (key (u_lays hv)).elim, fun hv => (key (by rw [hv]; rfl)).elim⟩
        · exact h.safe p q a b hp' hq ha2 hb2 hv h1 e3 hs
  · rcases upd_cases (f := S.cl) ha' with ⟨rfl, rfl⟩ | ⟨e, ha2⟩
    · intro hv; cases hv
    · rcases upd_cases (f := S.cl) hb with ⟨rfl, rfl⟩ | ⟨e2, hb2⟩
      · intro _ _ hv; cases hv
      · intro hv h1 hu2 hs
        have hL := h.last p q a b hp' hq ha2 hb2 hv h1 hu2 hs
        obtain ⟨u1, _⟩ := unt p hp' e (loc_L (h.loc p a hp' ha2) hv).2.2.1
        rw [hcur]
        exact ⟨hL.1.trans u1.symm, hL.2⟩
/-! Any step. -/
def histC (f : Nat → List (O2 × O2)) (w : Nat) (c' : Cl) : Nat → List (O2 × O2) := match c'.pc with
  | .over => updF f w (f w ++ [(c'.op, c'.ans)])
  | _ => f
def swingC (M : M3) (c : Cl) (n : Nat) : Nat := match c.pc with
  | .swing => if M.head = c.href then n + 1 else n
  | _ => n
def tellC (f : Nat → Nat) (w : Nat) (c : Cl) (n : Nat) : Nat → Nat := match c.pc with
  | .tell => updF f w n
  | _ => f
def loadC (f : Nat → Nat) (w : Nat) (c : Cl) (n : Nat) : Nat → Nat := match c.pc with
  | .load => updF f w n
  | _ => f
def St.after (S : St) (w : Nat) (c : Cl) (r : M3 × Cl × List Dn) : St := { M := r.1, cl := updF S.cl w (some r.2.1), ents := S.ents ++ r.2.2, hist := histC S.hist w r.2.1, N := swingC S.M c S.N, nt := tellC S.nt w c S.N, nl := loadC S.nl w c S.N }
/-- A step of a worker; nothing, if it asks nothing. -/
def St.step (P : Par) (S : St) (w : Nat) : St := match S.cl w with
  | none => S
  | some c => match c.pc with
    | .over => S
    | _ => S.after w c (stepC P w S.M c)
theorem fail_hist {f : Nat → List (O2 × O2)} : histC f w (failC c) = f := by
  unfold histC failC
  by_cases h1 : 1 < c.left
  · simp [h1]
  · by_cases hp : c.helped = true <;> simp [h1, hp]
theorem turn_hist {f : Nat → List (O2 × O2)} : histC f w (turnC P w c) = f := by
  unfold histC turnC
  by_cases h1 : c.who + 1 < P.n
  · rw [if_pos h1]
  · rw [if_neg h1]
theorem Inv.step (h : Inv P S) (hw : w < P.n) : Inv P (S.step P w) := by
  unfold St.step
  cases hc : S.cl w with
  | none => exact h
  | some c =>
    have hl := h.loc w c hw hc
    simp only
    cases hp : c.pc <;> simp only [St.after, stepC, hp, swingC, tellC, loadC]
    · have := step_load h hw hc hp; simpa [histC] using this
    · have := step_hold h hw hc hp; simpa [histC] using this
    · by_cases e : S.M.head = c.href
      · have := step_check h hw hc hp e; simpa [e, histC] using this
      · unfold LocP at hl; rw [hp] at hl
        have := h.fails hw hc hl.1 hl.2.1 e; simp only [e, if_false]; rw [fail_hist]; simpa using this
    · have := step_copying h hw hc hp
      by_cases e : c.cp.length + 1 = P.R <;> simpa [e, histC] using this
    · by_cases e : S.M.head = c.href
      · simp only [e, if_true]
        by_cases e2 : c.helped = true ∧ c.cp.getD (P.dn w) 0 = S.M.asked w
        · have := step_told h hw hc hp e e2; rw [if_pos e2]; simpa [histC] using this
        · have := step_recheck h hw hc hp e; rw [if_neg e2]; simpa [histC] using this
      · unfold LocP at hl; rw [hp] at hl
        have := h.fails hw hc hl.1 hl.2.1 e; simp only [e, if_false]; rw [fail_hist]; simpa using this
    · by_cases e : S.M.asked c.who = c.cp.getD (P.dn c.who) 0
      · have := step_skip h hw hc hp e; rw [if_pos e]; simp only; rw [turn_hist]; rw [hp] at this; simpa using this
      · have := step_ask h hw hc hp e; rw [if_neg e]; simpa [histC] using this
    · have := step_askA h hw hc hp; simpa [histC] using this
    · have := step_askB h hw hc hp; rw [turn_hist]; rw [hp] at this; simpa using this
    · have := step_scanning h hw hc hp
      by_cases e : c.pos + 1 = P.n <;> simpa [e, histC] using this
    · have := step_laying h hw hc hp
      by_cases e : c.laid + 1 = P.R <;> simpa [e, histC] using this
    · by_cases e : S.M.head = c.href
      · have := step_swing h hw hc hp e _ rfl; rw [if_pos e, if_pos e]; simpa [histC] using this
      · unfold LocP at hl; rw [hp] at hl
        have := h.fails hw hc hl.1 hl.2.1 e; rw [if_neg e, if_neg e]; simp only; rw [fail_hist]; simpa using this
    · have := step_tellA h hw hc hp; simpa [histC] using this
    · have := step_tellB h hw hc hp; simpa [histC] using this
    · have := step_tell h hw hc hp; simpa [histC] using this
    · have := step_last h hw hc hp; simpa [histC] using this
    · have := step_lastA h hw hc hp; simpa [histC] using this
    · have := step_lastB h hw hc hp; simpa [histC] using this
    · exact h
end
end Go.Proofs.YtnheodgffackoaaDoor.Y

/- A hall as a plain machine: calls begin; how many steps are left; what a step leaves of the others. -/
namespace Go.Proofs.YtnheodgffackoaaDoor.Y
set_option linter.unusedVariables false
set_option linter.unusedSimpArgs false
section
variable {P : Par} {S : St} {w : Nat} {c : Cl}
def St.call (S : St) (w : Nat) (c : Cl) : St := { S with cl := updF S.cl w (some c) }
/-- A call that begins. -/
structure Fresh (c : Cl) : Prop where
  helped : c.helped = false
  pc : (c.pc = .load ∧ 1 ≤ c.left) ∨ c.pc = .tellA
def Idle (S : St) (w : Nat) : Prop := S.cl w = none ∨ ∃ c, S.cl w = some c ∧ c.pc = .over
theorem Inv.idle' (h : Inv P S) (hw : w < P.n) (hi : Idle S w) : S.M.asked w = (curM S.M).getD (P.dn w) 0 ∧ mineOf S.ents w = S.hist w := by
  rcases hi with hi | ⟨c, hc, hp⟩
  · exact h.idle w hw hi
  · have := h.loc w c hw hc
    unfold LocP at this
    rw [hp] at this
    exact this
theorem Inv.call (h : Inv P S) (hw : w < P.n) (hi : Idle S w) (hc : Fresh c) : Inv P (S.call w c) := by
  obtain ⟨i1, i2⟩ := h.idle' hw hi
  have hr : Run P S.M S.N (S.nt w) (S.hist w) (mineOf S.ents w) w c := ⟨fun e => (by rw [hc.helped] at e; cases e), fun _ => ⟨i1, i2⟩⟩
  rcases hc.pc with ⟨hp, hl⟩ | hp
  · refine h.calm0 hw c S.nl S.hist (fun _ _ => rfl) (fun _ _ => rfl) ?_ (by rw [hp]; rfl) (by rw [hp]; rfl)
    unfold LocP
    rw [hp]
    exact ⟨hr, hl, fun e => by rw [hc.helped] at e; cases e⟩
  · refine h.calm0 hw c S.nl S.hist (fun _ _ => rfl) (fun _ _ => rfl) ?_ (by rw [hp]; rfl) (by rw [hp]; rfl)
    unfold LocP
    rw [hp]
    exact ⟨hr, hc.helped⟩
/-- How many steps a call takes yet, at most. -/
def rkA (P : Par) : Nat := 2 * P.R + 4 * P.n + 5
def rkE (P : Par) (c : Cl) : Nat := if c.helped = true then 3 else 2 * rkA P + 6
def rk (P : Par) (c : Cl) : Nat := match c.pc with
  | .load => c.left * rkA P + rkE P c
  | .hold => (c.left - 1) * rkA P + (2 * P.R + 4 * P.n + 4) + rkE P c
  | .check => (c.left - 1) * rkA P + (2 * P.R + 4 * P.n + 3) + rkE P c
  | .copying => (c.left - 1) * rkA P + ((P.R - c.cp.length) + P.R + 4 * P.n + 2) + rkE P c
  | .recheck => (c.left - 1) * rkA P + (P.R + 4 * P.n + 2) + rkE P c
  | .ask => (c.left - 1) * rkA P + (3 * (P.n - c.who) + P.n + P.R + 1) + rkE P c
  | .askA => (c.left - 1) * rkA P + (3 * (P.n - c.who) - 1 + P.n + P.R + 1) + rkE P c
  | .askB => (c.left - 1) * rkA P + (3 * (P.n - c.who) - 2 + P.n + P.R + 1) + rkE P c
  | .scanning => (c.left - 1) * rkA P + ((P.n - c.pos) + P.R + 1) + rkE P c
  | .laying => (c.left - 1) * rkA P + ((P.R - c.laid) + 1) + rkE P c
  | .swing => (c.left - 1) * rkA P + 1 + rkE P c
  | .tellA => 2 * rkA P + 6
  | .tellB => 2 * rkA P + 5
  | .tell => 2 * rkA P + 4
  | .last => 3
  | .lastA => 2
  | .lastB => 1
  | .over => 0
theorem rk_fail (hl : 1 ≤ c.left) (x : Nat) (hx : 1 ≤ x) : rk P (failC c) + 1 ≤ (c.left - 1) * rkA P + x + rkE P c := by
  unfold failC
  by_cases h1 : 1 < c.left
  · rw [if_pos h1]
    show (c.left - 1) * rkA P + rkE P c + 1 ≤ _
    omega
  · rw [if_neg h1]
    have e : c.left - 1 = 0 := by omega
    rw [e, Nat.zero_mul]
    by_cases h2 : c.helped = true
    · rw [if_pos h2]
      show 3 + 1 ≤ _
      unfold rkE; rw [if_pos h2]; omega
    · rw [if_neg h2]
      show 2 * rkA P + 6 + 1 ≤ _
      unfold rkE; rw [if_neg h2]; omega
theorem rk_turn (x : Nat) (hw : c.who < P.n) (hx : 3 * (P.n - c.who) - 2 ≤ x) : rk P (turnC P w c) + 1 ≤ (c.left - 1) * rkA P + (x + P.n + P.R + 1) + rkE P c := by
  unfold turnC
  by_cases h1 : c.who + 1 < P.n
  · rw [if_pos h1]
    show (c.left - 1) * rkA P + (3 * (P.n - (c.who + 1)) + P.n + P.R + 1) + rkE P c + 1 ≤ _
    omega
  · rw [if_neg h1]
    have e1 : (ownC P w { c with who := c.who + 1 }).left = c.left := by unfold ownC; split <;> rfl
    have e2 : (ownC P w { c with who := c.who + 1 }).helped = c.helped := by unfold ownC; split <;> rfl
    have e3 : ∀ c' : Cl, c'.helped = c.helped → rkE P c' = rkE P c := fun c' h => by unfold rkE; rw [h]
    show ((ownC P w { c with who := c.who + 1 }).left - 1) * rkA P + ((P.n - 0) + P.R + 1) + rkE P _ + 1 ≤ _
    rw [e1, e3 _ (by exact e2)]
    omega
theorem rk_step (h : Inv P S) (hw : w < P.n) (hc : S.cl w = some c) (hp : c.pc ≠ .over) : rk P (stepC P w S.M c).2.1 + 1 ≤ rk P c := by
  have hl := h.loc w c hw hc
  unfold LocP at hl
  cases hpc : c.pc <;> rw [hpc] at hl <;> simp only [stepC, hpc] at hl ⊢
  · show (c.left - 1) * rkA P + (2 * P.R + 4 * P.n + 4) + rkE P c + 1 ≤ rk P c
    have e : rk P c = c.left * rkA P + rkE P c := by unfold rk; rw [hpc]
    have e2 : c.left * rkA P = (c.left - 1) * rkA P + rkA P := by
      have : c.left = (c.left - 1) + 1 := by omega
      conv => lhs; rw [this]
      rw [Nat.add_mul, Nat.one_mul]
    rw [e, e2]; unfold rkA; omega
  · show (c.left - 1) * rkA P + (2 * P.R + 4 * P.n + 3) + rkE P c + 1 ≤ rk P c
    unfold rk; rw [hpc]; simp only; omega
  · have e : rk P c = (c.left - 1) * rkA P + (2 * P.R + 4 * P.n + 3) + rkE P c := by unfold rk; rw [hpc]
    split
    · show (c.left - 1) * rkA P + ((P.R - 0) + P.R + 4 * P.n + 2) + rkE P c + 1 ≤ _
      rw [e]; omega
    · rw [e]; exact rk_fail hl.2.1.l1 _ (by omega)
  · have e : rk P c = (c.left - 1) * rkA P + ((P.R - c.cp.length) + P.R + 4 * P.n + 2) + rkE P c := by unfold rk; rw [hpc]
    have h1 := hl.2.2.2.1
    have e2 : ∀ x : Int, (c.cp ++ [x]).length = c.cp.length + 1 := fun x => by simp
    split
    · show (c.left - 1) * rkA P + (P.R + 4 * P.n + 2) + rkE P c + 1 ≤ _
      rw [e]; omega
    · show (c.left - 1) * rkA P + ((P.R - (c.cp ++ [_]).length) + P.R + 4 * P.n + 2) + rkE P c + 1 ≤ _
      rw [e, e2]; omega
  · have e : rk P c = (c.left - 1) * rkA P + (P.R + 4 * P.n + 2) + rkE P c := by unfold rk; rw [hpc]
    split
    · split
      · show 0 + 1 ≤ _
        rw [e]; omega
      · show (c.left - 1) * rkA P + (3 * (P.n - 0) + P.n + P.R + 1) + rkE P c + 1 ≤ _
        rw [e]; omega
    · rw [e]; exact rk_fail hl.2.1.l1 _ (by omega)
  · have e : rk P c = (c.left - 1) * rkA P + (3 * (P.n - c.who) + P.n + P.R + 1) + rkE P c := by unfold rk; rw [hpc]
    have hwn : c.who < P.n := hl.2.2.2.2.1
    split
    · rw [e]
      exact rk_turn (c := { c with phase := S.M.asked c.who, pc := .ask }) _ hwn (Nat.sub_le _ _)
    · show (c.left - 1) * rkA P + (3 * (P.n - c.who) - 1 + P.n + P.R + 1) + rkE P c + 1 ≤ _
      rw [e]; omega
  · have e : rk P c = (c.left - 1) * rkA P + (3 * (P.n - c.who) - 1 + P.n + P.R + 1) + rkE P c := by unfold rk; rw [hpc]
    have hwn : c.who < P.n := hl.2.2.2.2.1
    show (c.left - 1) * rkA P + (3 * (P.n - c.who) - 2 + P.n + P.R + 1) + rkE P c + 1 ≤ _
    rw [e]; omega
  · have e : rk P c = (c.left - 1) * rkA P + (3 * (P.n - c.who) - 2 + P.n + P.R + 1) + rkE P c := by unfold rk; rw [hpc]
    have hwn : c.who < P.n := hl.2.2.2.2.1
    rw [e]
    exact rk_turn (c := { c with cp := put3 (apC P c.cp (c.wA, S.M.ob c.who)).1 (P.dn c.who) c.phase (apC P c.cp (c.wA, S.M.ob c.who)).2, done := c.done ++ [(c.who, (c.wA, S.M.ob c.who), (apC P c.cp (c.wA, S.M.ob c.who)).2)], pc := .askB }) _ hwn (Nat.le_refl _)
  · have e : rk P c = (c.left - 1) * rkA P + ((P.n - c.pos) + P.R + 1) + rkE P c := by unfold rk; rw [hpc]
    have hpn : c.pos < P.n := hl.2.2.2.2.2.1
    split
    · show (c.left - 1) * rkA P + ((P.R - 0) + 1) + rkE P c + 1 ≤ _
      rw [e]; omega
    · show (c.left - 1) * rkA P + ((P.n - (c.pos + 1)) + P.R + 1) + rkE P c + 1 ≤ _
      rw [e]; omega
  · have e : rk P c = (c.left - 1) * rkA P + ((P.R - c.laid) + 1) + rkE P c := by unfold rk; rw [hpc]
    have hln : c.laid < P.R := hl.2.2.2.2.2.2.1
    split
    · show (c.left - 1) * rkA P + 1 + rkE P c + 1 ≤ _
      rw [e]; omega
    · show (c.left - 1) * rkA P + ((P.R - (c.laid + 1)) + 1) + rkE P c + 1 ≤ _
      rw [e]; omega
  · have e : rk P c = (c.left - 1) * rkA P + 1 + rkE P c := by unfold rk; rw [hpc]
    split
    · show 0 + 1 ≤ _
      rw [e]; omega
    · rw [e]; exact rk_fail hl.2.1.l1 _ (by omega)
  · have e : rk P c = 2 * rkA P + 6 := by unfold rk; rw [hpc]
    show 2 * rkA P + 5 + 1 ≤ _
    rw [e]; omega
  · have e : rk P c = 2 * rkA P + 5 := by unfold rk; rw [hpc]
    show 2 * rkA P + 4 + 1 ≤ _
    rw [e]; omega
  · have e : rk P c = 2 * rkA P + 4 := by unfold rk; rw [hpc]
    show 2 * rkA P + (if true = true then 3 else _) + 1 ≤ _
    rw [e, if_pos rfl]; omega
  · have e : rk P c = 3 := by unfold rk; rw [hpc]
    show 2 + 1 ≤ _
    rw [e]; omega
  · have e : rk P c = 2 := by unfold rk; rw [hpc]
    show 1 + 1 ≤ _
    rw [e]; omega
  · have e : rk P c = 1 := by unfold rk; rw [hpc]
    show 0 + 1 ≤ _
    rw [e]; omega
  · exact absurd hpc hp
/-- What a step leaves, where a call is on its way. -/
theorem step_eq (hc : S.cl w = some c) (hp : c.pc ≠ .over) : S.step P w = S.after w c (stepC P w S.M c) := by
  unfold St.step
  simp only [hc]
theorem step_over (hc : S.cl w = some c) (hp : c.pc = .over) : S.step P w = S := by
  unfold St.step
  simp only [hc, hp]
theorem step_none (hc : S.cl w = none) : S.step P w = S := by
  unfold St.step
  simp only [hc]
theorem fail_left : (failC c).left ≤ c.left := by
  unfold failC
  show c.left - 1 ≤ c.left
  omega
theorem turn_left : (turnC P w c).left = c.left := by
  unfold turnC
  split
  · rfl
  · show (ownC P w { c with who := c.who + 1 }).left = c.left
    unfold ownC
    split <;> rfl
theorem step_left (M : M3) (h : 2 ≤ 100) (hl : c.left ≤ 100) : (stepC P w M c).2.1.left ≤ 100 := by
  unfold stepC
  cases c.pc <;> simp only
  all_goals first
    | exact hl
    | (split <;> first | exact hl | exact Nat.le_trans fail_left hl | (rw [turn_left]; exact hl) | (split <;> exact hl))
    | (rw [turn_left]; exact hl)
    | exact h
theorem turn_op : (turnC P w c).op = c.op := by
  unfold turnC
  split
  · rfl
  · show (ownC P w { c with who := c.who + 1 }).op = c.op
    unfold ownC
    split <;> rfl
theorem step_op (M : M3) : (stepC P w M c).2.1.op = c.op := by
  unfold stepC
  cases c.pc <;> simp only
  all_goals first
    | rfl
    | (split <;> first | rfl | (rw [turn_op]) | (split <;> rfl))
    | (rw [turn_op])
end
end Go.Proofs.YtnheodgffackoaaDoor.Y

/- A hall as a plain machine: whose what was done is; a worker alone. -/
namespace Go.Proofs.YtnheodgffackoaaDoor.Y
set_option linter.unusedVariables false
set_option linter.unusedSimpArgs false
section
variable {P : Par} {S : St} {w : Nat} {c : Cl}
/-- What was done is some worker's. -/
structure Ws (P : Par) (S : St) : Prop where
  ents : ∀ d, d ∈ S.ents → d.1 < P.n
  done : ∀ q c, S.cl q = some c → ∀ d, d ∈ c.done → d.1 < P.n
theorem fail_done : (failC c).done = c.done := rfl
theorem turn_done (hw : w < P.n) (h : ∀ d, d ∈ c.done → d.1 < P.n) : ∀ d, d ∈ (turnC P w c).done → d.1 < P.n := by
  unfold turnC
  split
  · exact h
  · show ∀ d, d ∈ (ownC P w { c with who := c.who + 1 }).done → d.1 < P.n
    unfold ownC
    split
    · exact h
    · intro d hd
      rcases List.mem_append.1 hd with hd | hd
      · exact h d hd
      · rw [List.mem_singleton.1 hd]; exact hw
theorem step_done (M : M3) (hw : w < P.n) (hwho : c.pc = .askB → c.who < P.n) (h : ∀ d, d ∈ c.done → d.1 < P.n) : (∀ d, d ∈ (stepC P w M c).2.1.done → d.1 < P.n) ∧ ∀ d, d ∈ (stepC P w M c).2.2 → d.1 < P.n := by
  have no : ∀ d : Dn, d ∈ ([] : List Dn) → d.1 < P.n := fun d hd => by cases hd
  unfold stepC
  cases hp : c.pc <;> simp only
  · exact ⟨h, no⟩
  · exact ⟨h, no⟩
  · split <;> exact ⟨h, no⟩
  · exact ⟨h, no⟩
  · split
    · split <;> exact ⟨no, no⟩
    · exact ⟨h, no⟩
  · split
    · exact ⟨turn_done hw h, no⟩
    · exact ⟨h, no⟩
  · exact ⟨h, no⟩
  · refine ⟨turn_done hw fun d hd => ?_, no⟩
    rcases List.mem_append.1 hd with hd | hd
    · exact h d hd
    · rw [List.mem_singleton.1 hd]; exact hwho hp
  · exact ⟨h, no⟩
  · exact ⟨h, no⟩
  · split
    · exact ⟨h, h⟩
    · exact ⟨h, no⟩
  all_goals exact ⟨h, no⟩
theorem Ws.step (hs : Ws P S) (h : Inv P S) (hw : w < P.n) : Ws P (S.step P w) := by
  cases hc : S.cl w with
  | none => rw [step_none hc]; exact hs
  | some c =>
    by_cases hp : c.pc = .over
    · rw [step_over hc hp]; exact hs
    · have hl := h.loc w c hw hc
      have hwho : c.pc = .askB → c.who < P.n := fun e => by unfold LocP at hl; rw [e] at hl; exact hl.2.2.2.2.1
      obtain ⟨d1, d2⟩ := step_done S.M hw hwho (hs.done w c hc)
      rw [step_eq hc hp]
      refine ⟨fun d hd => ?_, fun q d hd => ?_⟩
      · rcases List.mem_append.1 hd with hd | hd
        · exact hs.ents d hd
        · exact d2 d hd
      · rcases upd_cases (f := S.cl) hd with ⟨rfl, rfl⟩ | ⟨e, hd'⟩
        · exact d1
        · exact hs.done q d hd'
theorem Ws.call (hs : Ws P S) {c : Cl} (hc : c.done = []) : Ws P (S.call w c) := by
  refine ⟨hs.ents, fun q d hd => ?_⟩
  rcases upd_cases (f := S.cl) hd with ⟨rfl, rfl⟩ | ⟨e, hd'⟩
  · rw [hc]; intro d hd; cases hd
  · exact hs.done q d hd'
/-- Of one worker alone, all that was done is its. -/
theorem mine_all : ∀ {l : List Dn}, (∀ d, d ∈ l → d.1 = 0) → mineOf l 0 = l.map (·.2)
  | [], _ => rfl
  | d :: l, h => by
    have e := h d (by simp)
    unfold mineOf
    rw [List.filterMap_cons, if_pos e]
    simp only [List.map_cons]
    congr 1
    exact mine_all fun d hd => h d (by simp [hd])
/-- Some steps of a worker, one behind the other. -/
def St.steps (P : Par) (w : Nat) : Nat → St → St
  | 0, S => S
  | n + 1, S => (St.steps P w n S).step P w
theorem steps_inv (hw : w < P.n) (h : Inv P S) : ∀ n, Inv P (S.steps P w n)
  | 0 => h
  | n + 1 => (steps_inv hw h n).step hw
theorem steps_ws (hw : w < P.n) (h : Inv P S) (hs : Ws P S) : ∀ n, Ws P (S.steps P w n)
  | 0 => hs
  | n + 1 => (steps_ws hw h hs n).step (steps_inv hw h n) hw
theorem after_cl (hc : S.cl w = some c) (hp : c.pc ≠ .over) : (S.step P w).cl w = some (stepC P w S.M c).2.1 := by rw [step_eq hc hp]; exact updF_self ..
theorem steps_rk (hw : w < P.n) (h : Inv P S) (hc : S.cl w = some c) : ∀ n, ∃ c', (S.steps P w n).cl w = some c' ∧ c'.op = c.op ∧ (c'.pc = .over ∨ rk P c' + n ≤ rk P c)
  | 0 => ⟨c, hc, rfl, .inr (Nat.le_refl _)⟩
  | n + 1 => by
    obtain ⟨c', h1, h2, h3⟩ := steps_rk hw h hc n
    by_cases hp : c'.pc = .over
    · refine ⟨c', ?_, h2, .inl hp⟩
      show ((S.steps P w n).step P w).cl w = _
      rw [step_over h1 hp]; exact h1
    · have hr := rk_step (steps_inv hw h n) hw h1 hp
      have h4 := h3.resolve_left hp
      exact ⟨_, after_cl h1 hp, (step_op _).trans h2, .inr (by omega)⟩
/-- A worker that steps as often as its rank says is done. -/
theorem steps_over (hw : w < P.n) (h : Inv P S) (hc : S.cl w = some c) {n : Nat} (hn : rk P c < n) : ∃ c', (S.steps P w n).cl w = some c' ∧ c'.op = c.op ∧ c'.pc = .over := by
  obtain ⟨c', h1, h2, h3⟩ := steps_rk hw h hc n
  exact ⟨c', h1, h2, h3.resolve_right (by omega)⟩
theorem histC_over {f : Nat → List (O2 × O2)} (h : c.pc = .over) : histC f w c = updF f w (f w ++ [(c.op, c.ans)]) := by unfold histC; rw [h]
theorem histC_ne {f : Nat → List (O2 × O2)} (h : c.pc ≠ .over) : histC f w c = f := by
  unfold histC
  cases hp : c.pc <;> first | rfl | exact absurd hp h
/-- What it did so far. -/
theorem steps_hist (hc : S.cl w = some c) (hp : c.pc ≠ .over) : ∀ n, ∃ c', (S.steps P w n).cl w = some c' ∧ c'.op = c.op ∧ ((c'.pc ≠ .over ∧ (S.steps P w n).hist w = S.hist w) ∨ (c'.pc = .over ∧ (S.steps P w n).hist w = S.hist w ++ [(c.op, c'.ans)]))
  | 0 => ⟨c, hc, rfl, .inl ⟨hp, rfl⟩⟩
  | n + 1 => by
    obtain ⟨c', h1, h2, h3⟩ := steps_hist hc hp n
    rcases h3 with ⟨h3, h4⟩ | ⟨h3, h4⟩
    · refine ⟨_, after_cl h1 h3, (step_op _).trans h2, ?_⟩
      have e : (S.steps P w (n + 1)).hist = histC (S.steps P w n).hist w (stepC P w (S.steps P w n).M c').2.1 := by
        show ((S.steps P w n).step P w).hist = _
        rw [step_eq h1 h3]; rfl
      rw [e]
      by_cases h5 : (stepC P w (S.steps P w n).M c').2.1.pc = .over
      · refine .inr ⟨h5, ?_⟩
        rw [histC_over h5, updF_self, h4, step_op, h2]
      · rw [histC_ne h5]
        exact .inl ⟨h5, h4⟩
    · refine ⟨c', ?_, h2, .inr ⟨h3, ?_⟩⟩
      · show ((S.steps P w n).step P w).cl w = _
        rw [step_over h1 h3]; exact h1
      · show ((S.steps P w n).step P w).hist w = _
        rw [step_over h1 h3]; exact h4
end
end Go.Proofs.YtnheodgffackoaaDoor.Y

/- A hall of a counter, as a plain machine: what is answered, one behind the other, are pieces of the sum. -/
namespace Go.Proofs.YtnheodgffackoaaDoor.Y
set_option linter.unusedVariables false
set_option linter.unusedSimpArgs false
def sumA : List O2 → Int
  | [] => 0
  | o :: l => o.1 + sumA l
theorem sumA_app : ∀ (a b : List O2), sumA (a ++ b) = sumA a + sumA b
  | [], b => by simp [sumA]
  | o :: a, b => by simp only [List.cons_append, sumA]; rw [sumA_app a b]; omega
theorem sumA_nonneg : ∀ {l : List O2}, (∀ o, o ∈ l → 0 ≤ o.1) → 0 ≤ sumA l
  | [], _ => Int.le_refl _
  | o :: l, h => by
    have h1 := h o (by simp)
    have h2 := sumA_nonneg (l := l) fun x hx => h x (by simp [hx])
    show 0 ≤ o.1 + sumA l
    omega
/-- The pieces, from a number on. -/
def chain (s : Int) : List O2 → List O2
  | [] => []
  | o :: l => (s, s + o.1) :: chain (s + o.1) l
theorem chain_len : ∀ (l : List O2) (s : Int), (chain s l).length = l.length
  | [], _ => rfl
  | o :: l, s => by simp only [chain, List.length_cons]; rw [chain_len l]
/-- The object adds, as long as there is room. -/
def Adds (P : Par) : Prop := P.W = 1 ∧ ∀ s o, 0 ≤ s → 0 ≤ o.1 → s + o.1 < 18446744073709551616 → P.ap [s] o = ([s + o.1], (s, s + o.1))
theorem rep_cnt {P : Par} (hA : Adds P) : ∀ (l : List O2) (s : Int), 0 ≤ s → (∀ o, o ∈ l → 0 ≤ o.1) → s + sumA l < 18446744073709551616 → rep P.ap [s] l = ([s + sumA l], chain s l)
  | [], s, _, _, _ => by simp [rep, sumA, chain]
  | o :: l, s, hs, ho, hm => by
    have h1 := ho o (by simp)
    have h2 := sumA_nonneg (l := l) fun x hx => ho x (by simp [hx])
    have hm2 : s + (o.1 + sumA l) < 18446744073709551616 := hm
    have ha := hA.2 s o hs h1 (by omega)
    simp only [rep, ha]
    rw [rep_cnt hA l (s + o.1) (by omega) (fun x hx => ho x (by simp [hx])) (by omega)]
    show ([s + o.1 + sumA l], (s, s + o.1) :: chain (s + o.1) l) = ([s + (o.1 + sumA l)], (s, s + o.1) :: chain (s + o.1) l)
    rw [show s + o.1 + sumA l = s + (o.1 + sumA l) by omega]
theorem chain_lt : ∀ {l : List O2} {s : Int}, (∀ o, o ∈ l → 1 ≤ o.1) → ((chain s l).map (·.1)).Pairwise (· < ·) ∧ ∀ x, x ∈ chain s l → s ≤ x.1 ∧ x.1 < x.2
  | [], s, _ => ⟨List.Pairwise.nil, fun x hx => by cases hx⟩
  | o :: l, s, h => by
    have h1 := h o (by simp)
    obtain ⟨i1, i2⟩ := chain_lt (l := l) (s := s + o.1) fun x hx => h x (by simp [hx])
    refine ⟨List.Pairwise.cons (fun y hy => ?_) i1, fun x hx => ?_⟩
    · obtain ⟨z, hz, rfl⟩ := List.mem_map.1 hy
      have := (i2 z hz).1
      show s < z.1; omega
    · rcases List.mem_cons.1 hx with rfl | hx
      · exact ⟨Int.le_refl _, by show s < s + o.1; omega⟩
      · have := i2 x hx; exact ⟨by omega, this.2⟩
/-- The k-th piece. -/
theorem chain_at : ∀ (l : List O2) (s : Int) (k : Nat), k < l.length → (chain s l)[k]? = some (s + sumA (l.take k), s + sumA (l.take (k + 1)))
  | [], s, k, h => by simp at h
  | o :: l, s, 0, _ => by simp [chain, sumA]
  | o :: l, s, k + 1, h => by
    have ih := chain_at l (s + o.1) k (by simpa using h)
    simp only [chain, List.getElem?_cons_succ, List.take_succ_cons, sumA]
    rw [ih]
    rw [show s + o.1 + sumA (l.take k) = s + (o.1 + sumA (l.take k)) by omega, show s + o.1 + sumA (l.take (k + 1)) = s + (o.1 + sumA (l.take (k + 1))) by omega]
/-- Sums, worker by worker. -/
def sumN (f : Nat → Int) : Nat → Int
  | 0 => 0
  | n + 1 => sumN f n + f n
theorem sumN_congr {f g : Nat → Int} : ∀ {n : Nat}, (∀ i, i < n → f i = g i) → sumN f n = sumN g n
  | 0, _ => rfl
  | n + 1, h => by simp only [sumN]; rw [sumN_congr fun i hi => h i (by omega), h n (by omega)]
theorem sumN_add (f g : Nat → Int) : ∀ n : Nat, sumN (fun i => f i + g i) n = sumN f n + sumN g n
  | 0 => rfl
  | n + 1 => by simp only [sumN]; rw [sumN_add f g n]; omega
theorem sumN_one (x : Int) (k : Nat) : ∀ n : Nat, sumN (fun i => if i = k then x else 0) n = if k < n then x else 0
  | 0 => by simp [sumN]
  | n + 1 => by
    simp only [sumN]
    rw [sumN_one x k n]
    by_cases h1 : k < n
    · rw [if_pos h1, if_neg (by omega), if_pos (by omega)]; omega
    · rw [if_neg h1]
      by_cases h2 : n = k
      · rw [if_pos h2, if_pos (by omega)]; omega
      · rw [if_neg h2, if_neg (by omega)]; omega
/-- What some have in all, of a thing each: f. -/
def sumF {β : Type} (f : β → Int) : List β → Int
  | [] => 0
  | x :: l => f x + sumF f l
theorem sumF_app {β : Type} (f : β → Int) : ∀ (a b : List β), sumF f (a ++ b) = sumF f a + sumF f b
  | [], b => by simp [sumF]
  | o :: a, b => by simp only [List.cons_append, sumF]; rw [sumF_app f a b]; omega
theorem sumF_map {β γ : Type} (f : γ → Int) (g : β → γ) : ∀ (l : List β), sumF f (l.map g) = sumF (fun x => f (g x)) l
  | [] => rfl
  | x :: l => by simp only [List.map_cons, sumF]; rw [sumF_map f g l]
theorem sumF_one {β : Type} : ∀ (l : List β), sumF (fun _ => 1) l = l.length
  | [] => rfl
  | x :: l => by simp only [sumF, List.length_cons]; rw [sumF_one l]; omega
theorem sumA_eq (l : List O2) : sumA l = sumF (·.1) l := by
  induction l with
  | nil => rfl
  | cons o l ih => simp only [sumA, sumF]; rw [ih]
theorem sumF_parts {β : Type} (f : β → Int) (wk : β → Nat) {n : Nat} : ∀ {l : List β}, (∀ x, x ∈ l → wk x < n) → sumF f l = sumN (fun w => sumF f (l.filter fun x => wk x == w)) n
  | [], _ => by
    have : ∀ n : Nat, sumN (fun _ => (0 : Int)) n = 0 := fun n => by
      induction n with
      | zero => rfl
      | succ n ih => simp only [sumN]; rw [ih]; rfl
    simp only [List.filter_nil, sumF]
    exact (this n).symm
  | x :: l, h => by
    have ih := sumF_parts f wk (n := n) (l := l) fun y hy => h y (by simp [hy])
    have hx := h x (by simp)
    have e : (fun w => sumF f ((x :: l).filter fun y => wk y == w)) = fun w => (if w = wk x then f x else 0) + sumF f (l.filter fun y => wk y == w) := by
      funext w
      rw [List.filter_cons]
      by_cases e : wk x = w
      · subst e; rw [if_pos (by simp), if_pos rfl]; rfl
      · rw [if_neg (by simpa using e), if_neg (fun h => e h.symm)]; omega
    rw [e, sumN_add, sumN_one, if_pos hx, ← ih]
    rfl
theorem mineOf_filter (l : List Dn) (q : Nat) : mineOf l q = (l.filter fun d => d.1 == q).map (·.2) := by
  induction l with
  | nil => rfl
  | cons d l ih =>
    unfold mineOf at ih ⊢
    rw [List.filterMap_cons, List.filter_cons]
    by_cases e : d.1 = q
    · rw [if_pos e, if_pos (by simpa using e)]; simp only [List.map_cons]; rw [ih]
    · rw [if_neg e, if_neg (by simpa using e)]; exact ih
section
variable {P : Par} {S : St}
/-- What a counter's hall is. -/
theorem cnt_all (hA : Adds P) (h : Inv P S) (h0 : ∀ d, d ∈ S.ents → 0 ≤ d.2.1.1) (hm : sumA (S.ents.map (·.2.1)) < 18446744073709551616) : (curM S.M).take 1 = [sumA (S.ents.map (·.2.1))] ∧ S.ents.map (·.2.2) = chain 0 (S.ents.map (·.2.1)) := by
  have hr := h.rpl
  rw [hA.1] at hr
  have e : (List.replicate 1 (0 : Int)) = [0] := rfl
  rw [e, rep_cnt hA _ 0 (Int.le_refl _) (fun o ho => by obtain ⟨d, hd, rfl⟩ := List.mem_map.1 ho; exact h0 d hd) (by omega)] at hr
  injection hr with h1 h2
  exact ⟨by rw [← h1]; simp, h2.symm⟩
end
end Go.Proofs.YtnheodgffackoaaDoor.Y

/- A hall as a plain machine: all calls that ever began, in order. -/
namespace Go.Proofs.YtnheodgffackoaaDoor.Y
set_option linter.unusedVariables false
set_option linter.unusedSimpArgs false
def ovC (c : Cl) : Bool := match c.pc with
  | .over => true
  | _ => false
theorem ovC_iff {c : Cl} : ovC c = true ↔ c.pc = .over := by
  unfold ovC
  cases c.pc <;> simp
def opAns (x : Nat × Cl) : O2 × O2 := (x.2.op, x.2.ans)
/-- The calls of a worker's that are over. -/
def oversOf (L : List (Nat × Cl)) (w : Nat) : List (Nat × Cl) := L.filter fun x => x.1 == w && ovC x.2
structure Log (P : Par) (S : St) (L : List (Nat × Cl)) (cur : Nat → Option Nat) : Prop where
  lw : ∀ x, x ∈ L → x.1 < P.n
  cl : ∀ w i, w < P.n → cur w = some i → ∃ c, L[i]? = some (w, c) ∧ S.cl w = some c
  cl0 : ∀ w, w < P.n → cur w = none → S.cl w = none
  act : ∀ i w c, L[i]? = some (w, c) → c.pc ≠ .over → cur w = some i
  last : ∀ w i, cur w = some i → ∀ j c, L[j]? = some (w, c) → j ≤ i
  hist : ∀ w, w < P.n → S.hist w = (oversOf L w).map opAns
section
variable {P : Par} {S : St} {L : List (Nat × Cl)} {cur : Nat → Option Nat} {w i : Nat} {c c' : Cl}
theorem step_hist (hc : S.cl w = some c) (hp : c.pc ≠ .over) : (S.step P w).hist = histC S.hist w (stepC P w S.M c).2.1 := by rw [step_eq hc hp]; rfl
theorem step_cl_other (q : Nat) (h : q ≠ w) : (S.step P w).cl q = S.cl q := by
  cases hc : S.cl w with
  | none => rw [step_none hc]
  | some c =>
    by_cases hp : c.pc = .over
    · rw [step_over hc hp]
    · rw [step_eq hc hp]; exact updF_ne _ _ h
theorem list_at {β : Type} {l : List β} {i : Nat} {x : β} (h : l[i]? = some x) : l = l.take i ++ x :: l.drop (i + 1) := by
  have hi := (List.getElem?_eq_some_iff.1 h).1
  have e : l[i] = x := (List.getElem?_eq_some_iff.1 h).2
  rw [← e, List.getElem_cons_drop, List.take_append_drop]
theorem set_at {β : Type} {l : List β} {i : Nat} (h : i < l.length) (y : β) : l.set i y = l.take i ++ y :: l.drop (i + 1) := by rw [List.set_eq_take_append_cons_drop, if_pos h]
theorem no_later (hl : Log P S L cur) (hcur : cur w = some i) : (L.drop (i + 1)).filter (fun x => x.1 == w && ovC x.2) = [] := by
  rw [List.filter_eq_nil_iff]
  intro x hx
  obtain ⟨j, hj⟩ := List.mem_iff_getElem?.1 hx
  rw [List.getElem?_drop] at hj
  intro hh
  rw [Bool.and_eq_true] at hh
  have e : x.1 = w := by simpa using hh.1
  have := hl.last w i hcur (i + 1 + j) x.2 (by rw [hj, ← e])
  omega
theorem Log.step (hl : Log P S L cur) (h : Inv P S) (hw : w < P.n) (hcur : cur w = some i) (hi : L[i]? = some (w, c)) : Log P (S.step P w) (L.set i (w, (stepC P w S.M c).2.1)) cur := by
  obtain ⟨c0, a1, a2⟩ := hl.cl w i hw hcur
  rw [hi] at a1; cases a1
  have hil := (List.getElem?_eq_some_iff.1 hi).1
  have hover : c.pc = .over → (stepC P w S.M c).2.1 = c := fun e => by unfold stepC; rw [e]
  have hcl : (S.step P w).cl w = some (stepC P w S.M c).2.1 := by
    by_cases hp : c.pc = .over
    · rw [step_over a2 hp, hover hp]; exact a2
    · exact after_cl a2 hp
  refine ⟨fun x hx => ?_, fun q j hq hj => ?_, fun q hq hj => ?_, fun j q d hj hd => ?_, fun q j hj k d hk => ?_, fun q hq => ?_⟩
  · rcases List.mem_or_eq_of_mem_set hx with hx | rfl
    · exact hl.lw x hx
    · exact hw
  · by_cases e : q = w
    · subst e
      rw [hcur] at hj; cases hj
      exact ⟨_, List.getElem?_set_self hil, hcl⟩
    · obtain ⟨d, b1, b2⟩ := hl.cl q j hq hj
      have hne : i ≠ j := by rintro rfl; rw [hi] at b1; cases b1; exact e rfl
      exact ⟨d, by rw [List.getElem?_set_ne hne]; exact b1, by rw [step_cl_other q e]; exact b2⟩
  · have e : q ≠ w := by rintro rfl; rw [hcur] at hj; cases hj
    rw [step_cl_other q e]; exact hl.cl0 q hq hj
  · by_cases e : i = j
    · subst e
      rw [List.getElem?_set_self hil] at hj
      cases hj
      exact hcur
    · rw [List.getElem?_set_ne e] at hj
      exact hl.act j q d hj hd
  · by_cases e : i = k
    · subst e
      rw [List.getElem?_set_self hil] at hk
      cases hk
      rw [hcur] at hj; cases hj; exact Nat.le_refl _
    · rw [List.getElem?_set_ne e] at hk
      exact hl.last q j hj k d hk
  · have e1 : oversOf (L.set i (w, (stepC P w S.M c).2.1)) q = (L.take i).filter (fun x => x.1 == q && ovC x.2) ++ (if w = q ∧ ovC (stepC P w S.M c).2.1 = true then [(w, (stepC P w S.M c).2.1)] else []) ++ (L.drop (i + 1)).filter (fun x => x.1 == q && ovC x.2) := by
      unfold oversOf
      rw [set_at hil, List.filter_append, List.filter_cons, List.append_assoc]
      congr 1
      by_cases e : w = q ∧ ovC (stepC P w S.M c).2.1 = true
      · rw [if_pos e, if_pos (by rw [Bool.and_eq_true]; exact ⟨by simpa using e.1, e.2⟩)]; rfl
      · rw [if_neg e, if_neg (by simpa using fun h1 h2 => e ⟨h1, h2⟩)]; rfl
    have e2 : oversOf L q = (L.take i).filter (fun x => x.1 == q && ovC x.2) ++ (if w = q ∧ ovC c = true then [(w, c)] else []) ++ (L.drop (i + 1)).filter (fun x => x.1 == q && ovC x.2) := by
      unfold oversOf
      conv => lhs; rw [list_at hi]
      rw [List.filter_append, List.filter_cons, List.append_assoc]
      congr 1
      by_cases e : w = q ∧ ovC c = true
      · rw [if_pos e, if_pos (by rw [Bool.and_eq_true]; exact ⟨by simpa using e.1, e.2⟩)]; rfl
      · rw [if_neg e, if_neg (by simpa using fun h1 h2 => e ⟨h1, h2⟩)]; rfl
    have hh := hl.hist q hq
    by_cases hp : c.pc = .over
    · rw [step_over a2 hp, hh, hover hp]
      congr 1
      have : L.set i (w, c) = L := by rw [set_at hil]; exact (list_at hi).symm
      rw [this]
    · rw [step_hist a2 hp]
      have hn : ovC c = false := by cases hx : ovC c with | false => rfl | true => exact absurd (ovC_iff.1 hx) hp
      by_cases e : q = w
      · subst e
        have nl := no_later hl hcur
        rw [e1, nl, List.append_nil]
        rw [e2, nl, if_neg (by rw [hn]; simp)] at hh
        by_cases h5 : (stepC P q S.M c).2.1.pc = .over
        · rw [histC_over h5, updF_self, hh, if_pos ⟨rfl, ovC_iff.2 h5⟩]
          simp [opAns]
        · rw [histC_ne h5, hh, if_neg (fun h => h5 (ovC_iff.1 h.2))]
          simp
      · have e5 : histC S.hist w (stepC P w S.M c).2.1 q = S.hist q := by
          by_cases h5 : (stepC P w S.M c).2.1.pc = .over
          · rw [histC_over h5, updF_ne _ _ e]
          · rw [histC_ne h5]
        rw [e5, hh, e1, e2, if_neg (fun h => e h.1.symm), if_neg (fun h => e h.1.symm)]
theorem Log.call (hl : Log P S L cur) (hw : w < P.n) (hi : ∀ j d, cur w = some j → L[j]? = some (w, d) → d.pc = .over) (hn : c.pc ≠ .over) : Log P (S.call w c) (L ++ [(w, c)]) (updF cur w (some L.length)) := by
  refine ⟨fun x hx => ?_, fun q j hq hj => ?_, fun q hq hj => ?_, fun j q d hj hd => ?_, fun q j hj k d hk => ?_, fun q hq => ?_⟩
  · rcases List.mem_append.1 hx with hx | hx
    · exact hl.lw x hx
    · rw [List.mem_singleton.1 hx]; exact hw
  · by_cases e : q = w
    · subst e
      rw [updF_self] at hj; cases hj
      exact ⟨c, by simp, updF_self ..⟩
    · rw [updF_ne _ _ e] at hj
      obtain ⟨d, b1, b2⟩ := hl.cl q j hq hj
      exact ⟨d, by rw [List.getElem?_append_left (List.getElem?_eq_some_iff.1 b1).1]; exact b1, by show updF S.cl w _ q = _; rw [updF_ne _ _ e]; exact b2⟩
  · have e : q ≠ w := by rintro rfl; rw [updF_self] at hj; cases hj
    rw [updF_ne _ _ e] at hj
    show updF S.cl w _ q = _
    rw [updF_ne _ _ e]; exact hl.cl0 q hq hj
  · rw [List.getElem?_append] at hj
    split at hj
    · have h1 := hl.act j q d hj hd
      by_cases e : q = w
      · subst e
        exact absurd (hi j d h1 hj) hd
      · rw [updF_ne _ _ e]; exact h1
    · rename_i h2
      have h3 : j - L.length = 0 := by
        apply Classical.byContradiction
        intro h4
        rw [List.getElem?_eq_none (by simp; omega)] at hj; cases hj
      rw [h3] at hj; cases hj
      rw [updF_self]
      congr 1; omega
  · rw [List.getElem?_append] at hk
    split at hk
    · rename_i h2
      by_cases e : q = w
      · subst e
        rw [updF_self] at hj; cases hj; omega
      · rw [updF_ne _ _ e] at hj
        exact hl.last q j hj k d hk
    · have h3 : k - L.length = 0 := by
        apply Classical.byContradiction
        intro h4
        rw [List.getElem?_eq_none (by simp; omega)] at hk; cases hk
      rw [h3] at hk; cases hk
      rw [updF_self] at hj; cases hj; omega
  · show S.hist q = _
    rw [hl.hist q hq]
    have hov : ovC c = false := by cases hx : ovC c with | false => rfl | true => exact absurd (ovC_iff.1 hx) hn
    unfold oversOf
    rw [List.filter_append]
    simp [hov]
/-- What a worker did: its calls that are over; and perhaps the one that it is at. -/
theorem Log.mine (hl : Log P S L cur) (h : Inv P S) (hw : w < P.n) : mineOf S.ents w = (oversOf L w).map opAns ∨ ∃ i c a, cur w = some i ∧ L[i]? = some (w, c) ∧ c.pc ≠ .over ∧ mineOf S.ents w = (oversOf L w).map opAns ++ [(c.op, a)] := by
  rw [← hl.hist w hw]
  cases hc : cur w with
  | none => exact .inl (h.idle w hw (hl.cl0 w hw hc)).2
  | some i =>
    obtain ⟨c, a1, a2⟩ := hl.cl w i hw hc
    by_cases hp : c.pc = .over
    · exact .inl (h.idle' hw (.inr ⟨c, a2, hp⟩)).2
    · have hL := h.loc w c hw a2
      have hr : Run P S.M S.N (S.nt w) (S.hist w) (mineOf S.ents w) w c := by
        unfold LocP at hL
        cases hpc : c.pc <;> rw [hpc] at hL <;> first | exact hL.1 | exact absurd hpc hp
      by_cases hh : c.helped = true
      · by_cases he : S.M.asked w = (curM S.M).getD (P.dn w) 0
        · exact .inr ⟨i, c, _, rfl, a1, hp, (hr.1 hh).2.2.2.1 he⟩
        · exact .inl ((hr.1 hh).2.2.2.2.1 he)
      · exact .inl (hr.2 (by simpa using hh)).2
end
end Go.Proofs.YtnheodgffackoaaDoor.Y

/- A hall of a counter, as a plain machine: the pieces that are answered. -/
namespace Go.Proofs.YtnheodgffackoaaDoor.Y
set_option linter.unusedVariables false
set_option linter.unusedSimpArgs false
section
variable {P : Par} {S : St} {L : List (Nat × Cl)} {cur : Nat → Option Nat} {w i : Nat} {c c' : Cl}
theorem sumF_nonneg {β : Type} {f : β → Int} : ∀ {l : List β}, (∀ x, x ∈ l → 0 ≤ f x) → 0 ≤ sumF f l
  | [], _ => Int.le_refl _
  | x :: l, h => by
    have h1 := h x (by simp)
    have h2 := sumF_nonneg (l := l) fun y hy => h y (by simp [hy])
    show 0 ≤ f x + sumF f l
    omega
theorem sumF_filter {β : Type} {f : β → Int} {p : β → Bool} : ∀ {l : List β}, (∀ x, x ∈ l → 0 ≤ f x) → sumF f (l.filter p) ≤ sumF f l ∧ ∀ x, x ∈ l → p x = false → sumF f (l.filter p) + f x ≤ sumF f l
  | [], _ => ⟨Int.le_refl _, fun x hx => by cases hx⟩
  | y :: l, h => by
    have h1 := h y (by simp)
    obtain ⟨i1, i2⟩ := sumF_filter (p := p) (l := l) fun z hz => h z (by simp [hz])
    rw [List.filter_cons]
    by_cases hp : p y = true
    · rw [if_pos hp]
      refine ⟨by show f y + sumF f _ ≤ f y + sumF f l; omega, fun x hx hpx => ?_⟩
      rcases List.mem_cons.1 hx with rfl | hx
      · rw [hp] at hpx; cases hpx
      · have := i2 x hx hpx
        show f y + sumF f _ + f x ≤ f y + sumF f l; omega
    · rw [if_neg hp]
      refine ⟨by show sumF f _ ≤ f y + sumF f l; omega, fun x hx hpx => ?_⟩
      rcases List.mem_cons.1 hx with rfl | hx
      · show sumF f _ + f x ≤ f x + sumF f l; omega
      · have := i2 x hx hpx
        show sumF f _ + f x ≤ f y + sumF f l; omega
theorem sumN_le {f g : Nat → Int} : ∀ {n : Nat}, (∀ i, i < n → f i ≤ g i) → sumN f n ≤ sumN g n
  | 0, _ => Int.le_refl _
  | n + 1, h => by
    have h1 := sumN_le (n := n) fun i hi => h i (by omega)
    have h2 := h n (by omega)
    simp only [sumN]; omega
theorem overs_filter (L : List (Nat × Cl)) (w : Nat) : oversOf L w = (L.filter fun x => x.1 == w).filter fun x => ovC x.2 := by
  unfold oversOf
  rw [List.filter_filter]
  congr 1
  funext x
  rw [Bool.and_comm]
theorem ents_parts (ws : Ws P S) (f : O2 → Int) : sumF f (S.ents.map (·.2.1)) = sumN (fun w => sumF (fun x : O2 × O2 => f x.1) (mineOf S.ents w)) P.n := by
  rw [sumF_map, sumF_parts (fun d : Dn => f d.2.1) (fun d => d.1) (fun d hd => ws.ents d hd)]
  refine sumN_congr fun w _ => ?_
  rw [mineOf_filter, sumF_map]
theorem log_parts (hl : Log P S L cur) (f : O2 → Int) : sumF (fun x : Nat × Cl => f x.2.op) L = sumN (fun w => sumF (fun x : Nat × Cl => f x.2.op) (L.filter fun x => x.1 == w)) P.n :=
  sumF_parts (fun x : Nat × Cl => f x.2.op) (fun x => x.1) (fun x hx => hl.lw x hx)
theorem Log.sum_le (hl : Log P S L cur) (h : Inv P S) (ws : Ws P S) (f : O2 → Int) (hf : ∀ x, x ∈ L → 0 ≤ f x.2.op) : sumF f (S.ents.map (·.2.1)) ≤ sumF (fun x : Nat × Cl => f x.2.op) L := by
  rw [ents_parts ws, log_parts hl]
  refine sumN_le fun w hw => ?_
  have hs := sumF_filter (f := fun x : Nat × Cl => f x.2.op) (p := fun x => ovC x.2) (l := L.filter fun x => x.1 == w) fun x hx => hf x (List.mem_filter.1 hx).1
  have e : sumF (fun x : O2 × O2 => f x.1) ((oversOf L w).map opAns) = sumF (fun x : Nat × Cl => f x.2.op) ((L.filter fun x => x.1 == w).filter fun x => ovC x.2) := by
    rw [sumF_map, overs_filter]; rfl
  rcases hl.mine h hw with hm | ⟨i, c, a, h1, h2, h3, hm⟩
  · rw [hm, e]; exact hs.1
  · rw [hm, sumF_app, e]
    have := hs.2 (w, c) (List.mem_filter.2 ⟨List.mem_of_getElem? h2, by simp⟩) (by cases hx : ovC c with | false => rfl | true => exact absurd (ovC_iff.1 hx) h3)
    show _ + (f c.op + 0) ≤ _
    have e2 : f (w, c).2.op = f c.op := rfl
    rw [e2] at this
    omega
theorem Log.sum_eq (hl : Log P S L cur) (h : Inv P S) (ws : Ws P S) (f : O2 → Int) (ho : ∀ x, x ∈ L → x.2.pc = .over) : sumF f (S.ents.map (·.2.1)) = sumF (fun x : Nat × Cl => f x.2.op) L := by
  rw [ents_parts ws, log_parts hl]
  refine sumN_congr fun w hw => ?_
  rcases hl.mine h hw with hm | ⟨i, c, a, h1, h2, h3, hm⟩
  · rw [hm, sumF_map, overs_filter, List.filter_eq_self.2 fun x hx => ovC_iff.2 (ho x (List.mem_filter.1 hx).1)]
    rfl
  · exact absurd (ho _ (List.mem_of_getElem? h2)) h3
/-- What a call that is over was answered is in what was done. -/
theorem Log.over_ent (hl : Log P S L cur) (h : Inv P S) (hx : (w, c) ∈ L) (ho : c.pc = .over) : (w, c.op, c.ans) ∈ S.ents := by
  have hw := hl.lw _ hx
  have hm : (c.op, c.ans) ∈ (oversOf L w).map opAns := List.mem_map.2 ⟨(w, c), List.mem_filter.2 ⟨hx, by simp [ovC_iff.2 ho]⟩, rfl⟩
  have hm2 : (c.op, c.ans) ∈ mineOf S.ents w := by
    rcases hl.mine h hw with e | ⟨_, _, _, _, _, _, e⟩ <;> rw [e]
    · exact hm
    · exact List.mem_append_left _ hm
  rw [mineOf_filter] at hm2
  obtain ⟨d, hd, e⟩ := List.mem_map.1 hm2
  obtain ⟨d1, d2⟩ := List.mem_filter.1 hd
  have e2 : d.1 = w := by simpa using d2
  rw [← e2, ← e]
  exact d1
/-- Answers of the counter: no two begin at one number. -/
theorem Log.apart (hA : Adds P) (hl : Log P S L cur) (h : Inv P S) (ws : Ws P S) (h1 : ∀ d, d ∈ S.ents → 1 ≤ d.2.1.1) (hm : sumA (S.ents.map (·.2.1)) < 18446744073709551616) :
    L.Pairwise fun x y => x.2.pc = .over → y.2.pc = .over → x.2.ans.1 ≠ y.2.ans.1 := by
  have hc := (cnt_all hA h (fun d hd => by have := h1 d hd; omega) hm).2
  have hlt := (chain_lt (l := S.ents.map (·.2.1)) (s := 0) fun o ho => by obtain ⟨d, hd, rfl⟩ := List.mem_map.1 ho; exact h1 d hd).1
  rw [← hc, List.map_map] at hlt
  have hpw : S.ents.Pairwise fun x y => x.2.2.1 < y.2.2.1 := List.pairwise_map.1 hlt
  rw [List.pairwise_iff_getElem]
  intro i j hi hj hij oi oj
  have mi : L[i] ∈ L := List.getElem_mem _
  have mj : L[j] ∈ L := List.getElem_mem _
  have ei := hl.over_ent h (w := L[i].1) (c := L[i].2) mi oi
  have ej := hl.over_ent h (w := L[j].1) (c := L[j].2) mj oj
  intro he
  by_cases hw : L[i].1 = L[j].1
  · -- of one worker: both stand in what it did
    have hwn := hl.lw _ mj
    have hov : (oversOf L L[j].1).Pairwise fun x y => x.2.ans.1 < y.2.ans.1 := by
      have h3 : (mineOf S.ents L[j].1).Pairwise fun x y => x.2.1 < y.2.1 := by
        rw [mineOf_filter]
        exact List.pairwise_map.2 (hpw.filter _)
      have h4 : ((oversOf L L[j].1).map opAns).Pairwise fun x y => x.2.1 < y.2.1 := by
        rcases hl.mine h hwn with e | ⟨_, _, _, _, _, _, e⟩ <;> rw [e] at h3
        · exact h3
        · exact (List.pairwise_append.1 h3).1
      exact (List.pairwise_map (f := opAns) (R := fun x y : O2 × O2 => x.2.1 < y.2.1)).1 h4
    unfold oversOf at hov
    rw [List.pairwise_filter, List.pairwise_iff_getElem] at hov
    have := hov i j hi hj hij (by simp [hw, ovC_iff.2 oi]) (by simp [ovC_iff.2 oj])
    omega
  · -- of two: two things that were done
    obtain ⟨a, ha⟩ := List.mem_iff_getElem?.1 ei
    obtain ⟨b, hb⟩ := List.mem_iff_getElem?.1 ej
    obtain ⟨ha1, ha2⟩ := List.getElem?_eq_some_iff.1 ha
    obtain ⟨hb1, hb2⟩ := List.getElem?_eq_some_iff.1 hb
    rw [List.pairwise_iff_getElem] at hpw
    rcases Nat.lt_trichotomy a b with h3 | h3 | h3
    · have := hpw a b ha1 hb1 h3
      rw [ha2, hb2] at this
      simp only at this; omega
    · subst h3
      rw [ha2] at hb2
      exact hw (congrArg (·.1) hb2)
    · have := hpw b a hb1 ha1 h3
      rw [ha2, hb2] at this
      simp only at this; omega
end
end Go.Proofs.YtnheodgffackoaaDoor.Y

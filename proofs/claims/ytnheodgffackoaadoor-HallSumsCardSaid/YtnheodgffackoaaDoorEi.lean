/- The engine, ninth part: the steps of a run, and what a call, a loop and an end come to. -/
import Derived.Test.YtnheodgffackoaaDoorEh
namespace Go.Proofs.YtnheodgffackoaaDoor.E
set_option linter.unusedSimpArgs false
set_option linter.unusedVariables false
open Go
section
variable {C : Ctx} {ops : Array Oper} {L : List Nat} {tm : Tm} {H H' : Hp} {ρ : Rho} {listed : Array Bool} {a : Act} {w : World} {todo : List Item}

theorem readyO_spec {i : Nat} {o : Oper} (h : readyO L i o = true) : i ∉ L ∧ ∀ k ∈ predsL o.after.toList, k ∈ L := by
  unfold readyO at h
  split at h <;> try (cases h; done)
  rename_i hm
  exact ⟨memN_false.1 hm, predsIn_iff.1 h⟩
theorem readyO_intro {i : Nat} {o : Oper} (h1 : i ∉ L) (h2 : ∀ k ∈ predsL o.after.toList, k ∈ L) : readyO L i o = true := by
  unfold readyO
  rw [memN_false.2 h1]
  exact predsIn_iff.2 h2
/-- A quiet operation is taken ahead of its turn. -/
theorem GoodAny.take {i t : Nat} {o : Oper} {v : AV} (ho : ops[i]? = some o) (hr : readyO L i o = true) (hd : o.dst = some t) (ht : t < C.nt) (h1 : apartL ops t [] L = true) (h2 : freeOf ops (looks ops o) (predsL o.after.toList) L = true) (h3 : t ∉ looks ops o)
    (hp : PendOk C.E C.nt ops ((t, v) :: tm) H o) (h : GoodAny C ops (i :: L) ((t, v) :: tm) H todo) : GoodAny C ops L tm H todo := by
  intro ρ listed a w fuel hA h0 hcnt
  obtain ⟨hiL, hpre⟩ := readyO_spec hr
  have hlt := (Array.getElem?_eq_some_iff.1 ho).1
  have hui : listed.getD i false = false := by
    cases hu : listed.getD i false with
    | false => rfl
    | true => exact absurd (hA.sub i hlt hu) hiL
  refine h ρ listed a w fuel ⟨hA.size, fun j hj hl => by simp [hA.sub j hj hl], hA.down, ?_, ?_, ?_, ?_, ?_, hA.inv, hA.act, hA.down', hA.nosel⟩ h0 hcnt
  · intro j hj
    rcases List.mem_cons.1 hj with rfl | hj
    · exact hlt
    · exact hA.lt j hj
  · intro s hs
    have hne : s ≠ t := fun e => hs i o (by simp) hui ho (by rw [hd, e])
    rw [look_cons, if_neg hne]
    exact hA.tms s fun j oj hj => hs j oj (by simp [hj])
  · intro j oj hj hju hoj
    rcases List.mem_cons.1 hj with rfl | hj
    · rw [ho] at hoj; cases hoj; exact hp
    · have := apartL_spec h1 j oj hj (by simp) hoj
      exact (hA.pend j oj hj hju hoj).put this.1 this.2
  · intro j oj k ok s hj hju hoj hk hku hok hkd hs
    rcases List.mem_cons.1 hj with rfl | hj'
    · rw [ho] at hoj; cases hoj
      rcases List.mem_cons.1 hk with rfl | hk'
      · rw [ho] at hok; cases hok; rw [hd] at hkd; cases hkd; exact absurd hs h3
      · refine Classical.byContradiction fun hn => ?_
        exact freeOf_spec h2 k ok s hk' hn hok hkd hs
    · rcases List.mem_cons.1 hk with rfl | hk'
      · rw [ho] at hok; cases hok; rw [hd] at hkd; cases hkd
        exact absurd hs (apartL_spec h1 j oj hj' (by simp) hoj).1
      · exact hA.free j oj k ok s hj' hju hoj hk' hku hok hkd hs
  · intro j oj k ok s hj hju hoj hk hku hok hjd hkd
    rcases List.mem_cons.1 hj with rfl | hj'
    · rw [ho] at hoj; cases hoj
      rw [hd] at hjd; cases hjd
      rcases List.mem_cons.1 hk with rfl | hk'
      · rfl
      · exact absurd hkd (apartL_spec h1 k ok hk' (by simp) hok).2
    · rcases List.mem_cons.1 hk with rfl | hk'
      · rw [ho] at hok; cases hok; rw [hd] at hkd; cases hkd
        exact absurd hjd (apartL_spec h1 j oj hj' (by simp) hoj).2
      · exact hA.once j oj k ok s hj' hju hoj hk' hku hok hjd hkd

/-- What an operation in its turn is to meet: it is as if all that is on its way were hidden. -/
structure SyncOk (C : Ctx) (ops : Array Oper) (L : List Nat) (tm : Tm) (j : Nat) (o : Oper) : Prop where
  op : ops[j]? = some o
  ready : readyO L j o = true
  apart : ∀ t, o.dst = some t → apartL ops t (cloD ops (Nat.succ j) [j]) L = true
  free : freeOf ops (looks ops o) (cloD ops (Nat.succ j) [j]) L = true
theorem SyncOk.clo {j : Nat} {o : Oper} (hs : SyncOk C ops L tm j o) (hA : AnyInv C ops L tm H ρ listed a w) (hr : j ∈ Region.ready .any ops listed) : ∀ k ∈ cloD ops (Nat.succ j) [j], listed.getD k false = true ∨ k = j := by
  obtain ⟨o', ho', hu, hpre⟩ := (ready_iff hA.size).1 hr
  refine cloD_spec (P := fun k => listed.getD k false = true ∨ k = j) (fun k ok hok hk i hi => ?_) _ _ (by simp)
  rcases hk with hk | rfl
  · exact .inl (hA.down k ok hok hk i hi)
  · rw [ho'] at hok; cases hok
    exact .inl (hpre i hi)
/-- The real state, with what is on its way hidden, is as the abstract one where the operation looks. -/
theorem SyncOk.mask {j : Nat} {o : Oper} {g : Bool} (hs : SyncOk C ops L tm j o) (hA : AnyInv C ops L tm H ρ listed a w) (hr : j ∈ Region.ready .any ops listed) (hg : evG ops tm o = some g) :
    (∀ t ∈ looks ops o, look .any (maskOf ops listed L tm) t = look .any tm t) ∧ RelT ρ (maskOf ops listed L tm) a ∧ Region.wanted o (yielded ops a.tmps) = g := by
  have hjL := (readyO_spec hs.ready).1
  have hcl := hs.clo hA hr
  have hml := mask_look (tm := tm) (ops := ops) (listed := listed) (L := L) (o := o) fun i oi t hi hiu hoi hdi => by
    refine freeOf_spec hs.free i oi t hi (fun hc => ?_) hoi hdi
    rcases hcl i hc with h1 | rfl
    · rw [hiu] at h1; cases h1
    · exact hjL hi
  have hmT := mask_T hA
  exact ⟨hml, hmT, wanted_of hg fun t ht => by rw [← hml t ht]; exact hmT t⟩
/-- .. and behind it. -/
theorem SyncOk.next {j : Nat} {o : Oper} (hs : SyncOk C ops L tm j o) (hA : AnyInv C ops L tm H ρ listed a w) (hr : j ∈ Region.ready .any ops listed) {ρ' : Rho} {w' : World} {v : AV} {u : Value} {tm' : Tm}
    (hm : ∀ i l, i ∈ L → (∃ oi t, ops[i]? = some oi ∧ oi.dst = some t) → ρ i = some l → True) (hT : RelT ρ' (maskOf ops listed L tm) a) (hi : Inv C ρ' H' w') (hv : Den ρ' v u) (hput : putT C.nt tm o.dst v = some tm')
    (hst : ∀ i oi, i ∈ L → i ∉ cloD ops (Nat.succ j) [j] → ops[i]? = some oi → isLoad oi.op = true → evQ C.E oi.op tm H' = evQ C.E oi.op tm H) :
    AnyInv C ops (j :: L) tm' H' ρ' (listed.setIfInBounds j true) (a.put o.dst u) w' := by
  obtain ⟨o', ho', hu, hpre⟩ := (ready_iff hA.size).1 hr
  have ho := hs.op
  rw [ho] at ho'; cases ho'
  have hjL := (readyO_spec hs.ready).1
  have hcl := hs.clo hA hr
  have hlt := (Array.getElem?_eq_some_iff.1 ho).1
  have hll : j < listed.size := by rw [hA.size]; exact hlt
  have hnc : ∀ i, i ∈ L → listed.getD i false = false → i ∉ cloD ops (Nat.succ j) [j] := by
    intro i hi hiu hc
    rcases hcl i hc with h1 | rfl
    · rw [hiu] at h1; cases h1
    · exact hjL hi
  have hin : ∀ {i}, i ∈ j :: L → (listed.setIfInBounds j true).getD i false = false → i ∈ L ∧ listed.getD i false = false := by
    intro i hi hiu
    obtain ⟨h1, h2⟩ := getD_set_false hll hiu
    exact ⟨(List.mem_cons.1 hi).resolve_left h2, h1⟩
  -- the slots
  have slots : ∀ t, (∀ i oi, i ∈ L → listed.getD i false = false → ops[i]? = some oi → oi.dst ≠ some t) → Den ρ' (look .any tm t) (a.tmps.getD t Go.undef) := by
    intro t ht
    have h1 := hT t
    rcases mask_spec (tm := tm) (listed := listed) (ops := ops) t L with ⟨_, h2⟩ | h2
    · rw [h2] at h1; exact h1
    · -- it is hidden only if something is on its way to it
      have key : ∀ l, (∀ i ∈ l, i ∈ L) → look .any (maskOf ops listed l tm) t = look .any tm t := by
        intro l
        induction l with
        | nil => intro _; rfl
        | cons i l ih =>
          intro hl
          have ih := ih fun k hk => hl k (by simp [hk])
          simp only [maskOf]
          split
          · rename_i hiu
            split
            · rename_i d hd
              rw [look_cons]
              split
              · rename_i he
                subst he
                cases hoi : ops[i]? with
                | none => simp [hoi] at hd
                | some oi => simp [hoi] at hd; exact absurd hd (ht i oi (hl i (by simp)) hiu hoi)
              · exact ih
            · exact ih
          · exact ih
      rw [key L fun _ h => h] at h1
      exact h1
  refine ⟨by simpa using hA.size, ?_, ?_, ?_, ?_, ?_, ?_, ?_, hi, hA.act.put _ _, hA.down', hA.nosel⟩
  · intro i hi hl
    rcases getD_set_iff hl with h1 | rfl
    · simp [hA.sub i hi h1]
    · simp
  · intro k ok hok hl i hi
    rcases getD_set_iff hl with h1 | rfl
    · exact getD_set_true (hA.down k ok hok h1 i hi)
    · rw [ho] at hok; cases hok
      exact getD_set_true (hpre i hi)
  · intro i hi
    rcases List.mem_cons.1 hi with rfl | hi
    · exact hlt
    · exact hA.lt i hi
  · intro t ht
    have ht' : ∀ i oi, i ∈ L → listed.getD i false = false → ops[i]? = some oi → oi.dst ≠ some t := fun i oi hi hiu hoi => by
      refine ht i oi (by simp [hi]) ?_ hoi
      rw [getD_set_ne false]
      · exact hiu
      · rintro rfl; exact hjL hi
    unfold putT at hput
    cases hdst : o.dst with
    | none => rw [hdst] at hput; cases hput; exact slots t ht'
    | some d =>
      rw [hdst] at hput
      simp only at hput
      split at hput <;> cases hput
      rename_i hle
      have hle := Nat.le_of_ble_eq_true hle
      rw [look_cons, getD_put (by rw [hA.act.nt]; omega)]
      split
      · exact hv
      · exact slots t ht'
  · intro i oi hi hiu hoi
    obtain ⟨hiL, hiu⟩ := hin hi hiu
    have hn := hnc i hiL hiu
    have h1 := (hA.pend i oi hiL hiu hoi).heap (H' := H') fun hl => hst i oi hiL hn hoi hl
    unfold putT at hput
    cases hdst : o.dst with
    | none => rw [hdst] at hput; cases hput; exact h1
    | some d =>
      rw [hdst] at hput
      simp only at hput
      split at hput <;> cases hput
      have := apartL_spec (hs.apart d hdst) i oi hiL hn hoi
      exact h1.put this.1 this.2
  · intro i oi k ok s h1 h2 h3 h4 h5 h6 h7 h8
    obtain ⟨h1, h2⟩ := hin h1 h2
    obtain ⟨h4, h5⟩ := hin h4 h5
    exact hA.free i oi k ok s h1 h2 h3 h4 h5 h6 h7 h8
  · intro i oi k ok s h1 h2 h3 h4 h5 h6 h7 h8
    obtain ⟨h1, h2⟩ := hin h1 h2
    obtain ⟨h4, h5⟩ := hin h4 h5
    exact hA.once i oi k ok s h1 h2 h3 h4 h5 h6 h7 h8
theorem mask_mono {ρ' : Rho} (hm : ∀ i l, ρ i = some l → ρ' i = some l) (h : RelT ρ tm a) : RelT ρ' tm a := h.mono hm

/-- The state at which a body stands. -/
def Good (C : Ctx) (cfg : Cfg) : Prop := match cfg.hd with
  | .none => ∀ ρ a w, Inv C ρ cfg.H w → RelT ρ cfg.tm a → ActOk C a → Runs C.E.P C.f cfg.todo a w C.R
  | .seq ops rest => ∀ ρ a w, Inv C ρ cfg.H w → RelT ρ cfg.tm a → ActOk C a → wpOps C.E.P ops (Qof C.E.P C.f cfg.todo C.R) rest a w
  | .any ops L => GoodAny C ops L cfg.tm cfg.H cfg.todo

def Outs (C : Ctx) (outs : List (Cfg × List (Hint C.E) × List Prop)) : Prop := ∀ o, o ∈ outs → AllP o.2.2 ∧ Good C o.1
theorem Outs.one {C : Ctx} {c : Cfg} {h : List (Hint C.E)} {cs : List Prop} (hO : Outs C [(c, h, cs)]) : AllP cs ∧ Good C c := hO _ (List.mem_cons_self ..)
theorem ready_count (hA : AnyInv C ops L tm H ρ listed a w) {j fuel : Nat} (hj : j ∈ Region.ready .any ops listed) (hcnt : (List.range ops.size).countP (fun i => !listed.getD i false) ≤ fuel + 1) :
    (List.range ops.size).countP (fun i => !(listed.setIfInBounds j true).getD i false) ≤ fuel := by
  obtain ⟨o, ho, hu, _⟩ := (ready_iff hA.size).1 hj
  have := count_set (ops := ops) (Array.getElem?_eq_some_iff.1 ho).1 hA.size hu
  omega
theorem one_sync {h h' : List (Hint C.E)} {cfg cfg' : Cfg} {cs : List Prop} {j : Nat} {o : Oper} (he : stOne C.E C.nt h cfg ops L j = some (cfg', h', cs)) (hc : AllP cs) (ho : ops[j]? = some o) (hr : readyO L j o = true) (hgood : Good C cfg')
    {fuel : Nat} (hA : AnyInv C ops L cfg.tm cfg.H ρ listed a w) (hj : j ∈ Region.ready .any ops listed) (hcnt : (List.range ops.size).countP (fun i => !listed.getD i false) ≤ fuel + 1) :
    wpOp C.E.P ops (Qof C.E.P C.f cfg.todo C.R) j (wpAny C.E.P .any ops (Qof C.E.P C.f cfg.todo C.R) fuel (listed.setIfInBounds j true)) a w := by
  unfold stOne at he
  simp only [nthG?_eq, ho] at he
  split at he <;> try (cases he; done)
  · rename_i hg
    split at he <;> try (cases he; done)
    rename_i hb
    obtain ⟨hb2, hb⟩ := andB_cons.1 hb
    obtain ⟨hb3, _⟩ := andB_cons.1 hb
    split at he <;> cases he
    rename_i tm' hput
    have hs : SyncOk C ops L cfg.tm j o := ⟨ho, hr, fun t ht => by rw [ht] at hb2; exact hb2, hb3⟩
    obtain ⟨hml, hmT, hw⟩ := hs.mask hA hj hg
    unfold wpOp
    simp only [ho]
    rw [if_neg (by rw [hw]; simp)]
    have hA' := hs.next hA hj (v := .undef) (u := Go.undef) (tm' := tm') (fun _ _ _ _ _ => trivial) hmT hA.inv rfl hput (fun i oi hi hn hoi hl => rfl)
    exact hgood ρ _ _ _ fuel hA' (fun _ _ => trivial) (ready_count hA hj hcnt)
  · rename_i hg
    split at he <;> try (cases he; done)
    rename_i hb
    obtain ⟨hb2, hb⟩ := andB_cons.1 hb
    obtain ⟨hb3, _⟩ := andB_cons.1 hb
    split at he <;> try (cases he; done)
    rename_i v H' cs1 h1 hop
    split at he <;> cases he
    rename_i tm' hput
    have ⟨hc1, hc3⟩ := allP_app2 hc
    have hs : SyncOk C ops L cfg.tm j o := ⟨ho, hr, fun t ht => by rw [ht] at hb2; exact hb2, hb3⟩
    obtain ⟨hml, hmT, hw⟩ := hs.mask hA hj hg
    unfold wpOp
    simp only [ho]
    rw [if_pos hw]
    left
    have hop' : evAny h o (maskOf ops listed L cfg.tm) cfg.H = some (v, H', cs1, h') := by
      rw [← hop]; exact evAny_congr fun t ht => hml t (looks_op ht)
    refine evAny_wp hop' hc1 hmT hA.inv fun u w' ρ' h2 => ?_
    have hA' := hs.next hA hj (v := v) (u := u) (tm' := tm') (fun _ _ _ _ _ => trivial) (hmT.mono h2.mono) (hA.inv.loud h2) h2.den hput (fun i oi hi hn hoi hl => stillL_spec hc3 i oi hi hn hoi hl)
    exact hgood ρ' _ _ _ fuel hA' (fun _ _ => trivial) (ready_count hA hj hcnt)
theorem each_spec {h : List (Hint C.E)} {cfg : Cfg} : ∀ {l : List Nat} {outs : List (Cfg × List (Hint C.E) × List Prop)}, stEach C.E C.nt h cfg ops L l = some outs → ∀ j ∈ l, ∃ x, stOne C.E C.nt h cfg ops L j = some x ∧ x ∈ outs
  | [], _, _, j, hj => by cases hj
  | i :: l, outs, he, j, hj => by
    simp only [stEach] at he
    split at he <;> try (cases he; done)
    rename_i x hx
    split at he <;> cases he
    rename_i xs hxs
    rcases List.mem_cons.1 hj with rfl | hj
    · exact ⟨x, hx, List.mem_cons_self ..⟩
    · obtain ⟨y, h1, h2⟩ := each_spec hxs j hj
      exact ⟨y, h1, List.mem_cons_of_mem _ h2⟩
theorem st_sync {h : List (Hint C.E)} {cfg : Cfg} {outs : List (Cfg × List (Hint C.E) × List Prop)} (he : stFork C.E C.nt h cfg ops L = some outs) (hO : Outs C outs) : GoodAny C ops L cfg.tm cfg.H cfg.todo := by
  unfold stFork at he
  split at he <;> try (cases he; done)
  rename_i hne
  obtain ⟨j0, hj0⟩ := List.exists_mem_of_ne_nil _ hne
  obtain ⟨k, o0, hk, ho0, hr0⟩ := readyAll_ready hj0
  rw [Nat.zero_add] at hk
  subst hk
  have ho0' : ops[j0]? = some o0 := by simpa using ho0
  refine GoodAny.sync (fun ρ listed a w fuel i hA hi hiL hcnt => ?_) (Array.getElem?_eq_some_iff.1 ho0').1 (readyO_spec hr0).1
  obtain ⟨o, ho, hu, hpre⟩ := (ready_iff hA.size).1 hi
  have hr : readyO L i o = true := readyO_intro hiL fun k hk => by
    have hkl := hA.down' i o ho k hk
    have hlt' := (Array.getElem?_eq_some_iff.1 ho).1
    exact hA.sub k (by omega) (hpre k hk)
  have hm := readyAll_mem (L := L) (l := ops.toList) (i := 0) (k := i) (o := o) (by simpa using ho) (by rwa [Nat.zero_add])
  rw [Nat.zero_add] at hm
  obtain ⟨⟨c', h', cs⟩, hx, hmem⟩ := each_spec he i hm
  obtain ⟨hc, hg⟩ := hO _ hmem
  exact one_sync hx hc ho hr hg hA hi hcnt
theorem rangeN_eq : ∀ (n : Nat) (l : List Nat), rangeN n l = List.range n ++ l
  | 0, l => by simp [rangeN]
  | n + 1, l => by simp only [rangeN]; rw [rangeN_eq n, List.range_succ]; simp
theorem allIn_spec {L : List Nat} : ∀ {n : Nat}, allIn L n = true → ∀ i, i < n → i ∈ L
  | 0, _, i, hi => by omega
  | n + 1, h, i, hi => by
    simp only [allIn] at h
    split at h <;> try (cases h; done)
    rename_i hm
    by_cases he : i = n
    · subst he; exact memN_iff.1 hm
    · exact allIn_spec h i (by omega)
theorem exitE_eq : ∀ {k k' : List Item} {id : Nat}, exitE id k = some k' → exitTo id k = some k'
  | [], _, _, h => by simp [exitE] at h
  | x :: k, k', id, h => by
    cases x <;> simp only [exitE] at h <;> simp only [exitTo] <;> first
      | exact exitE_eq h
      | (split at h
         · rename_i hb
           cases h
           have := Nat.eq_of_beq_eq_true hb
           rw [if_pos (by simpa using this)]
         · rename_i hb
           rw [if_neg (by intro he; have := beq_iff_eq.1 he; subst this; simp at hb)]
           exact exitE_eq h)

theorem stSeq_sound {h : List (Hint C.E)} {outs : List (Cfg × List (Hint C.E) × List Prop)} {i : Nat} {rest : List Nat} {hd : Hd} (he : stSeq C.E C.nt h ⟨hd, todo, tm, H⟩ ops i rest = some outs) (hO : Outs C outs) : Good C ⟨.seq ops (i :: rest), todo, tm, H⟩ := by
  intro ρ a w hi ht ha
  simp only at hi ht
  unfold stSeq at he
  simp only [nthG?_eq] at he
  rw [wpOps_cons]
  unfold wpOp
  split at he <;> try (cases he; done)
  rename_i o ho
  simp only [ho]
  split at he <;> try (cases he; done)
  · rename_i hgd
    split at he <;> cases he
    rename_i tm' hput
    rw [if_neg (by rw [wanted_of hgd fun t _ => ht t]; simp)]
    exact hO.one.2 ρ _ w hi (putT_sound hput ht ha rfl) (ha.put _ _)
  · rename_i hgd
    split at he <;> try (cases he; done)
    rename_i v H' cs1 h1 hop
    split at he <;> cases he
    rename_i tm' hput
    obtain ⟨hc, hg⟩ := hO.one
    rw [if_pos (wanted_of hgd fun t _ => ht t)]
    left
    refine evAny_wp hop hc ht hi fun u w' ρ' h2 => ?_
    exact hg ρ' _ w' (hi.loud h2) (putT_sound hput (ht.mono h2.mono) ha h2.den) (ha.put _ _)
theorem decide1_le {d : Option Bool} {v v' : AV} {cs : List Prop} (h : decide1 d v = some (v', cs)) (hc : AllP cs) : Le v v' := fun _ _ hv => decide1_sound h hc hv
theorem stAny_sound {h : List (Hint C.E)} {outs : List (Cfg × List (Hint C.E) × List Prop)} {hd : Hd} (he : stAny C.E C.nt h ⟨hd, todo, tm, H⟩ ops L = some outs) (hO : Outs C outs) : Good C ⟨.any ops L, todo, tm, H⟩ := by
  show GoodAny C ops L tm H todo
  unfold stAny at he
  split at he
  · rename_i hall
    cases he
    refine GoodAny.done (fun i hi => allIn_spec hall i (by rw [len_eq]; simpa using hi)) hO.one.2
  · split at he
    · split at he
      · exact st_sync (cfg := ⟨hd, todo, tm, H⟩) he hO
      rename_i i _ _ _ hpick
      simp only [nthG?_eq] at he
      split at he <;> try (cases he; done)
      rename_i o ho
      split at he <;> try (cases he; done)
      rename_i hr
      split at he
      rotate_left
      · exact st_sync (cfg := ⟨hd, todo, tm, H⟩) he hO
      rename_i T h' t hgd hkey hdst
      split at he
      rotate_left
      · exact st_sync (cfg := ⟨hd, todo, tm, H⟩) he hO
      rename_i v cs hq
      split at he
      rotate_left
      · exact st_sync (cfg := ⟨hd, todo, tm, H⟩) he hO
      rename_i hb
      obtain ⟨hb1, hb⟩ := andB_cons.1 hb
      obtain ⟨hb2, hb⟩ := andB_cons.1 hb
      obtain ⟨hb3, hb⟩ := andB_cons.1 hb
      obtain ⟨hb4, _⟩ := andB_cons.1 hb
      have hb4 := Nat.le_of_ble_eq_true hb4
      have hnl : t ∉ looks ops o := by
        split at hb3 <;> try (cases hb3; done)
        rename_i hm; exact memN_false.1 hm
      cases he
      obtain ⟨hc, hg⟩ := hO.one
      have hl : ∀ s ∈ looks ops o, look .any ((t, v) :: tm) s = look .any tm s := fun s hs => by rw [look_cons, if_neg (by rintro rfl; exact hnl hs)]
      refine GoodAny.take ho hr hdst hb4 hb1 hb2 hnl ⟨t, hdst, hb4, .inr (.inr ⟨?_, T, v, cs, ?_, hc, ?_⟩)⟩ hg
      · rw [← hgd]; exact evG_congr hl
      · rw [← hq]; exact evPure_congr (ops_congr fun s hs => hl s (looks_op hs))
      · rw [look_cons, if_pos rfl]; exact fun _ _ h => h
    rename_i i hpick
    simp only [nthG?_eq] at he
    split at he <;> try (cases he; done)
    rename_i o ho
    split at he <;> try (cases he; done)
    rename_i hr
    split at he <;> try (cases he; done)
    · rename_i hgd
      split at he <;> try (cases he; done)
      rename_i t hdst
      split at he
      rotate_left
      · exact st_sync (cfg := ⟨hd, todo, tm, H⟩) he hO
      cases he
      rename_i hb
      obtain ⟨hb1, hb⟩ := andB_cons.1 hb
      obtain ⟨hb2, hb⟩ := andB_cons.1 hb
      obtain ⟨hb3, hb⟩ := andB_cons.1 hb
      obtain ⟨hb4, _⟩ := andB_cons.1 hb
      have hb4 := Nat.le_of_ble_eq_true hb4
      have hnl : t ∉ looks ops o := by
        split at hb3 <;> try (cases hb3; done)
        rename_i hm; exact memN_false.1 hm
      refine GoodAny.take ho hr hdst hb4 hb1 hb2 hnl ⟨t, hdst, hb4, .inl ⟨?_, by rw [look_cons, if_pos rfl]⟩⟩ hO.one.2
      rw [← hgd]
      exact evG_congr fun s hs => by rw [look_cons, if_neg (by rintro rfl; exact hnl hs)]
    · rename_i hgd
      split at he
      · rename_i v cs1 t hq hdst
        split at he
        · rename_i hb
          obtain ⟨hb1, hb⟩ := andB_cons.1 hb
          obtain ⟨hb2, hb⟩ := andB_cons.1 hb
          obtain ⟨hb3, hb⟩ := andB_cons.1 hb
          obtain ⟨hb4, _⟩ := andB_cons.1 hb
          have hb4 := Nat.le_of_ble_eq_true hb4
          have hnl : t ∉ looks ops o := by
            split at hb3 <;> try (cases hb3; done)
            rename_i hm; exact memN_false.1 hm
          rcases hfh : firstHint h o.dst with ⟨d, fx, fy, h1⟩
          simp only [hfh] at he
          split at he <;> cases he
          rename_i v' cs2 hdec
          obtain ⟨hc, hg⟩ := hO.one
          have ⟨hc1, hc2⟩ := allP_app2 hc
          have hl : ∀ s ∈ looks ops o, look .any ((t, v') :: tm) s = look .any tm s := fun s hs => by rw [look_cons, if_neg (by rintro rfl; exact hnl hs)]
          refine GoodAny.take ho hr hdst hb4 hb1 hb2 hnl ⟨t, hdst, hb4, .inr (.inl ⟨?_, v, cs1, ?_, hc1, ?_⟩)⟩ hg
          · rw [← hgd]; exact evG_congr hl
          · rw [← hq]; exact evQ_congr (ops_congr fun s hs => hl s (looks_op hs))
          · rw [look_cons, if_pos rfl]; exact decide1_le hdec hc2
        · exact st_sync (cfg := ⟨hd, todo, tm, H⟩) he hO
      · exact st_sync (cfg := ⟨hd, todo, tm, H⟩) he hO
theorem any_start (hm : C.E.P.follows .mixedOrders = true) {id : Nat} (h1 : edgesDown 0 ops.toList = true) (h2 : noSel ops.toList = true) (h : GoodAny C ops [] tm H todo) (hi : Inv C ρ H w) (ht : RelT ρ tm a) (ha : ActOk C a) : Runs C.E.P C.f (.code (.region id ops true) :: todo) a w C.R := by
  refine Runs.wp (wp_region_any hm (h ρ _ a _ _ ?_ (fun _ _ => trivial) ?_))
  · refine ⟨by simp, fun i hi hl => ?_, fun k o ho hl => ?_, fun i hi => (by cases hi), fun t _ => ht t, fun i o hi => (by cases hi), fun i o k ok t hi => (by cases hi), fun i o k ok t hi => (by cases hi), hi.drew, ha, fun j o ho k hk => ?_, fun j o cs b ho he => ?_⟩
    · simp [Array.getD_eq_getD_getElem?, Array.getElem?_replicate] at hl
      split at hl <;> simp at hl
    · simp [Array.getD_eq_getD_getElem?, Array.getElem?_replicate] at hl
      split at hl <;> simp at hl
    · have := edges_down h1 j o (by simpa using ho) k hk
      omega
    · have key : ∀ (l : List Oper), noSel l = true → ∀ o ∈ l, ∀ cs b, o.op ≠ .select cs b := by
        intro l
        induction l with
        | nil => intro _ o ho; cases ho
        | cons x l ih =>
          intro hl o ho cs b he
          simp only [noSel] at hl
          split at hl <;> try (cases hl; done)
          rename_i hns
          rcases List.mem_cons.1 ho with rfl | ho
          · exact hns _ _ he
          · exact ih hl o ho cs b he
      exact key _ h2 o (by have := (Array.getElem?_eq_some_iff.1 ho); obtain ⟨hlt, rfl⟩ := this; simp) cs b he
  · refine Nat.le_trans (List.countP_le_length) ?_
    simp
theorem stCode_sound (hm : C.E.P.follows .mixedOrders = true) {h : List (Hint C.E)} {outs : List (Cfg × List (Hint C.E) × List Prop)} {c : Code} {k : List Item} (he : stCode C.E h ⟨.none, todo, tm, H⟩ k c = some outs) (hO : Outs C outs) : Good C ⟨.none, .code c :: k, tm, H⟩ := by
  intro ρ a w hi ht ha
  simp only at hi ht ⊢
  cases c <;> simp only [stCode] at he <;> try (cases he; done)
  case skip => cases he; exact Runs.step (fun b cs => step_skip) (hO.one.2 ρ a w hi ht ha)
  case label l => cases he; exact Runs.step (fun b cs => step_label) (hO.one.2 ρ a w hi ht ha)
  case seq x y => cases he; exact Runs.step (fun b cs => step_seq) (hO.one.2 ρ a w hi ht ha)
  case cond x t e =>
    have hx := den_opv (E := C.E) ht hi.glob x
    split at he
    · rename_i hv
      cases he
      rw [hv] at hx
      refine Runs.step (fun b cs => step_cond (t := true) hx) ?_
      exact hO.one.2 ρ a w hi ht ha
    · rename_i hv
      cases he
      rw [hv] at hx
      refine Runs.step (fun b cs => step_cond (t := false) hx) ?_
      exact hO.one.2 ρ a w hi ht ha
    · rename_i b0 hv
      rw [hv] at hx
      split at he <;> cases he
      · obtain ⟨⟨hb, _⟩, hg⟩ := hO.one
        subst hb
        refine Runs.step (fun b cs => step_cond (t := true) hx) ?_
        exact hg ρ a w hi ht ha
      · obtain ⟨⟨hb, _⟩, hg⟩ := hO.one
        subst hb
        refine Runs.step (fun b cs => step_cond (t := false) hx) ?_
        exact hg ρ a w hi ht ha
    · cases he
  case block id c => cases he; exact Runs.step (fun b cs => step_block) (hO.one.2 ρ a w hi ht ha)
  case loop c =>
    split at he <;> cases he
    exact Runs.step (fun b cs => step_loop) (hO.one.2 ρ a w hi ht ha)
  case exit id =>
    split at he <;> cases he
    rename_i k' hk
    exact Runs.step (fun b cs => step_exit (exitE_eq hk)) (hO.one.2 ρ a w hi ht ha)
  case region id ops draw =>
    cases draw <;> simp only at he
    · cases he
      refine Runs.wp (wp_region ?_)
      have := hO.one.2 ρ a w hi ht ha
      rw [rangeN_eq, List.append_nil, len_eq] at this
      simpa using this
    · split at he <;> cases he
      rename_i hb
      obtain ⟨hb1, hb⟩ := andB_cons.1 hb
      obtain ⟨hb2, _⟩ := andB_cons.1 hb
      exact any_start hm hb1 hb2 hO.one.2 hi ht ha
theorem st_sound (hm : C.E.P.follows .mixedOrders = true) {h : List (Hint C.E)} {cfg : Cfg} {outs : List (Cfg × List (Hint C.E) × List Prop)} (he : st C.E C.nt h cfg = some outs) (hO : Outs C outs) : Good C cfg := by
  obtain ⟨hd, todo, tm, H⟩ := cfg
  unfold st at he
  cases hd with
  | none =>
    simp only at he
    cases todo with
    | nil => cases he
    | cons it k =>
      cases it <;> simp only at he <;> try (cases he; done)
      case code c => exact stCode_sound hm he hO
      case inBlock id => cases he; intro ρ a w h1 h2 h3; exact Runs.step (fun b cs => step_inBlock) (hO.one.2 ρ a w h1 h2 h3)
      case inLoop c =>
        split at he <;> cases he
        intro ρ a w h1 h2 h3; exact Runs.step (fun b cs => step_inLoop) (hO.one.2 ρ a w h1 h2 h3)
  | seq ops l =>
    cases l with
    | nil => cases he; exact fun ρ a w h1 h2 h3 => hO.one.2 ρ a w h1 h2 h3
    | cons i rest => exact stSeq_sound he hO
  | any ops L => exact stAny_sound he hO
theorem mem_push {cs : List Prop} {w : Wk C.E} : ∀ {l : List (Cfg × List (Hint C.E) × List Prop)} {c : Cfg} {h : List (Hint C.E)} {ds : List Prop}, (c, h, ds) ∈ l → (h, c, app2 ds cs) ∈ pushAll cs w l
  | [], _, _, _, hm => by cases hm
  | (c', h', ds') :: l, c, h, ds, hm => by
    simp only [pushAll]
    rcases List.mem_cons.1 hm with hm | hm
    · cases hm; exact List.mem_cons_self ..
    · exact List.mem_cons_of_mem _ (mem_push hm)
theorem mem_rest {cs : List Prop} {w : Wk C.E} {x : List (Hint C.E) × Cfg × List Prop} (hx : x ∈ w) : ∀ {l : List (Cfg × List (Hint C.E) × List Prop)}, x ∈ pushAll cs w l
  | [] => hx
  | (c', h', ds') :: l => by simp only [pushAll]; exact List.mem_cons_of_mem _ (mem_rest hx)
theorem mem_ends : ∀ {w : Wk C.E} {h : List (Hint C.E)} {c : Cfg} {cs : List Prop}, (h, c, cs) ∈ w → (c, cs) ∈ ends w
  | [], _, _, _, hm => by cases hm
  | (h', c', cs') :: w, h, c, cs, hm => by
    simp only [ends]
    rcases List.mem_cons.1 hm with hm | hm
    · cases hm; exact List.mem_cons_self ..
    · exact List.mem_cons_of_mem _ (mem_ends hm)
theorem evW_sound (hm : C.E.P.follows .mixedOrders = true) : ∀ {n : Nat} {w : Wk C.E}, (∀ x, x ∈ evW C.E C.nt n w → AllP x.2 ∧ Good C x.1) → ∀ h c cs, (h, c, cs) ∈ w → AllP cs ∧ Good C c
  | 0, w, hg, h, c, cs, hx => hg (c, cs) (mem_ends hx)
  | n + 1, [], _, h, c, cs, hx => by cases hx
  | n + 1, (h0, c0, cs0) :: w, hg, h, c, cs, hx => by
    simp only [evW] at hg
    have done : (∀ x, x ∈ (c0, cs0) :: evW C.E C.nt n w → AllP x.2 ∧ Good C x.1) → AllP cs ∧ Good C c := fun hg => by
      rcases List.mem_cons.1 hx with he | hx
      · cases he; exact hg (c0, cs0) (List.mem_cons_self ..)
      · exact evW_sound hm (fun x hx => hg x (List.mem_cons_of_mem _ hx)) h c cs hx
    split at hg
    · exact done hg
    · split at hg
      · exact done hg
      · exact done hg
      · rename_i o outs hst
        have ih := evW_sound hm hg
        rcases List.mem_cons.1 hx with he | hx
        · cases he
          have key : ∀ x, x ∈ o :: outs → AllP (app2 x.2.2 cs0) ∧ Good C x.1 := fun x hx => ih x.2.1 x.1 _ (mem_push (c := x.1) (h := x.2.1) (ds := x.2.2) hx)
          exact ⟨(allP_app2 (key o (List.mem_cons_self ..)).1).2, st_sound hm hst fun x hx => ⟨(allP_app2 (key x hx).1).1, (key x hx).2⟩⟩
        · exact ih h c cs (mem_rest hx)
theorem ev_sound (hm : C.E.P.follows .mixedOrders = true) {n : Nat} {h : List (Hint C.E)} {cfg : Cfg} (hg : ∀ x, x ∈ ev C.E C.nt n h cfg → AllP x.2 ∧ Good C x.1) : Good C cfg :=
  (evW_sound hm hg h cfg [] (List.mem_cons_self ..)).2
end
end Go.Proofs.YtnheodgffackoaaDoor.E

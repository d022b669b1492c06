/- StockFew: the law's loops. -/
import Derived.Test.YthlpfafmiakfdaaDoorL12e
namespace Go.Proofs.YthlpfafmiakfdaaDoor.E
set_option linter.unusedSimpArgs false
set_option linter.unusedVariables false
open Go
set_option maxRecDepth 100000
section
variable {kk vk : K}
theorem mborn_or (x : ty kk) (c : Nat) : ∀ es : List (Ent kk vk), mborn x c es = c ∨ mborn x c es ∈ es.map (·.2.2)
  | [] => .inl rfl
  | e :: es => by
    cases he : keyEq kk x e.1 with
    | true => right; simp [mborn, he]
    | false =>
      have : mborn x c (e :: es) = mborn x c es := by simp [mborn, he]
      rw [this]
      rcases mborn_or x c es with h | h
      · exact .inl h
      · exact .inr (by rw [List.map_cons]; exact List.mem_cons_of_mem _ h)
/-- What is stored into an entry that was got: it is put. -/
theorem mset_put (x : ty kk) (y z : ty vk) (c : Nat) : ∀ es : List (Ent kk vk), bornOk c es → mset (mborn x c es : Int) y (mput x z c es) = mput x y c es
  | [], _ => by simp [mborn, mput, mset]
  | e :: es, h => by
    have h1 : e.2.2 ∉ es.map (·.2.2) ∧ (es.map (·.2.2)).Nodup := List.nodup_cons.1 h.1
    have ih := mset_put x y z c es ⟨h1.2, fun f hf => h.2 f (by simp [hf])⟩
    cases he : keyEq kk x e.1 with
    | true => simp [mborn, mput, mset, he]
    | false =>
      have e1 : mborn x c (e :: es) = mborn x c es := by simp [mborn, he]
      have e2 : ∀ w : ty vk, mput x w c (e :: es) = e :: mput x w c es := fun w => by simp [mput, he]
      have hne : ((e.2.2 : Int) == (mborn x c es : Int)) = false := by
        have h3 : e.2.2 ≠ mborn x c es := by
          rcases mborn_or x c es with h2 | h2
          · have := h.2 e (by simp); omega
          · intro hh; rw [← hh] at h2; exact h1.1 h2
        exact beq_eq_false_iff_ne.2 fun hh => h3 (Int.ofNat.inj hh)
      rw [e1, e2, e2]
      simp only [mset, hne, ih]
theorem mborn_mem (x : ty kk) (y : ty vk) (c : Nat) : ∀ es : List (Ent kk vk), ∃ e, e ∈ mput x y c es ∧ (e.2.2 : Int) = (mborn x c es : Int)
  | [] => ⟨(x, y, c), by simp [mput], rfl⟩
  | e :: es => by
    cases he : keyEq kk x e.1 with
    | true => exact ⟨(x, y, e.2.2), by simp [mput, he], by simp [mborn, he]⟩
    | false =>
      obtain ⟨f, h1, h2⟩ := mborn_mem x y c es
      exact ⟨f, by simp [mput, he, h1], by rw [h2]; simp [mborn, he]⟩
end
abbrev GMap := List (Ent BlkK cK)
structure GInv (bs : List Blk) (i gcl : Nat) (gm : GMap) : Prop where
  born : bornOk gcl gm
  keys : keysG gm
  sub : ∀ x : Blk, x ∈ gm.map (·.1) → x ∈ bs.take i
theorem GInv.mono {bs : List Blk} {i gcl : Nat} {gm : GMap} (h : GInv bs i gcl gm) : GInv bs (i + 1) gcl gm := ⟨h.born, h.keys, fun x hx => by
  have := h.sub x hx
  rw [List.take_add_one]; exact List.mem_append_left _ this⟩
theorem keys_putG {x : Blk} {y : Int} {c : Nat} : ∀ {es : GMap} {z : Blk}, z ∈ (mput (kk := BlkK) (vk := cK) x y c es).map (·.1) → z = x ∨ z ∈ es.map (·.1)
  | [], z, h => by simp [mput] at h; exact .inl h
  | e :: es, z, h => by
    cases he : keyEq BlkK x e.1 with
    | true =>
      have : mput (kk := BlkK) (vk := cK) x y c (e :: es) = (x, y, e.2.2) :: es := by simp [mput, he]
      rw [this] at h
      simp only [List.map_cons, List.mem_cons] at h ⊢
      rcases h with h | h
      · exact .inl h
      · exact .inr (.inr h)
    | false =>
      have : mput (kk := BlkK) (vk := cK) x y c (e :: es) = e :: mput (kk := BlkK) (vk := cK) x y c es := by simp [mput, he]
      rw [this] at h
      simp only [List.map_cons, List.mem_cons] at h ⊢
      rcases h with h | h
      · exact .inr (.inl h)
      · rcases keys_putG h with h | h
        · exact .inl h
        · exact .inr (.inr h)
theorem GInv.put {bs : List Blk} {i gcl : Nat} {gm : GMap} (h : GInv bs i gcl gm) {b : Blk} (hb : b ∈ bs.take i) (v : Int) : GInv bs i (mclock (kk := BlkK) b gcl gm) (mput (kk := BlkK) (vk := cK) b v gcl gm) :=
  ⟨bornOk_put h.born, keysG_put L_blk h.keys, fun x hx => by
    rcases keys_putG hx with rfl | hx
    · exact hb
    · exact h.sub x hx⟩
theorem GInv.len {bs : List Blk} {i gcl : Nat} {gm : GMap} (h : GInv bs i gcl gm) : gm.length ≤ bs.length := by
  have h1 : (gm.map fun e : Ent BlkK cK => (e.1 : Blk)).Nodup := h.keys
  have := len_subG h1 h.sub
  simp at this
  omega
structure SInv (c : Cnf) (k : Nat) (bs : List Blk) (i : Nat) (s : PS) : Prop where
  good : s.Good
  nodup : s.pile.Nodup
  inb : ∀ b ∈ s.pile, inB c k b
  sub : ∀ b ∈ s.pile, b ∈ bs.take i
noncomputable abbrev gFw (own own2 : Bool) (c : Cnf) (bs : List Blk) : Frm := ⟨En, 4, Tryd.f4.ntmps, [.tab own (.int .i64) c.cl, .tab own2 BlkK bs], .bl true, [.gone, .gone]⟩
abbrev fwO (own own2 : Bool) (c : Cnf) (k : Nat) (bs : List Blk) (s : PS) (gcl : Nat) (gm : GMap) : List AObj := [.tab own (.int .i64) c.cl, .tab own2 BlkK bs, cnfC c, stkC 5 c, .map BlkK cK gcl gm, clsO c, .mix k rawT (.slice 8 0 s.m), .mix k rawT (.map 9), .tab true BlkK s.zs, .map BlkK .unit s.cl s.es]
noncomputable abbrev fw1 (own own2 : Bool) (c : Cnf) (k : Nat) (bs : List Blk) (s : PS) (gcl : Nat) (gm : GMap) (i : Nat) : Cfg := ⟨.none, lp Tryd.f4 0, [(2, .slice 1 0 bs.length), (3, .ptr 2 0 0), (7, .ptr 3 0 0), (8, .int .i64 k), (9, .map 4), (39, .slice 1 0 bs.length), (40, .int .i64 bs.length), (41, .int .i64 i)], hp (fwO own own2 c k bs s gcl gm)⟩
noncomputable abbrev fw3 (own own2 : Bool) (c : Cnf) (k : Nat) (bs : List Blk) (s : PS) (gcl : Nat) (gm : GMap) (i : Nat) (p : List Blk) (m j : Nat) : Cfg := ⟨.none, lp Tryd.f4 2, [(2, .slice 1 0 bs.length), (3, .ptr 2 0 0), (7, .ptr 3 0 0), (8, .int .i64 k), (9, .map 4), (17, .slice 10 0 m), (39, .slice 1 0 bs.length), (40, .int .i64 bs.length), (41, .int .i64 i), (76, .slice 10 0 m), (77, .int .i64 m), (78, .int .i64 j)], hp (fwO own own2 c k bs s gcl gm ++ [.tab true BlkK p])⟩
/-- The third loop: each block is there once. -/
theorem fw_3 (own own2 : Bool) (c : Cnf) (h : c.Ok) (k : Nat) (bs : List Blk) (hbs : bs.length ≤ 200) (s : PS) (gcl : Nat) (gm : GMap) (i : Nat) (hi : i < bs.length) (p : List Blk) (m : Nat) (hm : p.length = m) (hn : p.Nodup) (h2b : (m : Int) ≤ 2 * c.b) (next : Goods (gFw own own2 c bs) (fw1 own own2 c k bs s gcl gm (i + 1))) : ∀ (r j : Nat), j + r = m → Goods (gFw own own2 c bs) (fw3 own own2 c k bs s gcl gm i p m j)
  | 0, j, hj => by
    have b1 := h.b1
    have b0 := h.b0
    refine Goods.to 2000 [.b false, .b false, .l, .stop] mixed (next) (by kernel_rfl) ?_
    show Yes _
    repeat' apply And.intro
    (all_goals first | rfl | assumption | trivial | omega | (simp [-List.getD_eq_getElem?_getD] <;> omega) | (simp (disch := omega) only [w64, wu64] <;> omega) | (simp (disch := omega) [-List.getD_eq_getElem?_getD, List.getD_cons_zero, List.getD_cons_succ, kCast_self, dfl_pair, dfl_int, w64, wu64] <;> omega) | (rw [Bool.eq_iff_iff]; simp (disch := omega) [-List.getD_eq_getElem?_getD, List.getD_cons_zero, List.getD_cons_succ, kCast_self, dfl_pair, dfl_int, w64, wu64] <;> omega) | (simp_all [-List.getD_eq_getElem?_getD] <;> omega))
  | r + 1, j, hj => by
    have b1 := h.b1
    have ih := fw_3 own own2 c h k bs hbs s gcl gm i hi p m hm hn h2b next r (j + 1) (by omega)
    have h1 := rsHas_tri true p (bAt p j) j (by omega) (by omega)
    have e : decide (bAt p j ∈ p.take j) = false := decide_eq_false fun hh => by
      have h3 : (p.take (j + 1)).Nodup := hn.sublist (List.take_sublist ..)
      rw [takeB_snoc (by omega)] at h3
      have := (List.nodup_append.1 h3).2.2 _ hh (bAt p j) (by simp)
      exact this rfl
    rw [e] at h1
    generalize hB : bAt p j = b at *
    refine Goods.to 2000 [.b true, .c (.of h1), .l, .stop] mixed (ih) (by kernel_rfl) ?_
    show Yes _
    repeat' apply And.intro
    (all_goals first | rfl | assumption | trivial | omega | (simp [-List.getD_eq_getElem?_getD, hB] <;> omega) | (simp (disch := omega) only [w64, wu64] <;> omega) | (simp (disch := omega) [-List.getD_eq_getElem?_getD, List.getD_cons_zero, List.getD_cons_succ, kCast_self, dfl_pair, dfl_int, w64, wu64, hB] <;> omega) | (rw [Bool.eq_iff_iff]; simp (disch := omega) [-List.getD_eq_getElem?_getD, List.getD_cons_zero, List.getD_cons_succ, kCast_self, dfl_pair, dfl_int, w64, wu64, hB] <;> omega) | (simp_all [-List.getD_eq_getElem?_getD] <;> omega))
noncomputable abbrev fw2 (own own2 : Bool) (c : Cnf) (k : Nat) (bs : List Blk) (s : PS) (gcl : Nat) (gm : GMap) (i : Nat) (sup : Int) (l : List Int) (j : Nat) : Cfg := ⟨.none, lp Tryd.f4 1, [(2, .slice 1 0 bs.length), (3, .ptr 2 0 0), (7, .ptr 3 0 0), (8, .int .i64 k), (9, .map 4), (12, .int .i64 sup), (39, .slice 1 0 bs.length), (40, .int .i64 bs.length), (41, .int .i64 i), (58, .slice 10 0 l.length), (59, .int .i64 l.length), (60, .int .i64 j)], hp (fwO own own2 c k bs s gcl gm ++ [.tab true (.int .i64) l])⟩
/-- The second loop: what went is counted. -/
theorem fw_2 (own own2 : Bool) (c : Cnf) (h : c.Ok) (k : Nat) (hk : k < c.cl.length) (bs : List Blk) (hbs : bs.length ≤ 200) (s : PS) (i : Nat) (hg : s.Good) (hm : s.m ≤ 200) (sup : Int) (l : List Int) (hl : ∀ j, j < l.length → ((sup, l.getD j 0) : Blk) ∈ bs.take (i + 1)) (hl64 : l.length ≤ 64)
    (next : ∀ gcl gm, GInv bs (i + 1) gcl gm → Goods (gFw own own2 c bs) (fw3 own own2 c k bs s gcl gm i s.pile s.m 0)) : ∀ (r j gcl : Nat) (gm : GMap), j + r = l.length → GInv bs (i + 1) gcl gm → Goods (gFw own own2 c bs) (fw2 own own2 c k bs s gcl gm i sup l j)
  | 0, j, gcl, gm, hj, hG => by
    have l1 := h.l1
    have h1 := blocks_tri c l1 k rawT rawT s hk hg.le (by omega)
    have ih := next gcl gm hG
    generalize hP : s.pile = p at *
    have hP' : s.zs.take s.m = p := hP
    rw [hP'] at h1
    refine Goods.to 2000 [.b false, .c (.of h1), .l, .stop] mixed (ih) (by kernel_rfl) ?_
    show Yes _
    repeat' apply And.intro
    (all_goals first | rfl | assumption | trivial | omega | (simp [-List.getD_eq_getElem?_getD] <;> omega) | (simp (disch := omega) only [w64, wu64] <;> omega) | (simp (disch := omega) [-List.getD_eq_getElem?_getD, List.getD_cons_zero, List.getD_cons_succ, kCast_self, dfl_pair, dfl_int, w64, wu64] <;> omega) | (rw [Bool.eq_iff_iff]; simp (disch := omega) [-List.getD_eq_getElem?_getD, List.getD_cons_zero, List.getD_cons_succ, kCast_self, dfl_pair, dfl_int, w64, wu64] <;> omega) | (simp_all [-List.getD_eq_getElem?_getD] <;> omega))
  | r + 1, j, gcl, gm, hj, hG => by
    have hin := hl j (by omega)
    obtain ⟨x, hx⟩ : ∃ x, l.getD j 0 = x := ⟨_, rfl⟩
    rw [hx] at hin
    have ih := fw_2 own own2 c h k hk bs hbs s i hg hm sup l hl hl64 next r (j + 1) (mclock (kk := BlkK) ((sup, x) : Blk) gcl gm) (mput (kk := BlkK) (vk := cK) ((sup, x) : Blk) (IntKind.i64.wrap (((mget (kk := BlkK) (vk := cK) ((sup, x) : Blk) gm).getD (0 : Int) : Int) + 1)) gcl gm) (by omega) (hG.put hin _)
    have a1 := mset_put (kk := BlkK) (vk := cK) ((sup, x) : Blk) (IntKind.i64.wrap (((mget (kk := BlkK) (vk := cK) ((sup, x) : Blk) gm).getD (0 : Int) : Int) + 1)) ((mget (kk := BlkK) (vk := cK) ((sup, x) : Blk) gm).getD (0 : Int)) gcl gm hG.born
    have a2 := mborn_mem (kk := BlkK) (vk := cK) ((sup, x) : Blk) ((mget (kk := BlkK) (vk := cK) ((sup, x) : Blk) gm).getD (0 : Int)) gcl gm
    have a3 : mget (kk := BlkK) (vk := cK) ((sup, x) : Blk) (mput (kk := BlkK) (vk := cK) ((sup, x) : Blk) ((mget (kk := BlkK) (vk := cK) ((sup, x) : Blk) gm).getD (0 : Int)) gcl gm) = some ((mget (kk := BlkK) (vk := cK) ((sup, x) : Blk) gm).getD (0 : Int)) := by rw [mgetG_put L_blk]; simp
    refine Goods.to 2000 [.b true, .l, .stop] mixed (ih) (by kernel_rfl) ?_
    show Yes _
    repeat' apply And.intro
    (all_goals first | rfl | assumption | trivial | omega | (simp [-List.getD_eq_getElem?_getD, hx, a1, a2, a3] <;> omega) | (simp (disch := omega) only [w64, wu64] <;> omega) | (simp (disch := omega) [-List.getD_eq_getElem?_getD, List.getD_cons_zero, List.getD_cons_succ, kCast_self, dfl_pair, dfl_int, w64, wu64, hx, a1, a2, a3] <;> omega) | (rw [Bool.eq_iff_iff]; simp (disch := omega) [-List.getD_eq_getElem?_getD, List.getD_cons_zero, List.getD_cons_succ, kCast_self, dfl_pair, dfl_int, w64, wu64, hx, a1, a2, a3] <;> omega) | (simp_all [-List.getD_eq_getElem?_getD] <;> omega))
end Go.Proofs.YthlpfafmiakfdaaDoor.E

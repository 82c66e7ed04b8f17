/-
  Av: what is told of store.which: the walk.
-/
import Derived.Test.YtnekfkhjokgdmaaGreatAvTold2
set_option linter.unusedVariables false
set_option linter.unusedSimpArgs false
set_option maxRecDepth 100000
namespace Tw
open Go Go.Av Go.Proofs

noncomputable def zc : List AV := [.int .i64 0, .int .u16 0, .str [], .nilsl, .int .i64 0, .int .i64 0, .int .i64 0]
noncomputable def w4 : List AOper := [⟨some 16, .ext (.tmp 15) 0, none⟩, ⟨some 17, .ext (.tmp 15) 1, none⟩, ⟨some 7, .alloc 103 zc, none⟩, ⟨some 6, .mv (.tmp 16), none⟩, ⟨none, .store 7 (.tmp 7) (.tmp 17), none⟩]
noncomputable def w5 : ACode := .seq (.reg [⟨some 18, .mv (.tmp 1), none⟩, ⟨some 19, .load 7 true (.tmp 7), none⟩, ⟨some 20, .call (.tmp 18) [.tmp 19], none⟩] none)
  (.cond (.tmp 20) (.reg [⟨some 21, .mv (.tmp 5), none⟩, ⟨some 22, .mv (.tmp 6), none⟩, ⟨some 23, .bslice 3 1 [.int .i64 0] [(0, 1, .tmp 22)], none⟩, ⟨some 24, .app 3 1 8 (.tmp 21) (.tmp 23), none⟩, ⟨some 5, .mv (.tmp 24), none⟩] none) .skip)

/-- While the loop goes on. -/
structure WInv (σb : AS) (g : Nat) (caps : List AV) (it : Nat) (S : List (AV × AV)) (ts : TM) (σ1 : AS) : Prop where
  adds : Adds σb σ1
  t1 : ts.at 1 = .fn g [] caps
  t12 : ts.at 12 = .ptr it 0
  list : ∃ ids, whichL σb g caps S = some ids ∧ ids.length ≤ S.length ∧ ((ids = [] ∧ ts.at 5 = .nilsl) ∨ ∃ bl, ts.at 5 = .sl bl 0 ids.length ids.length false ∧ ids ≠ [] ∧ σb.next ≤ bl ∧ bl < σ1.next ∧ σ1.get bl = some (.cells false false 3 (ids.map (AV.int .i64))))

theorem gr_ints (ids : List Int) (n : Nat) (h : n = ids.length) : getRange (ids.map (AV.int .i64)) 0 n = some (ids.map (AV.int .i64)) := by
  subst h
  rw [gr_eq, List.drop_zero, List.take_of_length_le (by simp)]
  simp

theorem whichL_get {σ σ' : AS} {g : Nat} {caps : List AV} (h : ∀ b, σ.live b → σ'.get b = σ.get b) : ∀ {l : List (AV × AV)} {ids : List Int}, whichL σ g caps l = some ids → whichL σ' g caps l = some ids := by
  have hi : ∀ {c t}, isO σ g caps c = some t → isO σ' g caps c = some t := fun {c t} hc => by
    obtain ⟨b, o, c0, c1, c2, c3, x, y, c6, u, ro, ex, e, l, rfl, rfl, hg, hr, hd⟩ := isO_ok hc
    have : loadA σ' 1 false (.ptr b o) = loadA σ 1 false (.ptr b o) := by simp only [loadA, h b ⟨_, hg⟩]
    simp only [isO, this] at hc ⊢
    exact hc
  have he : ∀ {p i t}, entO σ g caps p = some (i, t) → entO σ' g caps p = some (i, t) := fun {p i t} hp => by
    obtain ⟨h1, h2⟩ := entO_ok hp
    unfold entO
    rw [h1]
    simp only [hi h2]
    rfl
  intro l
  induction l with
  | nil => intro ids h; exact h
  | cons p r ih =>
    intro ids h
    unfold whichL at h
    split at h <;> try (cases h; done)
    rename_i i t hp
    split at h <;> try (cases h; done)
    rename_i l hl
    injection h with h; subst h
    show (match entO σ' g caps p with | some (i, t) => (match whichL σ' g caps r with | some l => some (bif t then i :: l else l) | none => none) | none => none) = _
    rw [he hp, ih hl]

theorem which_step {σb : AS} {g : Nat} {caps : List AV} {it : Nat} (hlt : ∀ b, σb.live b → b < σb.next) {l : List (AV × AV)} {ids0 : List Int} (hl : whichL σb g caps l = some ids0) (hlen : l.length ≤ 100000) (n d : Nat)
    (S : List (AV × AV)) (p : AV × AV) (ts : TM) (σ1 : AS) (hI : WInv σb g caps it S ts σ1) (hp : p ∈ l) (hS : S.length < l.length) :
    ∃ ts1 σ2 ts2 σ3, opsA (lvA T1.FT n (d + 2)) w4 (((ts.put 13 (.tup [.bool true, p.1, p.2])).put 14 (.bool true)).put 15 (.tup [p.1, p.2])) σ1 = some (ts1, σ2) ∧ codeA (lvA T1.FT n (d + 2)) n w5 ts1 σ2 = some (.normal, ts2, σ3) ∧ WInv σb g caps it (S ++ [p]) ts2 σ3 := by
  obtain ⟨i, t, he⟩ := whichL_ent hl p hp
  obtain ⟨hk, hi⟩ := entO_ok he
  obtain ⟨ids, hids, hil, hlist⟩ := hI.list
  obtain ⟨k, c⟩ := p
  simp only at hk hi
  subst hk
  have hi' := hi
  obtain ⟨b, o, c0, c1, c2, c3, x, y, c6, u, ro, ex, e, lc, hcaps, rfl, hg, hr, hc⟩ := isO_ok hi
  have hput : putRange zc (cert c0 c1 c2 c3 x y c6) 0 = some (cert c0 c1 c2 c3 x y c6) := rfl
  have hld : getRange (cert c0 c1 c2 c3 x y c6) 0 7 = some (cert c0 c1 c2 c3 x y c6) := rfl
  generalize hcs : cert c0 c1 c2 c3 x y c6 = cs at *
  have hcl : len cs = 7 := by rw [← hcs]; rfl
  let σ2 : AS := (σ1.alloc (.cells false true 103 zc)).put σ1.next (some (.cells false true 103 cs))
  have hσ2 : Adds σ1 σ2 := (Adds.alloc _ _).put (Nat.le_refl _)
  have hn2 : σ2.next = σ1.next + 1 := rfl
  have hg2 : σ2.get σ1.next = some (.cells false true 103 cs) := by simp [σ2, AS.get_put]
  have hb2 : ∀ b, σb.live b → b < σ2.next ∧ σ2.get b = σb.get b := fun b hb => ⟨by have := hlt b hb; have := hI.adds.next; omega, (hI.adds.trans hσ2).old b (hlt b hb)⟩
  obtain ⟨σ3, hrun, hσ3⟩ := is_run (σ1 := σ2) n d hi' hb2
  have r4 : ∃ ts1, opsA (lvA T1.FT n (d + 2)) w4 (((ts.put 13 (.tup [.bool true, .int .i64 i, .agg cs])).put 14 (.bool true)).put 15 (.tup [.int .i64 i, .agg cs])) σ1 = some (ts1, σ2) ∧
      ts1.at 1 = .fn g [] caps ∧ ts1.at 12 = .ptr it 0 ∧ ts1.at 5 = ts.at 5 ∧ ts1.at 6 = .int .i64 i ∧ ts1.at 7 = .ptr σ1.next 0 := by
    refine ⟨(((((((ts.put 13 (.tup [.bool true, .int .i64 i, .agg cs])).put 14 (.bool true)).put 15 (.tup [.int .i64 i, .agg cs])).put 16 (.int .i64 i)).put 17 (.agg cs)).put 7 (.ptr σ1.next 0)).put 6 (.int .i64 i)), ?_, by simp [TM.at_put, hI.t1], by simp [TM.at_put, hI.t12], by simp [TM.at_put], by simp [TM.at_put], by simp [TM.at_put]⟩
    simp [w4, o_cons, opsA_nil, wantedA, opA, execA, exExt, exAlloc, exMv, exStore, evA, p_some, p_none, TM.at_put, storeA, writeA, cellsOf, isTup, AS.get_alloc, hput, hcl, σ2]
  obtain ⟨ts1, q1, q2, q3, q4, q5, q6⟩ := r4
  refine ⟨ts1, σ2, ?_⟩
  cases t with
  | false =>
    refine ⟨((ts1.put 18 (.fn g [] caps)).put 19 (.agg cs)).put 20 (.bool false), σ3, q1, ?_, ?_⟩
    · rw [show ([] ++ [AV.agg cs] ++ caps) = AV.agg cs :: caps from rfl] at hrun
      simp [w5, c_seq, c_reg, c_cond, code_skip, o_cons, opsA_nil, wantedA, opA, execA, exMv, exLoad, evA, evL, p_some, p_none, TM.at_put, loadA, wrapUp, q2, q6, hg2, hld, hrun]
    · refine ⟨(hI.adds.trans hσ2).trans hσ3, by simp [TM.at_put, q2], by simp [TM.at_put, q3], ids, whichL_snoc he hids, by simp; omega, ?_⟩
      rcases hlist with ⟨h1, h2⟩ | ⟨bl, h1, h2, h3, h4, h5⟩
      · exact .inl ⟨h1, by simp [TM.at_put, q4, h2]⟩
      · refine .inr ⟨bl, by simp [TM.at_put, q4, h1], h2, h3, by have := hσ2.next; have := hσ3.next; omega, ?_⟩
        rw [hσ3.old bl (by omega), hσ2.old bl h4]; exact h5
  | true =>
    have hbs : putRange [.int .i64 0] [.int .i64 i] 0 = some [AV.int .i64 i] := rfl
    have hfill : ∀ (tt : TM), tt.at 22 = .int .i64 i → fillA tt [(0, 1, .tmp 22)] [.int .i64 0] = some [.int .i64 i] := fun tt h => by
      simp [fillA, evA, h, cellsOf, isTup, hbs, len]
    have hfirst : ∀ σ : AS, (σ.alloc (.cells false true 3 [.int .i64 i])).get σ.next = some (.cells false true 3 [.int .i64 i]) := fun σ => by rw [AS.get_alloc, if_pos rfl]
    have hgr1 : getRange [AV.int .i64 i] 0 (1 * 1) = some [.int .i64 i] := rfl
    have hx : firstA (σ3.alloc (.cells false true 3 [.int .i64 i])) 1 1 (.sl σ3.next 0 1 1 true) = some [.int .i64 i] := by
      simp [firstA, hfirst, hgr1]
      rfl
    have hblt : ids.length < 100000 := by omega
    rcases hlist with ⟨h1, h2⟩ | ⟨bl, h1, h2, h3, h4, h5⟩
    · subst h1
      let σ4 : AS := (σ3.alloc (.cells false true 3 [.int .i64 i])).alloc (.cells false false 3 [.int .i64 i])
      have happ : appA (σ3.alloc (.cells false true 3 [.int .i64 i])) 3 1 8 .nilsl (.sl σ3.next 0 1 1 true) = some (.sl (σ3.next + 1) 0 1 1 false, σ4) := by
        simp [appA, lenV, hx, σ4]
        rfl
      refine ⟨(((((((ts1.put 18 (.fn g [] caps)).put 19 (.agg cs)).put 20 (.bool true)).put 21 .nilsl).put 22 (.int .i64 i)).put 23 (.sl σ3.next 0 1 1 true)).put 24 (.sl (σ3.next + 1) 0 1 1 false)).put 5 (.sl (σ3.next + 1) 0 1 1 false), σ4, q1, ?_, ?_⟩
      · rw [show ([] ++ [AV.agg cs] ++ caps) = AV.agg cs :: caps from rfl] at hrun
        simp [w5, c_seq, c_reg, c_cond, code_skip, o_cons, opsA_nil, wantedA, opA, execA, exMv, exLoad, exBslice, exApp, evA, evL, p_some, p_none, TM.at_put, loadA, wrapUp, q2, q4, q5, q6, hg2, hld, hrun, h2, hfill, happ]
      · refine ⟨((hI.adds.trans hσ2).trans hσ3).trans ((Adds.alloc _ _).trans (Adds.alloc _ _)), by simp [TM.at_put, q2], by simp [TM.at_put, q3], [i], whichL_snoc he hids, by simp, .inr ⟨σ3.next + 1, by simp [TM.at_put], by simp, ?_, by simp [σ4], by simp [σ4, AS.get_alloc]⟩⟩
        have := hI.adds.next; have := hσ2.next; have := hσ3.next; omega
    · let σ4 : AS := ((σ3.alloc (.cells false true 3 [.int .i64 i])).put bl none).alloc (.cells false false 3 ((ids ++ [i]).map (AV.int .i64)))
      have hbl3 : (σ3.alloc (.cells false true 3 [.int .i64 i])).get bl = some (.cells false false 3 (ids.map (AV.int .i64))) := by
        rw [AS.get_alloc, if_neg (by have := hσ2.next; have := hσ3.next; omega), hσ3.old bl (by omega), hσ2.old bl h4]; exact h5
      have hold : firstA (σ3.alloc (.cells false true 3 [.int .i64 i])) 1 ids.length (.sl bl 0 ids.length ids.length false) = some (ids.map (AV.int .i64)) := by
        simp only [firstA, hbl3, Nat.ble_eq, Nat.le_refl, cond_eq_ite, if_true]
        exact gr_ints ids _ (Nat.mul_one _)
      have hb1 : Nat.ble (ids.length + 1) ids.length = false := by simp [← Bool.not_eq_true]
      have hb3 : (Nat.ble (ids.length + 1) 70368744177664 && Nat.ble ((ids.length + 1) * 8) 70368744177664) = true := by simp; omega
      have happ : appA (σ3.alloc (.cells false true 3 [.int .i64 i])) 3 1 8 (.sl bl 0 ids.length ids.length false) (.sl σ3.next 0 1 1 true) = some (.sl (σ3.next + 1) 0 (ids.length + 1) (ids.length + 1) false, σ4) := by
        simp only [appA, lenV, hx, hb1, cond_false, hb3, cond_true, hold, hbl3]
        simp [σ4]
      refine ⟨(((((((ts1.put 18 (.fn g [] caps)).put 19 (.agg cs)).put 20 (.bool true)).put 21 (.sl bl 0 ids.length ids.length false)).put 22 (.int .i64 i)).put 23 (.sl σ3.next 0 1 1 true)).put 24 (.sl (σ3.next + 1) 0 (ids.length + 1) (ids.length + 1) false)).put 5 (.sl (σ3.next + 1) 0 (ids.length + 1) (ids.length + 1) false), σ4, q1, ?_, ?_⟩
      · rw [show ([] ++ [AV.agg cs] ++ caps) = AV.agg cs :: caps from rfl] at hrun
        simp [w5, c_seq, c_reg, c_cond, code_skip, o_cons, opsA_nil, wantedA, opA, execA, exMv, exLoad, exBslice, exApp, evA, evL, p_some, p_none, TM.at_put, loadA, wrapUp, q2, q4, q5, q6, hg2, hld, hrun, h1, hfill, happ]
      · have hA : Adds σb (σ3.alloc (.cells false true 3 [.int .i64 i])) := ((hI.adds.trans hσ2).trans hσ3).trans (Adds.alloc _ _)
        refine ⟨(hA.put h3).trans (Adds.alloc _ _), by simp [TM.at_put, q2], by simp [TM.at_put, q3], ids ++ [i], whichL_snoc he hids, by simp; omega, .inr ⟨σ3.next + 1, by simp [TM.at_put], by simp, ?_, by simp [σ4], by simp [σ4, AS.get_alloc]⟩⟩
        have := hI.adds.next; have := hσ2.next; have := hσ3.next; omega
end Tw

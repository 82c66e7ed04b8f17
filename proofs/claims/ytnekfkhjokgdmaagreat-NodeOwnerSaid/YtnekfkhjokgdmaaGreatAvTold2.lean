/-
  Av: what is told of store.which.
-/
import Derived.Test.YtnekfkhjokgdmaaGreatAvTold1
set_option linter.unusedVariables false
set_option linter.unusedSimpArgs false
set_option maxRecDepth 100000
namespace Tw
open Go Go.Av Go.Proofs

/-! ### The predicates -/
noncomputable def holdsF : AFun := ⟨15, [.tmp 4], .seq (.reg [⟨some 2, .box 103 (.tmp 0), none⟩, ⟨some 4, .mv (.lit (.bool false)), none⟩] none)
  (.seq (.reg [⟨some 5, .faddr 4 (.tmp 2), none⟩, ⟨some 6, .load 1 false (.tmp 5), none⟩, ⟨some 7, .mv (.tmp 1), none⟩, ⟨some 8, .bin .leq (.tmp 6) (.tmp 7), none⟩, ⟨some 9, .mv (.tmp 8), none⟩, ⟨some 10, .mv (.tmp 1), some (9, true)⟩,
    ⟨some 11, .faddr 5 (.tmp 2), some (9, true)⟩, ⟨some 12, .load 1 false (.tmp 11), some (9, true)⟩, ⟨some 13, .bin .leq (.tmp 10) (.tmp 12), some (9, true)⟩, ⟨some 14, .pick (.tmp 9) (.tmp 13) (.lit (.bool false)), none⟩, ⟨some 4, .mv (.tmp 14), none⟩] none) .ret)⟩
noncomputable def validF : AFun := ⟨7, [.tmp 3], .seq (.reg [⟨some 2, .box 103 (.tmp 0), none⟩, ⟨some 3, .mv (.lit (.bool false)), none⟩] none)
  (.seq (.reg [⟨some 4, .load 7 true (.tmp 2), none⟩, ⟨some 5, .load 1 false (.tmp 1), none⟩, ⟨some 6, .call (.lit (.fn 241 [] [])) [.tmp 4, .tmp 5], none⟩, ⟨some 3, .mv (.tmp 6), none⟩] none) .ret)⟩
noncomputable def sweepF : AFun := ⟨8, [.tmp 3], .seq (.reg [⟨some 2, .box 103 (.tmp 0), none⟩, ⟨some 3, .mv (.lit (.bool false)), none⟩] none)
  (.seq (.reg [⟨some 4, .faddr 5 (.tmp 2), none⟩, ⟨some 5, .load 1 false (.tmp 4), none⟩, ⟨some 6, .load 1 false (.tmp 1), none⟩, ⟨some 7, .bin .lss (.tmp 5) (.tmp 6), none⟩, ⟨some 3, .mv (.tmp 7), none⟩] none) .ret)⟩
theorem at241 : T1.FT 241 = some (.code holdsF) := by kernel_rfl
theorem at240 : T1.FT 240 = some (.code validF) := by kernel_rfl
theorem at252 : T1.FT 252 = some (.code sweepF) := by kernel_rfl
noncomputable abbrev cert (a b c d : AV) (x y : Int) (e : AV) : List AV := [a, b, c, d, .int .i64 x, .int .i64 y, e]

theorem args2 (x y : AV) : argsTM [x, y] 0 .nil = (TM.put (TM.put .nil 0 x) 1 y) := rfl
theorem binLeq (a b : Int) : binA .leq (.int .i64 a) (.int .i64 b) = some (.bool (leB a b)) := rfl
theorem binLss (a b : Int) : binA .lss (.int .i64 a) (.int .i64 b) = some (.bool (ltB a b)) := rfl

/-- Only new blocks. -/
structure Adds (σ σ' : AS) : Prop where
  next : σ.next ≤ σ'.next
  old : ∀ b, b < σ.next → σ'.get b = σ.get b
theorem Adds.refl (σ : AS) : Adds σ σ := ⟨Nat.le_refl _, fun _ _ => rfl⟩
theorem Adds.trans {σ σ' σ'' : AS} (h : Adds σ σ') (k : Adds σ' σ'') : Adds σ σ'' := ⟨Nat.le_trans h.next k.next, fun b hb => (k.old b (Nat.lt_of_lt_of_le hb h.next)).trans (h.old b hb)⟩
theorem Adds.alloc (σ : AS) (o : AObj) : Adds σ (σ.alloc o) := ⟨by simp, fun b hb => by rw [AS.get_alloc, if_neg (by omega)]⟩
theorem Adds.put {σ σ' : AS} (h : Adds σ σ') {b : Nat} {o : Option AObj} (hb : σ.next ≤ b) : Adds σ (σ'.put b o) := ⟨h.next, fun x hx => by rw [AS.get_put, if_neg (by omega)]; exact h.old x hx⟩


section
variable {s : Lv} {ts : TM} {σ : AS} {n : Nat}
theorem c_seq {a b : ACode} : codeA s n (.seq a b) ts σ = match codeA s n a ts σ with | some (.normal, ts', σ') => codeA s n b ts' σ' | r => r := rfl
theorem c_cond {c : Opd} {a b : ACode} : codeA s n (.cond c a b) ts σ = match evA ts c with | .bool true => codeA s n a ts σ | .bool false => codeA s n b ts σ | _ => none := rfl
theorem c_reg {ops : List AOper} : codeA s n (.reg ops none) ts σ = match opsA s ops ts σ with | some (ts', σ') => some (.normal, ts', σ') | none => none := rfl
theorem o_cons {o : AOper} {l : List AOper} : opsA s (o :: l) ts σ = match wantedA ts o.guard with | true => (match opA s σ ts o.op with | some (v, σ') => opsA s l (putA ts o.dst v) σ' | none => none) | false => opsA s l (putA ts o.dst undefA) σ := rfl
theorem p_some {d : Nat} {v : AV} : putA ts (some d) v = ts.put d v := rfl
theorem p_none {v : AV} : putA ts none v = ts := rfl
theorem gr_eq (l : List AV) (o n : Nat) : getRange l o n = bif Nat.beq ((l.drop o).take n).length n then some ((l.drop o).take n) else none := by
  unfold getRange; simp only [len_eq, takeA_eq, dropA_eq]
theorem call_eq {F : FuncId → Option FSpec} {d : Nat} {f : FuncId} {args : List AV} : (lvA F n (d + 1)).call f args σ = callB F (lvA F n d) n f args σ := rfl
end

theorem run241 (n d : Nat) (σ : AS) (c0 c1 c2 c3 c6 : AV) (x y t : Int) : (lvA T1.FT n (d + 1)).call 241 [.agg (cert c0 c1 c2 c3 x y c6), .int .i64 t] σ = some (.bool (leB x t && leB t y), σ.alloc (.cells false true 103 (cert c0 c1 c2 c3 x y c6))) := by
  rw [call_eq]
  unfold callB
  rw [at241]
  unfold holdsF
  cases hb : leB x t <;>
  simp [args2, c_seq, c_reg, o_cons, opsA_nil, wantedA, opA, execA, exBox, exMv, exFaddr, exLoad, exBin, exPick, evA, p_some, p_none, TM.at_put, isTup, cellsOf, loadA, AS.get_alloc, gr_eq, wrapUp, binLeq, hb, code_ret, resV, resUp] <;> rfl

theorem run240 (n d : Nat) (σ : AS) (c0 c1 c2 c3 c6 : AV) (x y t : Int) {b o : Nat} {ro ex : Bool} {e : TypeId} {l : List AV} (hb : b < σ.next) (hg : σ.get b = some (.cells ro ex e l)) (hl : getRange l o 1 = some [.int .i64 t]) :
    ∃ σ', (lvA T1.FT n (d + 2)).call 240 [.agg (cert c0 c1 c2 c3 x y c6), .ptr b o] σ = some (.bool (leB x t && leB t y), σ') ∧ Adds σ σ' := by
  have hne : b ≠ σ.next := by omega
  refine ⟨(σ.alloc (.cells false true 103 (cert c0 c1 c2 c3 x y c6))).alloc (.cells false true 103 (cert c0 c1 c2 c3 x y c6)), ?_, (Adds.alloc _ _).trans (Adds.alloc _ _)⟩
  rw [call_eq]
  unfold callB
  rw [at240]
  unfold validF
  simp only
  have hc := run241 n d (σ.alloc (.cells false true 103 (cert c0 c1 c2 c3 x y c6))) c0 c1 c2 c3 c6 x y t
  have h7 : getRange (cert c0 c1 c2 c3 x y c6) 0 7 = some (cert c0 c1 c2 c3 x y c6) := rfl
  simp [args2, c_seq, c_reg, o_cons, opsA_nil, wantedA, opA, execA, exBox, exMv, exLoad, evA, evL, p_some, p_none, TM.at_put, isTup, cellsOf, loadA, AS.get_alloc, h7, hne, hg, hl, wrapUp, hc, code_ret, resV, resUp]
  rfl
theorem run252 (n d : Nat) (σ : AS) (c0 c1 c2 c3 c6 : AV) (x y t : Int) {b o : Nat} {ro ex : Bool} {e : TypeId} {l : List AV} (hb : b < σ.next) (hg : σ.get b = some (.cells ro ex e l)) (hl : getRange l o 1 = some [.int .i64 t]) :
    ∃ σ', (lvA T1.FT n (d + 2)).call 252 [.agg (cert c0 c1 c2 c3 x y c6), .ptr b o] σ = some (.bool (ltB y t), σ') ∧ Adds σ σ' := by
  have hne : b ≠ σ.next := by omega
  refine ⟨σ.alloc (.cells false true 103 (cert c0 c1 c2 c3 x y c6)), ?_, Adds.alloc _ _⟩
  rw [call_eq]
  unfold callB
  rw [at252]
  unfold sweepF
  simp only
  have h5 : getRange (cert c0 c1 c2 c3 x y c6) 5 1 = some [.int .i64 y] := rfl
  simp [args2, c_seq, c_reg, o_cons, opsA_nil, wantedA, opA, execA, exBox, exMv, exLoad, exFaddr, exBin, evA, evL, p_some, p_none, TM.at_put, isTup, cellsOf, loadA, AS.get_alloc, h5, hne, hg, hl, wrapUp, binLss, code_ret, resV, resUp]
  rfl

/-! ### What is told -/
/-- What a predicate says of a certificate. -/
noncomputable def isO (σ : AS) (g : Nat) (caps : List AV) (c : AV) : Option Bool :=
  match caps, c with
  | [.ptr b o], .agg [c0, c1, c2, c3, .int k4 x, .int k5 y, c6] => match loadA σ 1 false (.ptr b o) with
    | some (.int kt t) => bif kEq k4 .i64 && kEq k5 .i64 && kEq kt .i64 then (bif Nat.beq g 240 then some (leB x t && leB t y) else bif Nat.beq g 252 then some (ltB y t) else none) else none
    | _ => none
  | _, _ => none
noncomputable def entO (σ : AS) (g : Nat) (caps : List AV) (p : AV × AV) : Option (Int × Bool) :=
  match p.1 with
  | .int k i => bif kEq k .i64 then (match isO σ g caps p.2 with | some t => some (i, t) | none => none) else none
  | _ => none
noncomputable def whichL (σ : AS) (g : Nat) (caps : List AV) : List (AV × AV) → Option (List Int)
  | [] => some []
  | p :: r => match entO σ g caps p with
    | some (i, t) => match whichL σ g caps r with
      | some l => some (bif t then i :: l else l)
      | none => none
    | none => none
noncomputable def whichO (args : List AV) (σ : AS) : Option (AV × AS) :=
  match args with
  | [.ptr b o, .fn g [] caps] => match loadA σ 1 false (.ptr b (o + 3)) with
    | some (.map m) => match σ.get m with
      | some (.amap l) => bif Nat.ble l.length 100000 then (match whichL σ g caps l with
        | some [] => some (.nilsl, σ)
        | some (i :: is) => some (.sl σ.next 0 (i :: is).length (i :: is).length false, σ.alloc (.cells false false 3 ((isortZ (i :: is)).map (AV.int .i64))))
        | none => none) else none
      | _ => none
    | _ => none
  | _ => none

theorem isO_ok {σ : AS} {g : Nat} {caps : List AV} {c : AV} {t : Bool} (h : isO σ g caps c = some t) : ∃ b o c0 c1 c2 c3 x y c6 u ro ex e l, caps = [.ptr b o] ∧ c = .agg (cert c0 c1 c2 c3 x y c6) ∧ σ.get b = some (.cells ro ex e l) ∧ getRange l o 1 = some [.int .i64 u] ∧
    ((g = 240 ∧ t = (leB x u && leB u y)) ∨ (g = 252 ∧ t = ltB y u)) := by
  unfold isO at h
  split at h <;> try (cases h; done)
  rename_i b o c0 c1 c2 c3 k4 x k5 y c6
  split at h <;> try (cases h; done)
  rename_i kt u hl
  cases hk : (kEq k4 .i64 && kEq k5 .i64 && kEq kt .i64) with
  | false => rw [hk] at h; cases h
  | true =>
  rw [hk] at h
  simp only [cond_true] at h
  rw [Bool.and_eq_true, Bool.and_eq_true] at hk
  obtain ⟨⟨h1, h2⟩, h3⟩ := hk
  have e1 := kEq_true h1; have e2 := kEq_true h2; have e3 := kEq_true h3
  subst e1 e2 e3
  simp only [loadA] at hl
  split at hl <;> try (cases hl; done)
  rename_i ro ex e l hg
  split at hl <;> try (cases hl; done)
  rename_i r hr
  unfold wrapUp at hl
  split at hl <;> try (cases hl; done)
  injection hl with hl; subst hl
  refine ⟨b, o, c0, c1, c2, c3, x, y, c6, u, ro, ex, e, l, rfl, rfl, hg, hr, ?_⟩
  cases hb : Nat.beq g 240 with
  | true => rw [hb] at h; injection h with h; exact .inl ⟨beq_true hb, h.symm⟩
  | false =>
    rw [hb] at h
    cases hb2 : Nat.beq g 252 with
    | true => rw [hb2] at h; injection h with h; exact .inr ⟨beq_true hb2, h.symm⟩
    | false => rw [hb2] at h; cases h
/-- A predicate's call. -/
theorem is_run {σ σ1 : AS} {g : Nat} {caps : List AV} {c : AV} {t : Bool} (n d : Nat) (h : isO σ g caps c = some t) (hlt : ∀ b, σ.live b → b < σ1.next ∧ σ1.get b = σ.get b) :
    ∃ σ', (lvA T1.FT n (d + 2)).call g ([] ++ [c] ++ caps) σ1 = some (.bool t, σ') ∧ Adds σ1 σ' := by
  obtain ⟨b, o, c0, c1, c2, c3, x, y, c6, u, ro, ex, e, l, rfl, rfl, hg, hr, hc⟩ := isO_ok h
  obtain ⟨h1, h2⟩ := hlt b ⟨_, hg⟩
  rcases hc with ⟨rfl, rfl⟩ | ⟨rfl, rfl⟩
  · exact run240 n d σ1 c0 c1 c2 c3 c6 x y u h1 (h2.trans hg) hr
  · exact run252 n d σ1 c0 c1 c2 c3 c6 x y u h1 (h2.trans hg) hr
theorem entO_ok {σ : AS} {g : Nat} {caps : List AV} {p : AV × AV} {i : Int} {t : Bool} (h : entO σ g caps p = some (i, t)) : p.1 = .int .i64 i ∧ isO σ g caps p.2 = some t := by
  unfold entO at h
  split at h <;> try (cases h; done)
  rename_i k j hp
  cases hk : kEq k .i64 with
  | false => rw [hk] at h; cases h
  | true =>
  rw [hk] at h
  simp only [cond_true] at h
  split at h <;> try (cases h; done)
  rename_i t' ht
  injection h with h; injection h with h1 h2
  subst h1 h2
  rw [hp, kEq_true hk]
  exact ⟨rfl, ht⟩
theorem whichL_ent {σ : AS} {g : Nat} {caps : List AV} : ∀ {l : List (AV × AV)} {ids : List Int}, whichL σ g caps l = some ids → ∀ p ∈ l, ∃ i t, entO σ g caps p = some (i, t)
  | [], ids, _, p, hp => by cases hp
  | q :: r, ids, h, p, hp => by
    unfold whichL at h
    split at h <;> try (cases h; done)
    rename_i i t he
    split at h <;> try (cases h; done)
    rename_i l hl
    rcases List.mem_cons.1 hp with rfl | hp
    · exact ⟨i, t, he⟩
    · exact whichL_ent hl p hp
theorem whichL_snoc {σ : AS} {g : Nat} {caps : List AV} {p : AV × AV} {i : Int} {t : Bool} (he : entO σ g caps p = some (i, t)) : ∀ {l : List (AV × AV)} {ids : List Int}, whichL σ g caps l = some ids → whichL σ g caps (l ++ [p]) = some (bif t then ids ++ [i] else ids)
  | [], ids, h => by
    injection h with h; subst h
    show (match entO σ g caps p with | some (i, t) => (match whichL σ g caps [] with | some l => some (bif t then i :: l else l) | none => none) | none => none) = _
    rw [he]; cases t <;> rfl
  | q :: r, ids, h => by
    unfold whichL at h
    split at h <;> try (cases h; done)
    rename_i j u hq
    split at h <;> try (cases h; done)
    rename_i l hl
    injection h with h; subst h
    show (match entO σ g caps q with | some (i, t) => (match whichL σ g caps (r ++ [p]) with | some l => some (bif t then i :: l else l) | none => none) | none => none) = _
    rw [hq, whichL_snoc he hl]
    cases t <;> cases u <;> rfl
theorem whichL_perm {σ : AS} {g : Nat} {caps : List AV} {l m : List (AV × AV)} (h : l.Perm m) : ∀ {ids : List Int}, whichL σ g caps l = some ids → ∃ jds, whichL σ g caps m = some jds ∧ ids.Perm jds := by
  induction h with
  | nil => intro ids h; exact ⟨ids, h, List.Perm.refl _⟩
  | cons x _ ih =>
    intro ids h
    unfold whichL at h
    split at h <;> try (cases h; done)
    rename_i i t he
    split at h <;> try (cases h; done)
    rename_i l hl
    injection h with h; subst h
    obtain ⟨jds, h1, h2⟩ := ih hl
    refine ⟨bif t then i :: jds else jds, ?_, by cases t; exact h2; exact h2.cons i⟩
    show (match entO σ g caps x with | some (i, t) => (match whichL σ g caps _ with | some l => some (bif t then i :: l else l) | none => none) | none => none) = _
    rw [he, h1]
  | swap x y l =>
    intro ids h
    unfold whichL at h
    split at h <;> try (cases h; done)
    rename_i i t he
    split at h <;> try (cases h; done)
    rename_i l1 hl
    injection h with h; subst h
    unfold whichL at hl
    split at hl <;> try (cases hl; done)
    rename_i j u hj
    split at hl <;> try (cases hl; done)
    rename_i l2 hl2
    injection hl with hl; subst hl
    refine ⟨bif u then j :: (bif t then i :: l2 else l2) else (bif t then i :: l2 else l2), ?_, ?_⟩
    · show (match entO σ g caps x with | some (i, t) => (match (match entO σ g caps y with | some (i, t) => (match whichL σ g caps l with | some l => some (bif t then i :: l else l) | none => none) | none => none) with | some l => some (bif t then i :: l else l) | none => none) | none => none) = _
      rw [hj, he, hl2]
    · cases t <;> cases u <;> first | exact List.Perm.refl _ | exact List.Perm.swap _ _ _
  | trans _ _ ih1 ih2 =>
    intro ids h
    obtain ⟨j1, h1, h2⟩ := ih1 h
    obtain ⟨j2, h3, h4⟩ := ih2 h1
    exact ⟨j2, h3, h2.trans h4⟩
end Tw

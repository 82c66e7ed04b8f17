/-
  Av: what is told of store.Next.
-/
import Derived.Test.YtnekfkhjokgdmaaGreatAvTold3
set_option linter.unusedVariables false
set_option linter.unusedSimpArgs false
set_option maxRecDepth 100000
namespace Tw
open Go Go.Av Go.Proofs

noncomputable def stepB (t : Int) (q : Int × Bool) (b : Int) : Int × Bool := bif ltB t b && (!q.2 || ltB b q.1) then (b, true) else q
theorem stepB_comm (t : Int) (q : Int × Bool) (b c : Int) : stepB t (stepB t q b) c = stepB t (stepB t q c) b := by
  obtain ⟨a, f⟩ := q
  simp only [stepB, ltB_eq]
  by_cases h1 : t < b <;> by_cases h2 : t < c <;> cases f <;> by_cases h3 : b < a <;> by_cases h4 : c < a <;> by_cases h5 : c < b <;> by_cases h6 : b < c <;> simp [h1, h2, h3, h4, h5, h6] <;> omega
noncomputable def bordersO (p : AV × AV) : Option (Int × Int) :=
  match p.2 with
  | .agg [c0, c1, c2, c3, .int k4 x, .int k5 y, c6] => bif kEq k4 .i64 && kEq k5 .i64 then some (x, y) else none
  | _ => none
theorem bordersO_ok {p : AV × AV} {x y : Int} (h : bordersO p = some (x, y)) : ∃ c0 c1 c2 c3 c6, p.2 = .agg (cert c0 c1 c2 c3 x y c6) := by
  unfold bordersO at h
  split at h <;> try (cases h; done)
  rename_i c0 c1 c2 c3 k4 x' k5 y' c6 hp
  cases hk : (kEq k4 .i64 && kEq k5 .i64) with
  | false => rw [hk] at h; cases h
  | true =>
    rw [hk] at h
    injection h with h; injection h with h1 h2
    subst h1 h2
    rw [Bool.and_eq_true] at hk
    have e1 := kEq_true hk.1; have e2 := kEq_true hk.2
    subst e1 e2
    exact ⟨c0, c1, c2, c3, c6, hp⟩
noncomputable def next1 (t : Int) (q : Int × Bool) (z : Int × Int) : Int × Bool := stepB t (stepB t q z.1) (wrapA .i64 (Int.add z.2 1))
noncomputable def nextL (t : Int) : List (AV × AV) → Int × Bool → Option (Int × Bool)
  | [], q => some q
  | p :: r, q => match bordersO p with
    | some z => nextL t r (next1 t q z)
    | none => none
theorem nextL_snoc (t : Int) (p : AV × AV) {z : Int × Int} (hz : bordersO p = some z) : ∀ (l : List (AV × AV)) (q r : Int × Bool), nextL t l q = some r → nextL t (l ++ [p]) q = some (next1 t r z)
  | [], q, r, h => by
    injection h with h; subst h
    show (match bordersO p with | some z => nextL t [] (next1 t q z) | none => none) = _
    rw [hz]; rfl
  | x :: l, q, r, h => by
    unfold nextL at h
    split at h <;> try (cases h; done)
    rename_i z' hx
    show (match bordersO x with | some z => nextL t (l ++ [p]) (next1 t q z) | none => none) = _
    rw [hx]
    exact nextL_snoc t p hz l _ r h
theorem nextL_ent (t : Int) : ∀ {l : List (AV × AV)} {q r : Int × Bool}, nextL t l q = some r → ∀ p ∈ l, ∃ z, bordersO p = some z
  | [], q, r, _, p, hp => by cases hp
  | x :: l, q, r, h, p, hp => by
    unfold nextL at h
    split at h <;> try (cases h; done)
    rename_i z hx
    rcases List.mem_cons.1 hp with rfl | hp
    · exact ⟨z, hx⟩
    · exact nextL_ent t h p hp
theorem next1_comm (t : Int) (q : Int × Bool) (y z : Int × Int) : next1 t (next1 t q y) z = next1 t (next1 t q z) y := by
  unfold next1
  rw [stepB_comm t _ _ z.1, stepB_comm t _ _ z.1, stepB_comm t _ _ (wrapA .i64 (Int.add z.2 1)), stepB_comm t _ _ (wrapA .i64 (Int.add z.2 1))]
theorem nextL_perm (t : Int) {l m : List (AV × AV)} (h : l.Perm m) : ∀ q, nextL t l q = nextL t m q := by
  induction h with
  | nil => intro q; rfl
  | cons x _ ih =>
    intro q
    unfold nextL
    split
    · exact ih _
    · rfl
  | swap x y l =>
    intro q
    show (match bordersO y with | some z => (match bordersO x with | some z' => nextL t l (next1 t (next1 t q z) z') | none => none) | none => none) = (match bordersO x with | some z => (match bordersO y with | some z' => nextL t l (next1 t (next1 t q z) z') | none => none) | none => none)
    cases bordersO x <;> cases bordersO y <;> first | rfl | (simp only; rw [next1_comm])
  | trans _ _ ih1 ih2 => intro q; rw [ih1, ih2]
noncomputable def nextO (args : List AV) (σ : AS) : Option (AV × AS) :=
  match args with
  | [.ptr b o, .int k t] => bif kEq k .i64 then (match loadA σ 1 false (.ptr b (o + 3)) with
    | some (.map m) => match σ.get m with
      | some (.amap l) => match nextL t l (0, false) with
        | some q => some (.tup [.int .i64 q.1, .bool q.2], σ)
        | none => none
      | _ => none
    | _ => none) else none
  | _ => none

noncomputable def n4 : List AOper := [⟨some 20, .ext (.tmp 19) 1, none⟩, ⟨some 9, .alloc 103 zc, none⟩, ⟨none, .store 7 (.tmp 9) (.tmp 20), none⟩]
noncomputable def n6 : ACode := .reg [⟨some 21, .faddr 4 (.tmp 9), none⟩, ⟨some 22, .load 1 false (.tmp 21), none⟩, ⟨some 23, .faddr 5 (.tmp 9), none⟩, ⟨some 24, .load 1 false (.tmp 23), none⟩, ⟨some 25, .bin .add (.tmp 24) (.lit (.int .i64 1)), none⟩,
  ⟨some 26, .build [.int .i64 0, .int .i64 0] [(0, 1, .tmp 22), (1, 1, .tmp 25)], none⟩, ⟨some 27, .mv (.lit (.int .i64 0)), none⟩] none
noncomputable def n7 : ACode := .seq (.reg [⟨some 28, .bin .lss (.tmp 27) (.lit (.int .i64 2)), none⟩] none) (.seq (.cond (.tmp 28) .skip (.exit 2)) (.seq (.block 3 (.seq (.reg [⟨some 29, .idxAgg 2 1 false (.tmp 26) (.tmp 27), none⟩, ⟨some 11, .mv (.tmp 29), none⟩] none)
  (.seq (.reg [⟨some 30, .mv (.tmp 11), none⟩, ⟨some 31, .mv (.tmp 1), none⟩, ⟨some 32, .bin .gtr (.tmp 30) (.tmp 31), none⟩, ⟨some 33, .mv (.tmp 32), none⟩, ⟨some 34, .mv (.tmp 7), some (33, true)⟩, ⟨some 35, .un .not (.tmp 34), some (33, true)⟩, ⟨some 36, .mv (.tmp 35), some (33, true)⟩,
    ⟨some 37, .mv (.tmp 11), some (36, false)⟩, ⟨some 38, .mv (.tmp 6), some (36, false)⟩, ⟨some 39, .bin .lss (.tmp 37) (.tmp 38), some (36, false)⟩, ⟨some 40, .pick (.tmp 36) (.lit (.bool true)) (.tmp 39), some (33, true)⟩, ⟨some 41, .pick (.tmp 33) (.tmp 40) (.lit (.bool false)), none⟩] none)
    (.cond (.tmp 41) (.reg [⟨some 42, .mv (.tmp 11), none⟩, ⟨some 6, .mv (.tmp 42), none⟩, ⟨some 7, .mv (.lit (.bool true)), none⟩] none) .skip))))
  (.reg [⟨some 43, .bin .add (.tmp 27) (.lit (.int .i64 1)), none⟩, ⟨some 27, .mv (.tmp 43), none⟩] none)))
noncomputable def n5 : ACode := .seq n6 (.block 2 (.loop n7))
section
variable {s : Lv} {n : Nat}
theorem c_block {id : Nat} {c : ACode} {ts : TM} {σ : AS} : codeA s n (.block id c) ts σ = match codeA s n c ts σ with | some (.exit j, ts', σ') => bif Nat.beq j id then some (.normal, ts', σ') else some (.exit j, ts', σ') | r => r := rfl
theorem c_exit {id : Nat} {ts : TM} {σ : AS} : codeA s n (.exit id) ts σ = some (.exit id, ts, σ) := rfl
theorem c_loop {c : ACode} {ts : TM} {σ : AS} : codeA s n (.loop c) ts σ = iterA (codeA s n c) n ts σ := rfl
theorem iter_succ {c : StepF} {k : Nat} {ts : TM} {σ : AS} : iterA c (k + 1) ts σ = match c ts σ with | some (.normal, ts', σ') => iterA c k ts' σ' | r => r := rfl
theorem binGtr (a b : Int) : binA .gtr (.int .i64 a) (.int .i64 b) = some (.bool (ltB b a)) := rfl
theorem binAdd (a b : Int) : binA .add (.int .i64 a) (.int .i64 b) = some (.int .i64 (wrapA .i64 (Int.add a b))) := rfl
theorem unNot (b : Bool) : unA .not (.bool b) = some (.bool !b) := rfl

/-- One border. -/
structure NB (ts ts' : TM) (q : Int × Bool) (j : Int) : Prop where
  j : ts'.at 27 = .int .i64 j
  q1 : ts'.at 6 = .int .i64 q.1
  q2 : ts'.at 7 = .bool q.2
  same : ts'.at 1 = ts.at 1 ∧ ts'.at 16 = ts.at 16 ∧ ts'.at 26 = ts.at 26
theorem n7_round {ts : TM} {σ : AS} {t x y : Int} {q : Int × Bool} {j : Nat} (hj : j < 2) (h27 : ts.at 27 = .int .i64 (.ofNat j)) (h26 : ts.at 26 = .agg [.int .i64 x, .int .i64 y]) (h1 : ts.at 1 = .int .i64 t) (h6 : ts.at 6 = .int .i64 q.1) (h7 : ts.at 7 = .bool q.2) :
    ∃ ts', codeA s n n7 ts σ = some (.normal, ts', σ) ∧ NB ts ts' (stepB t q (if j = 0 then x else y)) (.ofNat (j + 1)) := by
  obtain ⟨a, f⟩ := q
  have hr : ∃ (b : Int), getRange [AV.int .i64 x, AV.int .i64 y] (j * 1) 1 = some [.int .i64 b] ∧ b = if j = 0 then x else y := by
    rcases (show j = 0 ∨ j = 1 by omega) with rfl | rfl
    · exact ⟨x, rfl, rfl⟩
    · exact ⟨y, rfl, rfl⟩
  obtain ⟨b, hr, hb⟩ := hr
  rw [Nat.mul_one] at hr
  rw [← hb]
  have hjl : Nat.blt j 2 = true := by rcases (show j = 0 ∨ j = 1 by omega) with rfl | rfl <;> rfl
  have hlt : ltB (.ofNat j) 2 = true := by rcases (show j = 0 ∨ j = 1 by omega) with rfl | rfl <;> rfl
  have hadd : wrapA .i64 (Int.add (.ofNat j) 1) = .ofNat (j + 1) := by rcases (show j = 0 ∨ j = 1 by omega) with rfl | rfl <;> rfl
  have hadd2 : wrapA .i64 (Int.ofNat j + 1) = .ofNat (j + 1) := hadd
  simp only at h6 h7
  have key : ∀ r, codeA s n n7 ts σ = r → codeA s n n7 ts σ = r := fun _ h => h
  cases h1' : ltB t b <;> cases hf : f <;> cases h3 : ltB b a <;>
  · have hs : stepB t (a, f) b = (bif ltB t b && (!f || ltB b a) then (b, true) else (a, f)) := rfl
    rw [h1', hf, h3] at hs
    simp only [hf] at h7
    subst hf
    rw [hs]
    have := key _ (by
      simp [-Int.ofNat_eq_natCast, n7, c_seq, c_reg, c_cond, c_block, code_skip, c_exit, o_cons, opsA_nil, wantedA, opA, execA, exMv, exBin, exUn, exPick, exIdxAgg, asNat, evA, p_some, p_none, TM.at_put, wrapUp, undefA, h27, h26, h1, h6, h7, hr, hjl, hlt, hadd, hadd2, binLss, binGtr, binAdd, unNot, h1', h3]
      exact rfl)
    refine ⟨_, this, ?_, ?_, ?_, ?_, ?_, ?_⟩ <;> simp [-Int.ofNat_eq_natCast, TM.at_put, h27, h26, h1, h6, h7, hadd2]

theorem n7_end {ts : TM} {σ : AS} (h27 : ts.at 27 = .int .i64 2) : ∃ ts', codeA s n n7 ts σ = some (.exit 2, ts', σ) ∧ ts'.at 1 = ts.at 1 ∧ ts'.at 16 = ts.at 16 ∧ ts'.at 6 = ts.at 6 ∧ ts'.at 7 = ts.at 7 := by
  have hlt : ltB 2 2 = false := rfl
  refine ⟨ts.put 28 (.bool false), ?_, by simp [TM.at_put], by simp [TM.at_put], by simp [TM.at_put], by simp [TM.at_put]⟩
  simp [n7, c_seq, c_reg, c_cond, c_block, code_skip, c_exit, o_cons, opsA_nil, wantedA, opA, execA, exBin, evA, p_some, p_none, TM.at_put, h27, hlt, binLss]
theorem n5_run {ts : TM} {σ : AS} {t x y : Int} {q : Int × Bool} {c0 c1 c2 c3 c6 : AV} {b : Nat} {ro ex : Bool} {e : TypeId} (h9 : ts.at 9 = .ptr b 0) (hg : σ.get b = some (.cells ro ex e (cert c0 c1 c2 c3 x y c6))) (h1 : ts.at 1 = .int .i64 t) (h6 : ts.at 6 = .int .i64 q.1) (h7 : ts.at 7 = .bool q.2) :
    ∃ ts', codeA s (n + 3) n5 ts σ = some (.normal, ts', σ) ∧ ts'.at 1 = ts.at 1 ∧ ts'.at 16 = ts.at 16 ∧ ts'.at 6 = .int .i64 (next1 t q (x, y)).1 ∧ ts'.at 7 = .bool (next1 t q (x, y)).2 := by
  have hx : getRange (cert c0 c1 c2 c3 x y c6) 4 1 = some [.int .i64 x] := rfl
  have hy : getRange (cert c0 c1 c2 c3 x y c6) 5 1 = some [.int .i64 y] := rfl
  have hfill : ∀ (tt : TM) (u v : Int), tt.at 22 = .int .i64 u → tt.at 25 = .int .i64 v → fillA tt [(0, 1, .tmp 22), (1, 1, .tmp 25)] [.int .i64 0, .int .i64 0] = some [.int .i64 u, .int .i64 v] := fun tt u v h h' => by
    have e1 : putRange [AV.int .i64 0, .int .i64 0] [.int .i64 u] 0 = some [.int .i64 u, .int .i64 0] := rfl
    have e2 : putRange [AV.int .i64 u, .int .i64 0] [.int .i64 v] 1 = some [.int .i64 u, .int .i64 v] := rfl
    simp [fillA, evA, h, h', cellsOf, isTup, e1, e2, len]
  have r6 : ∃ ts1, codeA s (n + 3) n6 ts σ = some (.normal, ts1, σ) ∧ ts1.at 27 = .int .i64 (.ofNat 0) ∧ ts1.at 26 = .agg [.int .i64 x, .int .i64 (wrapA .i64 (Int.add y 1))] ∧ ts1.at 1 = ts.at 1 ∧ ts1.at 16 = ts.at 16 ∧ ts1.at 6 = ts.at 6 ∧ ts1.at 7 = ts.at 7 := by
    refine ⟨((((((ts.put 21 (.ptr b 4)).put 22 (.int .i64 x)).put 23 (.ptr b 5)).put 24 (.int .i64 y)).put 25 (.int .i64 (wrapA .i64 (Int.add y 1)))).put 26 (.agg [.int .i64 x, .int .i64 (wrapA .i64 (Int.add y 1))])).put 27 (.int .i64 0), ?_, by simp [TM.at_put], by simp [TM.at_put], by simp [TM.at_put], by simp [TM.at_put], by simp [TM.at_put], by simp [TM.at_put]⟩
    simp [n6, c_reg, o_cons, opsA_nil, wantedA, opA, execA, exMv, exFaddr, exLoad, exBin, exBuild, evA, p_some, p_none, TM.at_put, loadA, wrapUp, h9, hg, hx, hy, binAdd, hfill]
  obtain ⟨ts1, e1, a27, a26, a1, a16, a6, a7⟩ := r6
  obtain ⟨ts2, e2, b2⟩ := n7_round (s := s) (n := n + 3) (σ := σ) (t := t) (q := q) (j := 0) (by omega) a27 a26 (a1.trans h1) (a6.trans h6) (a7.trans h7)
  obtain ⟨ts3, e3, b3⟩ := n7_round (s := s) (n := n + 3) (σ := σ) (t := t) (j := 1) (by omega) b2.j (b2.same.2.2.trans a26) (b2.same.1.trans (a1.trans h1)) b2.q1 b2.q2
  obtain ⟨ts4, e4, b41, b416, b46, b47⟩ := n7_end (s := s) (n := n + 3) (σ := σ) (ts := ts3) b3.j
  refine ⟨ts4, ?_, ?_, ?_, ?_, ?_⟩
  · unfold n5
    rw [code_seq e1, c_block, c_loop]
    have : iterA (codeA s (n + 3) n7) (n + 3) ts1 σ = some (.exit 2, ts4, σ) := by
      rw [show n + 3 = (n + 2) + 1 from rfl, iter_succ, show (n + 2) + 1 = n + 3 from rfl, e2]
      simp only
      rw [show n + 2 = (n + 1) + 1 from rfl, iter_succ, show (n + 1) + 1 + 1 = n + 3 from rfl, e3]
      simp only
      rw [iter_succ, e4]
    rw [this]
    rfl
  · rw [b41, b3.same.1, b2.same.1, a1]
  · rw [b416, b3.same.2.1, b2.same.2.1, a16]
  · rw [b46, b3.q1]; rfl
  · rw [b47, b3.q2]; rfl
end

structure NInv (σb : AS) (it : Nat) (t : Int) (S : List (AV × AV)) (ts : TM) (σ1 : AS) : Prop where
  adds : Adds σb σ1
  t1 : ts.at 1 = .int .i64 t
  t16 : ts.at 16 = .ptr it 0
  acc : ∃ q, nextL t S (0, false) = some q ∧ ts.at 6 = .int .i64 q.1 ∧ ts.at 7 = .bool q.2
theorem next_step {s : Lv} {σb : AS} {it : Nat} {t : Int} {l : List (AV × AV)} {q0 : Int × Bool} (hl : nextL t l (0, false) = some q0) (n : Nat)
    (S : List (AV × AV)) (p : AV × AV) (ts : TM) (σ1 : AS) (hI : NInv σb it t S ts σ1) (hp : p ∈ l) (hS : S.length < l.length) :
    ∃ ts1 σ2 ts2 σ3, opsA s n4 (((ts.put 17 (.tup [.bool true, p.1, p.2])).put 18 (.bool true)).put 19 (.tup [p.1, p.2])) σ1 = some (ts1, σ2) ∧ codeA s (n + 3) n5 ts1 σ2 = some (.normal, ts2, σ3) ∧ NInv σb it t (S ++ [p]) ts2 σ3 := by
  obtain ⟨z, hz⟩ := nextL_ent t hl p hp
  obtain ⟨q, hq, h6, h7⟩ := hI.acc
  obtain ⟨x, y⟩ := z
  obtain ⟨c0, c1, c2, c3, c6, hc⟩ := bordersO_ok hz
  obtain ⟨k, c⟩ := p
  simp only at hc
  subst hc
  have hput : putRange zc (cert c0 c1 c2 c3 x y c6) 0 = some (cert c0 c1 c2 c3 x y c6) := rfl
  have hcl : len (cert c0 c1 c2 c3 x y c6) = 7 := rfl
  have hσ2 : Adds σ1 ((σ1.alloc (.cells false true 103 zc)).put σ1.next (some (.cells false true 103 (cert c0 c1 c2 c3 x y c6)))) := (Adds.alloc _ _).put (Nat.le_refl _)
  have hg2 : ((σ1.alloc (.cells false true 103 zc)).put σ1.next (some (.cells false true 103 (cert c0 c1 c2 c3 x y c6)))).get σ1.next = some (.cells false true 103 (cert c0 c1 c2 c3 x y c6)) := by simp [AS.get_put]
  have r4 : ∃ ts1, opsA s n4 (((ts.put 17 (.tup [.bool true, k, .agg (cert c0 c1 c2 c3 x y c6)])).put 18 (.bool true)).put 19 (.tup [k, .agg (cert c0 c1 c2 c3 x y c6)])) σ1 = some (ts1, (σ1.alloc (.cells false true 103 zc)).put σ1.next (some (.cells false true 103 (cert c0 c1 c2 c3 x y c6)))) ∧
      ts1.at 1 = .int .i64 t ∧ ts1.at 16 = .ptr it 0 ∧ ts1.at 6 = .int .i64 q.1 ∧ ts1.at 7 = .bool q.2 ∧ ts1.at 9 = .ptr σ1.next 0 := by
    refine ⟨(((((ts.put 17 (.tup [.bool true, k, .agg (cert c0 c1 c2 c3 x y c6)])).put 18 (.bool true)).put 19 (.tup [k, .agg (cert c0 c1 c2 c3 x y c6)])).put 20 (.agg (cert c0 c1 c2 c3 x y c6))).put 9 (.ptr σ1.next 0)), ?_, by simp [TM.at_put, hI.t1], by simp [TM.at_put, hI.t16], by simp [TM.at_put, h6], by simp [TM.at_put, h7], by simp [TM.at_put]⟩
    simp [n4, o_cons, opsA_nil, wantedA, opA, execA, exExt, exAlloc, exMv, exStore, evA, p_some, p_none, TM.at_put, storeA, writeA, cellsOf, isTup, AS.get_alloc, hput, hcl]
  obtain ⟨ts1, g0, g1, g2, g3, g4, g5⟩ := r4
  obtain ⟨ts2, k0, k1, k2, k3, k4⟩ := n5_run (s := s) (n := n) g5 hg2 g1 g3 g4
  exact ⟨ts1, _, ts2, _, g0, k0, hI.adds.trans hσ2, k1.trans g1, k2.trans g2, _, nextL_snoc t _ hz _ _ _ hq, k3, k4⟩
end Tw

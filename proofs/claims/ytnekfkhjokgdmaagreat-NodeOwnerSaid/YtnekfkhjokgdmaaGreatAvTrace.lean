/-
  Av: the one order that is walked of a region that draws its order, and what is checked of it.
-/
import Derived.Test.YtnekfkhjokgdmaaGreatAvStat
set_option linter.unusedVariables false
namespace Go.Av

theorem classOf_le (o : AOp) : classOf o = 0 ∨ classOf o = 1 ∨ classOf o = 2 ∨ classOf o = 3 := by
  cases o <;> simp [classOf]

theorem trace_ok {s : Lv} : ∀ {ks : List DK} {l : List AOper} {b : Nat} {ts tsn : TM} {σ σn : AS} {tr : List (TM × AS × AV)}, traceD s ks l b ts σ = some (tsn, σn, tr) →
    ∃ (T : Nat → TM) (S : Nat → AS) (V : Nat → AV), T 0 = ts ∧ S 0 = σ ∧ T l.length = tsn ∧ S l.length = σn ∧ tr.length = l.length ∧ (∀ i, i < l.length → tr[i]? = some (T i, S i, V i)) ∧
      ∀ i k o, ks[i]? = some k → l[i]? = some o → stepD s (b + i) k o (T i) (S i) = some (V i, S (i + 1)) ∧ T (i + 1) = putA (T i) o.dst (V i)
  | [], [], b, ts, tsn, σ, σn, tr, h => by
    simp only [traceD] at h
    injection h with h
    simp only [Prod.mk.injEq] at h
    obtain ⟨h1, h2, h3⟩ := h
    subst h1 h2 h3
    exact ⟨fun _ => ts, fun _ => σ, fun _ => undefA, rfl, rfl, rfl, rfl, rfl, fun i hi => by simp at hi, fun i k o hk => by simp at hk⟩
  | k :: ks, o :: l, b, ts, tsn, σ, σn, tr, h => by
    simp only [traceD] at h
    split at h
    · rename_i v σ' hs
      split at h
      · rename_i ts' σ'' tr' htr
        injection h with h
        simp only [Prod.mk.injEq] at h
        obtain ⟨h1, h2, h3⟩ := h
        subst h1 h2 h3
        obtain ⟨T, S, V, t0, s0, tn, sn, hl, ht, hst⟩ := trace_ok htr
        refine ⟨fun i => match i with | 0 => ts | i + 1 => T i, fun i => match i with | 0 => σ | i + 1 => S i, fun i => match i with | 0 => v | i + 1 => V i, rfl, rfl, tn, sn, by simp [hl], fun i hi => ?_, fun i k' o' hk ho => ?_⟩
        · cases i with
          | zero => rfl
          | succ i => simpa using ht i (by simpa using hi)
        · cases i with
          | zero =>
            simp at hk ho; subst hk ho
            exact ⟨by simpa [s0] using hs, t0⟩
          | succ i =>
            have := hst i k' o' (by simpa using hk) (by simpa using ho)
            rw [show b.succ + i = b + (i + 1) from by omega] at this
            exact this
      · cases h
    · cases h
  | [], _ :: _, _, _, _, _, _, _, h => by simp [traceD] at h
  | _ :: _, [], _, _, _, _, _, _, h => by simp [traceD] at h

theorem stages_ok {ms E : List Nat} {T : Nat → TM} {S : Nat → AS} {V : Nat → AV} {z : AS} : ∀ {l : List AOper} {i : Nat} {tr : List (TM × AS × AV)}, tr.length = l.length → (∀ j, j < l.length → tr[j]? = some (T (i + j), S (i + j), V (i + j))) →
    stagesD (kindsD ms E l i) tr z = (effsD l i).map S ++ [z]
  | [], i, tr, hl, _ => by cases tr with | nil => rfl | cons => simp at hl
  | o :: r, i, tr, hl, ht => by
    cases tr with
    | nil => simp at hl
    | cons t tr =>
      have h0 := ht 0 (by simp)
      simp at h0
      have ih := stages_ok (ms := ms) (E := E) (T := T) (S := S) (V := V) (z := z) (l := r) (i := i + 1) (tr := tr) (by simpa using hl) (fun j hj => by
        have := ht (j + 1) (by simpa using hj)
        rw [show i + 1 + j = i + (j + 1) from by omega]
        simpa using this)
      unfold kindsD stagesD effsD kindD
      subst h0
      rcases classOf_le o.op with h | h | h | h <;> rw [h] <;> simp [ih] <;> rfl

theorem check_ok {st : List AS} : ∀ {ks : List DK} {l : List AOper} {tr : List (TM × AS × AV)}, checkD st ks l tr = true →
    ∀ (j : Nat) (lo hi : Nat) (o : AOper) (t : TM × AS × AV), ks[j]? = some (.read lo hi) → l[j]? = some o → tr[j]? = some t → wantedA t.1 o.guard = true → allOk t.1 o t.2.2 ((st.drop lo).take (Nat.succ hi - lo)) = true
  | k :: ks, o :: l, t :: tr, h, j, lo, hi, o', t', hk, ho, ht, hw => by
    have rest : checkD st ks l tr = true → ∀ j, (k :: ks)[j + 1]? = some (.read lo hi) → (o :: l)[j + 1]? = some o' → (t :: tr)[j + 1]? = some t' → allOk t'.1 o' t'.2.2 ((st.drop lo).take (Nat.succ hi - lo)) = true := fun h j hk ho ht =>
      check_ok h j lo hi o' t' (by simpa using hk) (by simpa using ho) (by simpa using ht) hw
    unfold checkD at h
    cases j with
    | zero =>
      simp at hk ho ht; subst hk ho ht
      simp only [hw] at h
      cases hb : allOk t.1 o t.2.2 ((st.drop lo).take (Nat.succ hi - lo)) with
      | true => rfl
      | false => rw [hb] at h; cases h
    | succ j =>
      refine rest ?_ j hk ho ht
      split at h
      · split at h
        · rename_i lo' hi' _ _
          cases hb : allOk t.1 o t.2.2 ((st.drop lo').take (Nat.succ hi' - lo')) with
          | true => rw [hb] at h; exact h
          | false => rw [hb] at h; cases h
        · exact h
      · exact h
  | [], _, _, _, j, _, _, _, _, hk, _, _, _ => by simp at hk
  | _, [], _, _, j, _, _, _, _, _, ho, _, _ => by simp at ho
  | _, _, [], _, j, _, _, _, _, _, _, ht, _ => by simp at ht

/-- Of a region that draws its order: how its operations hang together, and one order of it. -/
structure Dr (P : Program) (s : Lv) (N : Nat) (ops : Array Oper) (l : List AOper) (bef : Nat → Nat → Bool) (E : List Nat) (base : Nat) (T : Nat → TM) (S : Nat → AS) (V : Nat → AV) : Prop where
  len : l.length = ops.size
  op : ∀ (i : Nat) o, ops[i]? = some o → ∃ ao : AOper, l[i]? = some ao ∧ cOper P N ops o = some ao
  edge : ∀ (i : Nat) o, ops[i]? = some o → ∀ e ∈ o.after, Region.binds .any e = true → e.on < i
  lt : ∀ (i j : Nat), i < ops.size → bef i j = true → j < i
  dn : ∀ (i j : Nat) o, ops[i]? = some o → bef i j = true → ∀ L, Closed ops L → (∀ e ∈ o.after, Region.binds .any e = true → L e.on) → L j
  slot : ∀ (i j : Nat) (ai aj : AOper) (t : Nat), l[i]? = some ai → l[j]? = some aj → t ∈ slotsO ai → aj.dst = some t → bef i j = true ∨ bef j i = true ∨ i = j
  once : ∀ (i j : Nat) (ai aj : AOper) (t : Nat), l[i]? = some ai → l[j]? = some aj → ai.dst = some t → aj.dst = some t → i = j
  eff : ∀ (e : Nat), e ∈ E ↔ ∃ ao : AOper, l[e]? = some ao ∧ classOf ao.op = 3
  sorted : E.Pairwise (· < ·)
  chain : ∀ (j e e' : Nat), E[j]? = some e → E[j + 1]? = some e' → bef e' e = true
  next : ∀ (i : Nat) (ao : AOper), l[i]? = some ao → T (i + 1) = putA (T i) ao.dst (V i)
  unw : ∀ (i : Nat) (ao : AOper), l[i]? = some ao → wantedA (T i) ao.guard = false → V i = undefA ∧ S (i + 1) = S i
  pur : ∀ (i : Nat) (ao : AOper), l[i]? = some ao → wantedA (T i) ao.guard = true → classOf ao.op = 0 → S (i + 1) = S i ∧ ∀ σ, execA σ (T i) ao.op = some (V i, σ)
  rd : ∀ (i : Nat) (ao : AOper), l[i]? = some ao → wantedA (T i) ao.guard = true → classOf ao.op = 1 → S (i + 1) = S i ∧
    ∀ k, E.countP (fun e => bef i e) ≤ k → k ≤ E.countP (fun e => !bef e i) → ∀ σ, (E.map S ++ [S l.length])[k]? = some σ → execA σ (T i) ao.op = some (V i, σ)
  al : ∀ (i : Nat) (ao : AOper), l[i]? = some ao → wantedA (T i) ao.guard = true → classOf ao.op = 2 → ∃ x, allocA (T i) (base + i) ao.op = some (V i, x) ∧ S (i + 1) = (S i).put (base + i) (some x)
  ef : ∀ (i : Nat) (ao : AOper), l[i]? = some ao → wantedA (T i) ao.guard = true → classOf ao.op = 3 → opA s (S i) (T i) ao.op = some (V i, S (i + 1))

theorem dr_ok {P : Program} {s : Lv} {N : Nat} {ops : Array Oper} {l : List AOper} {ks : List DK} {ts ts' : TM} {σ σ' : AS}
    (hl : cOpers P N ops ops.toList = some l) (hk : cDraw ops.toList l = some ks) (h : regD s l ks ts σ = some (ts', σ')) :
    ∃ bef E T S V, Dr P s N ops l bef E σ.next T S V ∧ T 0 = ts ∧ S 0 = ⟨σ.h, σ.next + l.length⟩ ∧ T l.length = ts' ∧ S l.length = σ' := by
  unfold cDraw at hk
  split at hk
  · cases hk
  · rename_i ms hm
    cases hb : (slotsOk l ms l 0 && onceD l l 0 && chainD ms (effsD l 0)) with
    | false => rw [hb] at hk; cases hk
    | true =>
      rw [hb] at hk
      injection hk with hk
      subst hk
      simp only [Bool.and_eq_true] at hb
      obtain ⟨⟨c1, c2⟩, c3⟩ := hb
      unfold regD at h
      split at h
      · rename_i ts1 σ1 tr htr
        cases hc : checkD (stagesD (kindsD ms (effsD l 0) l 0) tr σ1) (kindsD ms (effsD l 0) l 0) l tr with
        | false => rw [hc] at h; cases h
        | true =>
          rw [hc] at h
          injection h with h
          injection h with h1 h2
          subst h1 h2
          obtain ⟨T, S, V, t0, s0, tn, sn, hlen, ht, hst⟩ := trace_ok htr
          obtain ⟨o1, o2⟩ := opers_ok hl
          have hsz : l.length = ops.size := by simpa using o1
          have hstages := stages_ok (ms := ms) (E := effsD l 0) (T := T) (S := S) (V := V) (z := σ1) (i := 0) hlen (fun j hj => by simpa using ht j hj)
          rw [hstages] at hc
          obtain ⟨k1, k2⟩ := kinds_ok (ms := ms) (E := effsD l 0) (l := l) (i := 0)
          have hop : ∀ (i : Nat) (o : Oper), ops[i]? = some o → ∃ ao : AOper, l[i]? = some ao ∧ cOper P N ops o = some ao := fun i o ho => o2 i o (by simpa using ho)
          have hlt : ∀ (i : Nat) (ao : AOper), l[i]? = some ao → i < l.length := fun i ao h => (List.getElem?_eq_some_iff.1 h).1
          have hstep : ∀ (i : Nat) (ao : AOper), l[i]? = some ao → stepD s (σ.next + i) (kindD ms (effsD l 0) i ao) ao (T i) (S i) = some (V i, S (i + 1)) ∧ T (i + 1) = putA (T i) ao.dst (V i) := fun i ao h => hst i _ ao (by simpa using k2 i ao h) h
          refine ⟨fun i j => hasBit (maskAt ms i) j, effsD l 0, T, S, V, ?_, t0, s0, tn, sn⟩
          refine ⟨hsz, hop, fun i o ho e he hb => ?_, fun i j hi hbf => ?_, fun i j o ho hbf L hC hL => (bef_lt_dn hm i o ho j hbf).2 L hC hL, fun i j ai aj t hi hj hts hd => ?_, fun i j ai aj t hi hj hd hd' => ?_, fun e => ?_, effs_sorted l 0, fun j e e' => chain_ok c3 j e e',
            fun i ao hi => (hstep i ao hi).2, fun i ao hi hw => ?_, fun i ao hi hw hcl => ?_, fun i ao hi hw hcl => ?_, fun i ao hi hw hcl => ?_, fun i ao hi hw hcl => ?_⟩
          · obtain ⟨m, _, hm2⟩ := (masks_ok hm).2.2 i o (by simpa using ho)
            simpa using edgeMask_back hm2 e (by simpa using he) hb
          · exact (bef_lt_dn hm i _ (Array.getElem?_eq_getElem hi) j hbf).1
          · have h1 := slots_ok c1 i ai hi t hts
            rw [Nat.zero_add] at h1
            have h2 := once_ok c2 j aj t hj hd
            rw [Nat.zero_add] at h2
            unfold slotOk at h1
            rw [h2] at h1
            simp only [Bool.or_eq_true] at h1
            rcases h1 with (h1 | h1) | h1
            · exact .inl h1
            · exact .inr (.inl h1)
            · exact .inr (.inr (beq_true h1))
          · have h1 := once_ok c2 i ai t hi hd
            have h2 := once_ok c2 j aj t hj hd'
            rw [h1] at h2; injection h2 with h2; omega
          · rw [effs_mem]; simp
          · have h1 := (hstep i ao hi).1
            unfold stepD at h1
            rw [hw] at h1
            injection h1 with h1; injection h1 with h1 h2
            exact ⟨h1.symm, h2.symm⟩
          · have h1 := (hstep i ao hi).1
            unfold stepD kindD at h1
            rw [hw, hcl] at h1
            simp only at h1
            rw [opA_exec (by rw [hcl]; decide)] at h1
            obtain ⟨h2, h3⟩ := exec_pure hcl h1
            exact ⟨h2, h3⟩
          · have h1 := (hstep i ao hi).1
            unfold stepD kindD at h1
            rw [hw, hcl] at h1
            simp only at h1
            rw [opA_exec (by rw [hcl]; decide)] at h1
            refine ⟨exec_read hcl h1, fun k hk1 hk2 σ2 hσ2 => ?_⟩
            have hkind : (kindsD ms (effsD l 0) l 0)[i]? = some (.read ((effsD l 0).countP fun e => hasBit (maskAt ms i) e) ((effsD l 0).countP fun e => !hasBit (maskAt ms e) i)) := by
              rw [k2 i ao hi, Nat.zero_add]; unfold kindD; rw [hcl]; rfl
            have h2 := check_ok hc i _ _ ao _ hkind hi (ht i (hlt i ao hi)) hw
            refine readOk_ok hcl (allOk_ok h2 σ2 ?_)
            rw [sn] at hσ2
            rw [List.mem_iff_getElem?]
            refine ⟨k - (effsD l 0).countP (fun e => hasBit (maskAt ms i) e), ?_⟩
            rw [List.getElem?_take, if_pos (by omega), List.getElem?_drop, show ∀ a, a ≤ k → a + (k - a) = k from fun a ha => by omega]
            · exact hσ2
            · exact hk1
          · have h1 := (hstep i ao hi).1
            unfold stepD kindD at h1
            rw [hw, hcl] at h1
            simp only at h1
            split at h1
            · rename_i v x hx
              injection h1 with h1; injection h1 with h2 h3
              subst h2
              exact ⟨x, hx, h3.symm⟩
            · cases h1
          · have h1 := (hstep i ao hi).1
            unfold stepD kindD at h1
            rw [hw, hcl] at h1
            exact h1
      · cases h
end Go.Av

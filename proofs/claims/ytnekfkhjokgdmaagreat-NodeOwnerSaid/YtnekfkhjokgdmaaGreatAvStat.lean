/-
  Av: what the table's checks of a region that draws its order say.
-/
import Derived.Test.YtnekfkhjokgdmaaGreatAvCong
import Derived.OrdersIn
set_option linter.unusedVariables false
namespace Go.Av

/-- The operations that are listed: with each, what it must come behind. -/
def Closed (ops : Array Oper) (L : Nat → Prop) : Prop := ∀ i o, ops[i]? = some o → L i → ∀ e ∈ o.after, Region.binds .any e = true → L e.on

theorem hasBit_eq (m j : Nat) : hasBit m j = m.testBit j := by
  rw [Nat.testBit_eq_decide_div_mod_eq]
  show Nat.beq (m / 2 ^ j % 2) 1 = decide _
  by_cases h : m / 2 ^ j % 2 = 1
  · rw [h]; rfl
  · rw [decide_eq_false h]
    cases hb : Nat.beq (m / 2 ^ j % 2) 1 with
    | false => rfl
    | true => exact absurd (Nat.eq_of_beq_eq_true hb) h

theorem edgeMask_ok {acc : List Nat} {i : Nat} : ∀ {es : List Edge} {m : Nat}, edgeMask acc i es = some m → ∀ j, m.testBit j = true →
    ∃ e ∈ es, Region.binds .any e = true ∧ e.on < i ∧ (j = e.on ∨ (acc.getD e.on 0).testBit j = true)
  | [], m, h, j, hj => by injection h with h; subst h; simp at hj
  | e :: r, m, h, j, hj => by
    unfold edgeMask at h
    split at h
    · cases h
    · rename_i m' hm'
      have rest : m'.testBit j = true → ∃ e' ∈ e :: r, Region.binds .any e' = true ∧ e'.on < i ∧ (j = e'.on ∨ (acc.getD e'.on 0).testBit j = true) := fun hj' =>
        let ⟨e', h1, h2⟩ := edgeMask_ok hm' j hj'
        ⟨e', List.mem_cons_of_mem _ h1, h2⟩
      split at h
      · rename_i hb
        cases hlt : Nat.blt e.on i with
        | false => rw [hlt] at h; cases h
        | true =>
          rw [hlt] at h
          injection h with h
          subst h
          change (m' ||| (2 ^ e.on ||| acc.getD e.on 0)).testBit j = true at hj
          rw [Nat.testBit_or, Nat.testBit_or, Bool.or_eq_true, Bool.or_eq_true] at hj
          rcases hj with hj | hj | hj
          · exact rest hj
          · refine ⟨e, by simp, hb, Nat.le_of_ble_eq_true hlt, .inl ?_⟩
            rw [Nat.testBit_two_pow] at hj
            simpa using (of_decide_eq_true hj).symm
          · exact ⟨e, by simp, hb, Nat.le_of_ble_eq_true hlt, .inr hj⟩
      · injection h with h; subst h; exact rest hj

theorem edgeMask_back {acc : List Nat} {i : Nat} : ∀ {es : List Edge} {m : Nat}, edgeMask acc i es = some m → ∀ e ∈ es, Region.binds .any e = true → e.on < i
  | [], m, h, e, he, _ => by cases he
  | x :: r, m, h, e, he, hbe => by
    unfold edgeMask at h
    split at h
    · cases h
    · rename_i m' hm'
      rcases List.mem_cons.1 he with rfl | he
      · rw [hbe] at h
        simp only at h
        cases hlt : Nat.blt e.on i with
        | false => rw [hlt] at h; cases h
        | true => exact Nat.le_of_ble_eq_true hlt
      · exact edgeMask_back hm' e he hbe

theorem masks_ok : ∀ {os : List Oper} {acc ms : List Nat}, masksD os acc = some ms → acc <+: ms ∧ ms.length = acc.length + os.length ∧
    ∀ i o, os[i]? = some o → ∃ m, ms[acc.length + i]? = some m ∧ edgeMask (ms.take (acc.length + i)) (acc.length + i) o.after.toList = some m
  | [], acc, ms, h => by injection h with h; subst h; exact ⟨List.prefix_refl _, by simp, by simp⟩
  | o :: r, acc, ms, h => by
    unfold masksD at h
    split at h
    · rename_i m hm
      obtain ⟨h1, h2, h3⟩ := masks_ok h
      refine ⟨(List.prefix_append _ _).trans h1, by simp at h2 ⊢; omega, fun i o' hi => ?_⟩
      have htake : ms.take acc.length = acc := by
        obtain ⟨t, ht⟩ := h1
        rw [← ht]; simp
      cases i with
      | zero =>
        injection hi with hi; subst hi
        refine ⟨m, ?_, by rw [Nat.add_zero, htake]; exact hm⟩
        obtain ⟨t, ht⟩ := h1
        rw [← ht]; simp
      | succ i =>
        have := h3 i o' hi
        simpa [Nat.add_assoc, Nat.add_comm 1 i] using this
    · cases h

section
variable {ops : Array Oper} {ms : List Nat}
theorem bef_lt_dn (hm : masksD ops.toList [] = some ms) : ∀ i o, ops[i]? = some o → ∀ j, hasBit (maskAt ms i) j = true →
    j < i ∧ ∀ L, Closed ops L → (∀ e ∈ o.after, Region.binds .any e = true → L e.on) → L j := by
  obtain ⟨_, hlen, hms⟩ := masks_ok hm
  intro i
  induction i using Nat.strongRecOn with
  | ind i ih =>
    intro o ho j hj
    obtain ⟨m, h1, h2⟩ := hms i o (by simpa using ho)
    simp only [List.length_nil, Nat.zero_add] at h1 h2
    have hmi : maskAt ms i = m := by unfold maskAt; simp [List.getD, h1]
    rw [hasBit_eq, hmi] at hj
    obtain ⟨e, he, hb, hlt, hor⟩ := edgeMask_ok h2 j hj
    have he' : e ∈ o.after := by simpa using he
    rcases hor with rfl | hor
    · exact ⟨hlt, fun L _ hL => hL e he' hb⟩
    · have hisz : i < ops.size := (Array.getElem?_eq_some_iff.1 ho).1
      have hoo : ops[e.on]? = some ops[e.on] := Array.getElem?_eq_getElem (by omega)
      have hbit : hasBit (maskAt ms e.on) j = true := by
        rw [hasBit_eq]
        unfold maskAt
        have : (ms.take i).getD e.on 0 = ms.getD e.on 0 := by
          simp [List.getD, hlt]
        rw [← this]; exact hor
      obtain ⟨h3, h4⟩ := ih e.on hlt _ hoo j hbit
      exact ⟨by omega, fun L hC hL => h4 L hC (hC e.on _ hoo (hL e he' hb))⟩
end

theorem writer_ok {t : Nat} : ∀ {l : List AOper} {i j : Nat}, writer t l i = some j → ∃ o, i ≤ j ∧ l[j - i]? = some o ∧ o.dst = some t
  | [], i, j, h => by cases h
  | o :: r, i, j, h => by
    have next : writer t r (i + 1) = some j → ∃ o', i ≤ j ∧ (o :: r)[j - i]? = some o' ∧ o'.dst = some t := fun h => by
      obtain ⟨o', h1, h2, h3⟩ := writer_ok h
      refine ⟨o', by omega, ?_, h3⟩
      rw [show j - i = (j - (i + 1)) + 1 from by omega]
      simpa using h2
    unfold writer at h
    split at h
    · rename_i d hd
      cases hb : Nat.beq d t with
      | true =>
        rw [hb] at h; injection h with h; subst h
        exact ⟨o, Nat.le_refl _, by simp, by rw [hd, beq_true hb]⟩
      | false => rw [hb] at h; exact next h
    · exact next h
theorem writer_none {t : Nat} : ∀ {l : List AOper} {i : Nat}, writer t l i = none → ∀ (j : Nat) (o : AOper), l[j]? = some o → o.dst ≠ some t
  | [], i, h, j, o, hj => by simp at hj
  | o :: r, i, h, j, o', hj => by
    unfold writer at h
    split at h
    · rename_i d hd
      cases hb : Nat.beq d t with
      | true => rw [hb] at h; cases h
      | false =>
        rw [hb] at h
        cases j with
        | zero => injection hj with hj; subst hj; rw [hd]; intro he; injection he with he; exact beq_false hb he
        | succ j => exact writer_none h j o' (by simpa using hj)
    · rename_i hd
      cases j with
      | zero => injection hj with hj; subst hj; rw [hd]; intro he; cases he
      | succ j => exact writer_none h j o' (by simpa using hj)
theorem once_ok {ops : List AOper} : ∀ {l : List AOper} {i : Nat}, onceD ops l i = true → ∀ (j : Nat) (o : AOper) (d : Nat), l[j]? = some o → o.dst = some d → writer d ops 0 = some (i + j)
  | [], i, h, j, o, d, hj, hd => by simp at hj
  | o :: r, i, h, j, o', d, hj, hd => by
    unfold onceD at h
    rw [Bool.and_eq_true] at h
    cases j with
    | zero =>
      injection hj with hj; subst hj
      have h1 := h.1
      rw [hd] at h1
      simp only at h1
      split at h1
      · rename_i k hk; rw [hk, beq_true h1]; rfl
      · cases h1
    | succ j =>
      have := once_ok h.2 j o' d (by simpa using hj) hd
      rw [this]; congr 1; simp; omega
theorem slots_ok {ops : List AOper} {ms : List Nat} : ∀ {l : List AOper} {i : Nat}, slotsOk ops ms l i = true → ∀ (j : Nat) (o : AOper), l[j]? = some o → ∀ t ∈ slotsO o, slotOk ops ms (i + j) t = true
  | [], i, h, j, o, hj => by simp at hj
  | o :: r, i, h, j, o', hj => by
    unfold slotsOk at h
    rw [Bool.and_eq_true] at h
    cases j with
    | zero => injection hj with hj; subst hj; intro t ht; exact List.all_eq_true.1 h.1 t ht
    | succ j =>
      intro t ht
      have := slots_ok h.2 j o' (by simpa using hj) t ht
      rw [show i + (j + 1) = i.succ + j from by omega]; exact this
theorem effs_mem : ∀ {l : List AOper} {i e : Nat}, e ∈ effsD l i ↔ ∃ o, i ≤ e ∧ l[e - i]? = some o ∧ classOf o.op = 3
  | [], i, e => by simp [effsD]
  | o :: r, i, e => by
    have ih := effs_mem (l := r) (i := i + 1) (e := e)
    have hnext : (∃ o', i + 1 ≤ e ∧ r[e - (i + 1)]? = some o' ∧ classOf o'.op = 3) ↔ ∃ o', i + 1 ≤ e ∧ (o :: r)[e - i]? = some o' ∧ classOf o'.op = 3 := by
      constructor
      · rintro ⟨o', h1, h2, h3⟩; exact ⟨o', h1, by rw [show e - i = (e - (i + 1)) + 1 from by omega]; simpa using h2, h3⟩
      · rintro ⟨o', h1, h2, h3⟩; rw [show e - i = (e - (i + 1)) + 1 from by omega] at h2; exact ⟨o', h1, by simpa using h2, h3⟩
    unfold effsD
    cases hb : Nat.beq (classOf o.op) 3 with
    | true =>
      simp only [cond_true, List.mem_cons, ih, hnext]
      constructor
      · rintro (rfl | ⟨o', h1, h2, h3⟩)
        · exact ⟨o, Nat.le_refl _, by simp, beq_true hb⟩
        · exact ⟨o', by omega, h2, h3⟩
      · rintro ⟨o', h1, h2, h3⟩
        rcases Nat.lt_or_ge i e with h | h
        · exact .inr ⟨o', h, h2, h3⟩
        · exact .inl (by omega)
    | false =>
      simp only [cond_false, ih, hnext]
      constructor
      · rintro ⟨o', h1, h2, h3⟩; exact ⟨o', by omega, h2, h3⟩
      · rintro ⟨o', h1, h2, h3⟩
        rcases Nat.lt_or_ge i e with h | h
        · exact ⟨o', h, h2, h3⟩
        · have : e = i := by omega
          subst this
          simp at h2; subst h2
          exact absurd h3 (beq_false hb)
theorem effs_sorted : ∀ (l : List AOper) (i : Nat), (effsD l i).Pairwise (· < ·)
  | [], i => by simp [effsD]
  | o :: r, i => by
    have ih := effs_sorted r (i + 1)
    unfold effsD
    cases hb : Nat.beq (classOf o.op) 3 with
    | true =>
      simp only [cond_true, List.pairwise_cons]
      exact ⟨fun e he => by have := (effs_mem.1 he).choose_spec.1; omega, ih⟩
    | false => exact ih
theorem chain_ok {ms : List Nat} : ∀ {E : List Nat}, chainD ms E = true → ∀ j e e', E[j]? = some e → E[j + 1]? = some e' → hasBit (maskAt ms e') e = true
  | [], _, j, e, e', h, _ => by simp at h
  | [a], _, j, e, e', h, h' => by simp at h'
  | a :: b :: r, h, j, e, e', h1, h2 => by
    unfold chainD at h
    rw [Bool.and_eq_true] at h
    cases j with
    | zero => simp at h1 h2; subst h1 h2; exact h.1
    | succ j => exact chain_ok h.2 j e e' (by simpa using h1) (by simpa using h2)
theorem kinds_ok {ms E : List Nat} : ∀ {l : List AOper} {i : Nat}, (kindsD ms E l i).length = l.length ∧ ∀ (j : Nat) (o : AOper), l[j]? = some o → (kindsD ms E l i)[j]? = some (kindD ms E (i + j) o)
  | [], i => by simp [kindsD]
  | o :: r, i => by
    obtain ⟨h1, h2⟩ := kinds_ok (ms := ms) (E := E) (l := r) (i := i + 1)
    refine ⟨by unfold kindsD; simpa using h1, fun j o' hj => ?_⟩
    unfold kindsD
    cases j with
    | zero => simp at hj; subst hj; rfl
    | succ j =>
      have := h2 j o' (by simpa using hj)
      simpa [show i + (j + 1) = i + 1 + j from by omega] using this

/-! ### Operations -/
section
variable {P : Program}
theorem opers_ok {N : Nat} {all : Array Oper} : ∀ {os : List Oper} {l : List AOper}, cOpers P N all os = some l → l.length = os.length ∧ ∀ (i : Nat) (o : Oper), os[i]? = some o → ∃ ao : AOper, l[i]? = some ao ∧ cOper P N all o = some ao
  | [], l, h => by injection h with h; subst h; simp
  | o :: r, l, h => by
    unfold cOpers at h
    split at h
    · rename_i a l' ha hl'
      injection h with h; subst h
      obtain ⟨h1, h2⟩ := opers_ok hl'
      refine ⟨by simp [h1], fun i o' hi => ?_⟩
      cases i with
      | zero => simp at hi; subst hi; exact ⟨a, rfl, ha⟩
      | succ i => simpa using h2 i o' (by simpa using hi)
    · cases h
theorem oper_ok {N : Nat} {all : Array Oper} {o : Oper} {ao : AOper} (h : cOper P N all o = some ao) : cOp P o.op = some ao.op ∧ ao.dst = o.dst ∧ cGuard all o = some ao.guard ∧ dstOk N o.dst = true := by
  unfold cOper at h
  split at h
  · rename_i a g ha hg
    split at h
    · rename_i hd
      injection h with h; subst h
      exact ⟨ha, rfl, hg, hd⟩
    · cases h
  · cases h
theorem guard_ok {ι : Emb} {ts : TM} {all : Array Oper} {o : Oper} {g : Option (Nat × Bool)} {a : Act} (hg : cGuard all o = some g) (ht : Slots ι ts a) : Region.wanted o (yielded all a.tmps) = wantedA ts g := by
  unfold cGuard at hg
  unfold Region.wanted
  split at hg
  · rename_i hn; injection hg with hg; subst hg; rw [hn]; rfl
  · rename_i j want hn
    rw [hn]
    split at hg
    · rename_i p hp
      split at hg
      · rename_i d hd
        injection hg with hg; subst hg
        have hv := ht d
        simp only [yielded, hp, Option.bind_some, hd, wantedA]
        cases hs : a.tmps[d]? with
        | none =>
          have : a.tmps.getD d undef = undef := by simp [Array.getD_eq_getD_getElem?, hs]
          rw [this] at hv
          generalize ts.at d = x at hv
          unfold undef at hv
          cases hv <;> rfl
        | some u =>
          have : a.tmps.getD d undef = u := by simp [Array.getD_eq_getD_getElem?, hs]
          rw [this] at hv
          generalize ts.at d = x at hv
          cases hv <;> rfl
      · cases hg
    · cases hg
end
end Go.Av

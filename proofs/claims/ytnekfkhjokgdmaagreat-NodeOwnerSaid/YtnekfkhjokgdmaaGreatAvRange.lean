/-
  Av: loops over maps, in whatever order; what is garbage is forgotten.
-/
import Derived.Test.YtnekfkhjokgdmaaGreatAvCut
import Derived.Maps.RangeRun
set_option linter.unusedVariables false
namespace Go.Av

/-! ### Back to the places that were known before -/
mutual
theorem VR.back {ι ι' : Emb} (hx : Ext ι ι') {a : AV} {u v : Value} : VR ι a u → VR ι' a v → VR ι a v
  | .bool b, h => by cases h; exact .bool b
  | .int k n, h => by cases h; exact .int k n
  | .str s, h => by cases h; exact .str s
  | .nilptr, h => by cases h; exact .nilptr
  | .ptr h0, h => by
    cases h with
    | ptr h1 =>
      rw [(hx _ _ h0).1] at h1; injection h1 with h1; subst h1
      exact .ptr h0
  | .nilsl, h => by cases h; exact .nilsl
  | .empsl a c, h => by cases h; exact .empsl _ _
  | .sl h0 hc he hn hr, h => by
    cases h with
    | sl h1 hc1 he1 hn1 hr1 =>
      rw [(hx _ _ h0).1] at h1; injection h1 with h1; subst h1
      exact .sl h0 hc1 he1 hn1 (fun e1 e2 => (hr1 e1 e2).trans (hx _ _ h0).2)
  | .nilmap, h => by cases h; exact .nilmap
  | .map h0, h => by
    cases h with
    | map h1 =>
      rw [(hx _ _ h0).1] at h1; injection h1 with h1; subst h1
      exact .map h0
  | .nilfn, h => by cases h; exact .nilfn
  | .fn h1 h2, h => by
    cases h with
    | fn g1 g2 => exact .fn (VRL.back hx h1 g1) (VRL.back hx h2 g2)
  | .agg h0 h1, h => by
    cases h with
    | agg g0 g1 => exact .agg (VRL.back hx h0 g0) h1
  | .tup h0, h => by
    cases h with
    | tup g0 => exact .tup (VRL.back hx h0 g0)
  | .yld h0, h => by
    cases h with
    | yld h1 =>
      rw [(hx _ _ h0).1] at h1; injection h1 with h1; subst h1
      exact .yld h0
theorem VRL.back {ι ι' : Emb} (hx : Ext ι ι') {l : List AV} {us vs : List Value} : VRL ι l us → VRL ι' l vs → VRL ι l vs
  | .nil, h => by cases h; exact .nil
  | .cons h0 ht, h => by
    cases h with
    | cons g0 gt => exact .cons (VR.back hx h0 g0) (VRL.back hx ht gt)
end
theorem MRL.back {ι ι' : Emb} (hx : Ext ι ι') : ∀ {l : List (AV × AV)} {es fs : List MapEntry}, MRL ι l es → MRL ι' l fs → MRL ι l fs
  | [], [], [], _, _ => trivial
  | (_, _) :: _, _ :: _, _ :: _, ⟨h1, h2, h3⟩, ⟨g1, g2, g3⟩ => ⟨h1.back hx g1, h2.back hx g2, MRL.back hx h3 g3⟩
theorem TR.back {N N' : Nat} {ι ι' : Emb} (hx : Ext ι ι') {ts : TM} {t t' : Array Value} (h : TR N ι ts t) (h' : TR N' ι' ts t') : TR N' ι ts t' :=
  ⟨h'.size, fun k => (h.at_ k).back hx (h'.at_ k)⟩
theorem OR.back {P : Program} {ι ι' : Emb} {b c : Nat} (hx : Ext ι ι') (hb : ι b = some c) : ∀ {a : AObj} {o o' : Obj}, OR P ι b a o → OR P ι' b a o' → OR P ι b a o'
  | .cells _ _ _ _, _, _, ⟨cs, fr, h1, h2, h3, h4, h5, h6, h7⟩, ⟨ds, gr, g1, g2, g3, g4, g5, g6, g7⟩ =>
    ⟨ds, gr, g1, g2, g3, g4, h5.back hx g5, h6, fun he => let ⟨s, h8, h9⟩ := g7 he; ⟨s, h8, by rw [← (hx b c hb).2]; exact h9⟩⟩
  | .amap l, _, _, ⟨es, clock, h1, h2, h3⟩, ⟨fs, clock', g1, g2, g3⟩ => ⟨fs, clock', g1, h2.back hx g2, g3⟩
  | .aloop _ _ _ _ _, _, _, ⟨N, r, h1, h2⟩, ⟨N', r', g1, g2⟩ => ⟨N', r', g1, ⟨h2.tmps.back hx g2.tmps, g2.inN, g2.params, g2.asg_, g2.body_, g2.nest, g2.live, g2.left⟩⟩

section
variable {P : Program} {ι ι' : Emb} {σ σ' : AS} {w w' : World} {s : Lv} {N m : Nat}

/-- A number that is kept free. -/
noncomputable def AS.skip (σ : AS) : AS := ⟨σ.h, Nat.succ σ.next⟩
@[simp] theorem AS.get_skip (σ : AS) (b : Nat) : σ.skip.get b = σ.get b := rfl
@[simp] theorem AS.next_skip (σ : AS) : σ.skip.next = σ.next + 1 := rfl

theorem R.reserve (h : R P ι σ w) {c : Nat} (hc : c < w.heap.size) (k : Nat) (hno : ∀ b, σ.live b → ι b ≠ some c) : R P (at_ ι σ.next c k) σ.skip w := by
  have hx := h.ext_at c k
  have hlv : ∀ b, σ.skip.live b → σ.live b ∧ b ≠ σ.next := fun b ⟨o, ho⟩ => by
    rw [AS.get_skip] at ho
    refine ⟨⟨o, ho⟩, ?_⟩
    rintro rfl
    rw [h.fresh _ (Nat.le_refl _)] at ho; cases ho
  refine ⟨fun b d hb => ?_, fun b hb => h.fresh b (Nat.le_of_succ_le hb), fun b b' d hl hl' hb hb' => ?_, fun b d o hb hg => ?_⟩
  · rw [at_blk] at hb
    split at hb
    · rename_i e; injection hb with hb; subst e hb; exact ⟨Nat.lt_succ_self _, hc⟩
    · have := h.lt b d hb; exact ⟨Nat.lt_succ_of_lt this.1, this.2⟩
  · obtain ⟨l1, e1⟩ := hlv b hl
    obtain ⟨l2, e2⟩ := hlv b' hl'
    rw [at_blk, if_neg e1] at hb
    rw [at_blk, if_neg e2] at hb'
    exact h.inj b b' d l1 l2 hb hb'
  · obtain ⟨l1, e1⟩ := hlv b ⟨o, hg⟩
    rw [at_blk, if_neg e1] at hb
    obtain ⟨y, hy, hr⟩ := h.obj b d o hb hg
    exact ⟨y, hy, hr.ext hx hb⟩

/-- A block of the world's that was made since is told by the next number; all else that was made since is forgotten. -/
theorem gc_one {b : Nat} {o : AObj} (hR : R P ι σ w) (hL : Later ι σ w ι' σ' w') (hR' : R P ι' σ' w') (hold : ∀ b, b < σ.next → σ'.get b = σ.get b) (hb : σ.next ≤ b) (hg : σ'.get b = some o) (hrob : ¬ σ'.rob b) {c : Nat} (hc : ι' b = some c)
    (hor : ∀ ι'' : Emb, ι''.room σ.next = ι'.room b → ∀ x, OR P ι' b o x → OR P ι'' σ.next o x) :
    R P (at_ ι σ.next c (ι'.room b)) (σ.alloc o) w' ∧ Later ι σ w (at_ ι σ.next c (ι'.room b)) (σ.alloc o) w' := by
  have hx := hR.ext_at c (ι'.room b)
  have hlive : ∀ x, σ.live x → σ'.live x ∧ x < σ.next := fun x ⟨y, hy⟩ => by
    have hlt : x < σ.next := by
      rcases Nat.lt_or_ge x σ.next with h | h
      · exact h
      · rw [hR.fresh x h] at hy; cases hy
    exact ⟨⟨y, by rw [hold x hlt]; exact hy⟩, hlt⟩
  have hno : ∀ x, σ.live x → ι x ≠ some c := fun x hl e => by
    obtain ⟨l', hlt⟩ := hlive x hl
    rcases hR'.inj x b c l' ⟨o, hg⟩ (hL.ext _ _ e).1 hc with h | ⟨_, h⟩
    · omega
    · exact hrob h
  have hlv : ∀ x, (σ.alloc o).live x → x = σ.next ∨ σ.live x := fun x ⟨y, hy⟩ => by
    rw [AS.get_alloc] at hy
    split at hy
    · exact .inl (by assumption)
    · exact .inr ⟨y, hy⟩
  have hlt' := (hR'.lt b c hc).2
  refine ⟨⟨fun x d hd => ?_, fun x hd => ?_, fun x x' d hl hl' hd hd' => ?_, fun x d y hd hy => ?_⟩, ⟨hx, fun x d hd => ?_, by simp, fun x hl hn => ?_, fun x hl hn => ?_, hL.size, hL.frame, hL.os, hL.tape, hL.output⟩⟩
  · rw [at_blk] at hd
    rw [AS.next_alloc]
    split at hd
    · rename_i e; injection hd with hd; subst e hd; exact ⟨Nat.lt_succ_self _, hlt'⟩
    · have := hR.lt x d hd; exact ⟨Nat.lt_succ_of_lt this.1, Nat.lt_of_lt_of_le this.2 hL.size⟩
  · rw [AS.get_alloc, if_neg (by simp at hd; omega)]
    exact hR.fresh x (by simp at hd; omega)
  · rw [at_blk] at hd hd'
    rcases hlv x hl with e | hl
    · rcases hlv x' hl' with e' | hl'
      · exact .inl (e.trans e'.symm)
      · rw [if_pos e] at hd; injection hd with hd
        rw [if_neg (by have := (hlive x' hl').2; omega)] at hd'
        exact absurd (hd ▸ hd') (hno x' hl')
    · rcases hlv x' hl' with e' | hl'
      · rw [if_pos e'] at hd'; injection hd' with hd'
        rw [if_neg (by have := (hlive x hl).2; omega)] at hd
        exact absurd (hd' ▸ hd) (hno x hl)
      · have n1 : x ≠ σ.next := by have := (hlive x hl).2; omega
        have n2 : x' ≠ σ.next := by have := (hlive x' hl').2; omega
        rw [if_neg n1] at hd
        rw [if_neg n2] at hd'
        rcases hR.inj x x' d hl hl' hd hd' with h1 | ⟨⟨p, q, r, h2⟩, ⟨p', q', r', h3⟩⟩
        · exact .inl h1
        · exact .inr ⟨⟨p, q, r, by rw [AS.get_alloc, if_neg n1]; exact h2⟩, ⟨p', q', r', by rw [AS.get_alloc, if_neg n2]; exact h3⟩⟩
  · rw [at_blk] at hd
    rw [AS.get_alloc] at hy
    split at hd
    · rename_i e
      rw [if_pos e] at hy
      injection hd with hd; injection hy with hy
      subst e hd hy
      obtain ⟨z, hz, hr⟩ := hR'.obj b c o hc hg
      exact ⟨z, hz, hor _ (by rw [at_room, if_pos rfl]) z hr⟩
    · rename_i e
      rw [if_neg e] at hy
      obtain ⟨u, hu, hr⟩ := hR.obj x d y hd hy
      obtain ⟨z, hz, hr'⟩ := hR'.obj x d y (hL.ext _ _ hd).1 (by rw [hold x (hR.lt x d hd).1]; exact hy)
      exact ⟨z, hz, (hr.back hL.ext hd hr').ext hx hd⟩
  · rw [at_blk] at hd
    split at hd
    · rename_i e; injection hd with hd; subst e hd
      refine .inr ⟨Nat.le_refl _, ?_⟩
      rcases hL.new b c hc with h | ⟨_, h | ⟨b', h1, h2⟩⟩
      · have := (hR.lt b c h).1; omega
      · exact .inl h
      · exact absurd h2 (hno b' h1)
    · exact .inl hd
  · rw [AS.get_alloc, if_neg (by omega)]
  · rw [AS.get_alloc, if_neg (by omega)]; exact hn
/-- All that was made since is forgotten. -/
theorem gc_none (hR : R P ι σ w) (hL : Later ι σ w ι' σ' w') (hR' : R P ι' σ' w') (hold : ∀ b, b < σ.next → σ'.get b = σ.get b) : R P ι σ w' ∧ Later ι σ w ι σ w' := by
  refine ⟨⟨fun x d hd => ?_, hR.fresh, hR.inj, fun x d y hd hy => ?_⟩, ⟨Ext.refl _, fun _ _ h => .inl h, Nat.le_refl _, fun _ _ _ => rfl, fun _ _ h => h, hL.size, hL.frame, hL.os, hL.tape, hL.output⟩⟩
  · have := hR.lt x d hd; exact ⟨this.1, Nat.lt_of_lt_of_le this.2 hL.size⟩
  · obtain ⟨u, hu, hr⟩ := hR.obj x d y hd hy
    obtain ⟨z, hz, hr'⟩ := hR'.obj x d y (hL.ext _ _ hd).1 (by rw [hold x (hR.lt x d hd).1]; exact hy)
    exact ⟨z, hz, hr.back hL.ext hd hr'⟩

/-! ### Operations one by one -/
theorem raw_op {F : Fence} (hF : FF F) {o : Oper} {a : Act} {v : Value} {K : Act → World → Prop} {Q : Exit → Act → World → Prop} (hd : ∀ c, o.op ≠ .defer c) (hrun : (execOp a.eval o).run P w = .ok (.value v) w') (hK : K (a.put o.dst v) w') : o.wpIn F 0 P a w K Q := by
  refine ⟨fun f _ => hF.wide.fn f, ?_⟩
  rw [Oper.semAt_eq _ _ _ hd, hrun]
  exact hK
theorem raw_step {F : Fence} (hF : FF F) {ops : Array Oper} {k : Nat} {rest : List Nat} {o : Oper} {a : Act} {v : Value} {Q : Exit → Act → World → Prop} (ho : ops[k]? = some o) (hg : o.guard = none) (hd : ∀ c, o.op ≠ .defer c) (hrun : (execOp a.eval o).run P w = .ok (.value v) w')
    (hK : wpOpsIn F 0 P ops Q rest (a.put o.dst v) w') : wpOpsIn F 0 P ops Q (k :: rest) a w := by
  simp only [wpOpsIn, ho]
  have : Region.wanted o (yielded ops a.tmps) = true := by unfold Region.wanted; rw [hg]
  rw [if_pos this]
  exact raw_op hF hd hrun hK
/-- A row of operations out of a region. -/
theorem ops_from (hs : LvOK P s) {F : Fence} (hF : FF F) {ops : Array Oper} {Q : Exit → Act → World → Prop} {ts' : TM} {rest : List Nat} {more : List Oper} :
    ∀ (os : List Oper) (k : Nat) (l : List AOper) (ι : Emb) (σ : AS) (ts : TM) (a : Act) (w : World), ops.toList.drop k = os ++ more → cOpers P N ops os = some l → opsA s l ts σ = some (ts', σ') → R P ι σ w → TR N ι ts a.tmps →
      (∀ ι' a' w', Later ι σ w ι' σ' w' → R P ι' σ' w' → TR N ι' ts' a'.tmps → a'.defers = a.defers → wpOpsIn F 0 P ops Q rest a' w') → wpOpsIn F 0 P ops Q (List.range' k os.length ++ rest) a w := by
  intro os
  induction os with
  | nil =>
    intro k l ι σ ts a w hd hc h hR hT hQ
    injection hc with hc; subst hc
    injection h with h; injection h with h1 h2
    subst h1 h2
    exact hQ ι a w (.refl _ _ _) hR hT rfl
  | cons o os ih =>
    intro k l ι σ ts a w hd hc h hR hT hQ
    unfold cOpers at hc
    split at hc <;> try (cases hc; done)
    rename_i ao l' hco hcl
    injection hc with hc; subst hc
    have hk : ops.toList[k]? = some o := by
      have : (ops.toList.drop k)[0]? = some o := by rw [hd]; rfl
      simpa using this
    have ho : ops[k]? = some o := by simpa using hk
    obtain ⟨hop, hdst, hg, hok⟩ := oper_ok hco
    have h' : (match wantedA ts ao.guard with
      | true => match opA s σ ts ao.op with
        | some (v, σ') => opsA s l' (putA ts ao.dst v) σ'
        | none => none
      | false => opsA s l' (putA ts ao.dst undefA) σ) = some (ts', σ') := h
    rw [List.length_cons, List.range'_succ, List.cons_append]
    simp only [wpOpsIn, ho]
    rw [guard_ok hg hT.at_]
    have hd' : ops.toList.drop (k + 1) = os ++ more := by
      rw [← List.drop_drop, hd]; rfl
    cases hw : wantedA ts ao.guard with
    | false =>
      rw [hw] at h'
      simp only at h'
      simp only [Bool.false_eq_true, if_false]
      refine ⟨fun f _ => hF.wide.fn f, ?_⟩
      rw [hdst] at h'
      refine ih (k + 1) l' ι σ _ _ w hd' hcl h' hR (hT.putD hok (VR.undef _)) fun ι' a' w' e1 e2 e3 e4 => hQ ι' a' w' e1 e2 e3 (by rw [e4, put_tmps])
    | true =>
      rw [hw] at h'
      simp only at h'
      simp only [if_true]
      split at h' <;> try (cases h'; done)
      rename_i v σ1 hopA
      refine op_ok hs hF hop ι σ ts a w v σ1 hR hT.at_ hopA _ _ fun ι1 w1 v1 e1 e2 e3 => ?_
      rw [hdst] at h'
      refine ih (k + 1) l' ι1 σ1 _ _ w1 hd' hcl h' e2 ((hT.ext e1.ext).putD hok e3) fun ι' a' w' f1 f2 f3 f4 => hQ ι' a' w' (e1.trans (fun b c hb => (hR.lt b c hb).1) f1) f2 f3 (by rw [f4, put_tmps])
end
end Go.Av

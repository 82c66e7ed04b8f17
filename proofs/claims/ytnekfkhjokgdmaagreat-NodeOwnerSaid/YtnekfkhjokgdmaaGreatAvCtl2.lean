/-
  Av: operations and regions, whatever they call.
-/
import Derived.Test.YtnekfkhjokgdmaaGreatAvCtl
set_option linter.unusedVariables false
namespace Go.Av

section
variable {P : Program} {ι ι' : Emb} {σ σ' : AS} {w w' : World} {s : Lv} {N m : Nat}

/-- A fence that lets all in. -/
def FF (F : Fence) : Prop := F = Fence.wide ∨ ∃ l, F = Fence.wide.inRound l
theorem FF.wide {F : Fence} (h : FF F) : Wide F := by
  rcases h with rfl | ⟨l, rfl⟩
  · exact wide_wide
  · exact wide_round l
theorem FF.calls {F : Fence} (h : FF F) {f : FuncId} {args : Array Value} {w : World} {R : Ending → World → Prop} (hc : CallsIn Fence.wide 0 P f args w R) : CallsIn F 0 P f args w R := by
  rcases h with rfl | ⟨l, rfl⟩
  · exact hc
  · exact hc
theorem FF.round {F : Fence} (h : FF F) {l : Nat} {f : FuncId} {tmps : Array Value} {c d : Code} {w : World} {R : Ending → World → Prop} (hc : RoundIn Fence.wide 0 P l f tmps c d w R) : RoundIn F 0 P l f tmps c d w R := by
  rcases h with rfl | ⟨l, rfl⟩
  · exact hc
  · exact hc

theorem cOp_call {o : Op} {f : Opd} {args : List Opd} (h : cOp P o = some (.call f args)) : ∃ f0 as tys, o = .call { callee := .value f0, args := as, argTypes := tys } ∧ cOpd f0 = some f ∧ cOpds as.toList = some args := by
  cases o with
  | call c =>
    obtain ⟨callee, as, tys⟩ := c
    simp only [cOp] at h
    split at h <;> try (cases h; done)
    · split at h <;> try (cases h; done)
      rename_i hf ha
      injection h with h; injection h with h1 h2; subst h1 h2
      exact ⟨_, _, _, rfl, hf, ha⟩
    · unfold cBuiltin at h
      (repeat' split at h) <;> first | (cases h; done) | (injection h with h; cases h)
  | makeFunc f p q =>
    cases f <;> simp only [cOp] at h <;> first | (cases h; done) | ((repeat' split at h) <;> first | (cases h; done) | (injection h with h; cases h))
  | _ =>
    simp only [cOp] at h
    first | (cases h; done) | ((repeat' split at h) <;> first | (cases h; done) | (injection h with h; cases h))

theorem op_ok (hs : LvOK P s) {F : Fence} (hF : FF F) {o : Oper} {ao : AOp} (hc : cOp P o.op = some ao) : OpOK F P s o ao := by
  intro ι σ ts a w v σ' hR ht h K Q hK
  refine ⟨fun f _ => hF.wide.fn f, ?_⟩
  rw [Oper.semAt_eq _ _ _ (cOp_defer hc)]
  by_cases hcall : ∃ f args, ao = .call f args
  · obtain ⟨f, args, rfl⟩ := hcall
    obtain ⟨f0, as, tys, ho, hf, ha⟩ := cOp_call hc
    have h1 := cOpd_ok hf ht
    have h2 := cOpds_ok ha (a := a) ht
    have hdep : (F.depth.isSome = true → 1 ≤ 0) := fun h => by rw [hF.wide.depth] at h; cases h
    have ret : ∀ e w', Ret P ι σ w σ' v e w' → (match e, w' with
        | .returned v, w'' => K (a.put o.dst v) w''
        | .panicked chain, w'' => Q (.panic chain) a w''
        | .outgrown, _ => LetsOut Q) := fun e w' ⟨u, ι', e1, e2, e3, e4⟩ => by
      subst e1; exact hK _ _ _ e2 e3 e4
    simp only [opA] at h
    split at h <;> try (cases h; done)
    · rename_i g first cap hev
      rw [hev] at h1
      obtain ⟨fs, cs, hu, v1, v2⟩ := h1.fn_inv
      obtain ⟨hop, hcalls⟩ := hs.call _ _ _ _ _ h ι w _ hR ((v1.append h2).append v2)
      have hrun : (execOp a.eval o).run P w = .ok (.enter g ((fs ++ as.toList.map a.eval ++ cs).toArray)) w := by
        unfold execOp; rw [ho]
        simp only [resolve, hu, Deferred.ofValue, Sem.run_bind, Sem.run_pure, Result.andThen_ok, invoke]
        have : fs.toArray ++ as.map a.eval ++ cs.toArray = (fs ++ as.toList.map a.eval ++ cs).toArray := by
          apply Array.ext'; simp
        rw [this]
        exact run_callFunc hop _ _
      rw [hrun, Oper.uponIn_enter]
      exact ⟨hdep, (hF.calls hcalls).mono ret⟩
    · rename_i b hev
      rw [hev] at h1
      obtain ⟨c, hb, hu⟩ := h1.yld_inv
      obtain ⟨r, hr, hlen, hround⟩ := round_ok hs h hR hb h2
      have hrun : (execOp a.eval o).run P w = .ok (.round c r.fn ((r.params.toList.zip (as.toList.map a.eval)).foldl (fun tmps (t, a) => tmps.setIfInBounds t a) r.tmps) r.assign r.body) w := by
        unfold execOp; rw [ho]
        have hsz : ¬ (as.map a.eval).size ≠ r.params.size := by simp at hlen ⊢; exact hlen
        simp only [resolve, hu, Deferred.ofValue, Sem.run_bind, Sem.run_pure, Result.andThen_ok, invoke, Instr.yield, run_getLoop hr, Array.empty_append]
        rw [if_neg hsz]
        have hz : r.params.zip (as.map a.eval) = (r.params.toList.zip (as.toList.map a.eval)).toArray := by apply Array.ext'; simp
        rw [hz, ← Array.foldl_toList]
        rfl
      rw [hrun, Oper.uponIn_round]
      exact ⟨hdep, (hF.round hround).mono ret⟩
  · have hex : opA s σ ts ao = execA σ ts ao := by
      cases ao <;> first | rfl | exact absurd ⟨_, _, rfl⟩ hcall
    rw [hex] at h
    obtain ⟨ι', w', v', e1, e2, e3, e4 | ⟨e4, rfl⟩⟩ := exec_ok hR ht hc h
    · rw [e4]; exact hK _ _ _ e1 e2 e3
    · rw [e4]; exact hK _ _ _ e1 e2 e3

/-- Operations in the text's order. -/
theorem ops_in (hs : LvOK P s) {F : Fence} (hF : FF F) {ops : Array Oper} {l : List AOper} (hl : cOpers P N ops ops.toList = some l) {Q : Exit → Act → World → Prop} {ts' : TM} :
    ∀ (d k : Nat) (ι : Emb) (σ : AS) (ts : TM) (a : Act) (w : World), k + d = ops.size → opsA s (l.drop k) ts σ = some (ts', σ') → R P ι σ w → TR N ι ts a.tmps →
      (∀ ι' a' w', Later ι σ w ι' σ' w' → R P ι' σ' w' → TR N ι' ts' a'.tmps → a'.defers = a.defers → Q .normal a' w') → wpOpsIn F 0 P ops Q (List.range' k d) a w := by
  obtain ⟨o1, o2⟩ := opers_ok hl
  have hsz : l.length = ops.size := o1
  intro d
  induction d with
  | zero =>
    intro k ι σ ts a w hk h hR hT hQ
    rw [List.drop_of_length_le (by omega)] at h
    injection h with h; injection h with h1 h2
    subst h1 h2
    exact hQ ι a w (.refl _ _ _) hR hT rfl
  | succ d ih =>
    intro k ι σ ts a w hk h hR hT hQ
    have hlt : k < l.length := by omega
    have ho : ops[k]? = some ops[k] := Array.getElem?_eq_getElem (by omega)
    obtain ⟨ao, hao, hco⟩ := o2 k ops[k] (by simp)
    obtain ⟨hc, hdst, hg, hok⟩ := oper_ok hco
    rw [List.drop_eq_getElem_cons hlt] at h
    have hlk : l[k] = ao := by rw [List.getElem?_eq_getElem hlt] at hao; injection hao
    rw [hlk] at h
    have h' : (match wantedA ts ao.guard with
      | true => match opA s σ ts ao.op with
        | some (v, σ') => opsA s (l.drop (k + 1)) (putA ts ao.dst v) σ'
        | none => none
      | false => opsA s (l.drop (k + 1)) (putA ts ao.dst undefA) σ) = some (ts', σ') := h
    rw [List.range'_succ]
    simp only [wpOpsIn, ho]
    rw [guard_ok hg hT.at_]
    cases hw : wantedA ts ao.guard with
    | false =>
      rw [hw] at h'
      simp only at h'
      simp only [Bool.false_eq_true, if_false]
      refine ⟨fun f _ => hF.wide.fn f, ?_⟩
      rw [hdst] at h'
      refine ih (k + 1) ι σ _ _ w (by omega) h' hR (hT.putD hok (VR.undef _)) fun ι' a' w' e1 e2 e3 e4 => hQ ι' a' w' e1 e2 e3 (by rw [e4, put_tmps])
    | true =>
      rw [hw] at h'
      simp only at h'
      simp only [if_true]
      split at h' <;> try (cases h'; done)
      rename_i v σ1 hop
      refine op_ok hs hF hc ι σ ts a w v σ1 hR hT.at_ hop _ _ fun ι1 w1 v1 e1 e2 e3 => ?_
      rw [hdst] at h'
      refine ih (k + 1) ι1 σ1 _ _ w1 (by omega) h' e2 ((hT.ext e1.ext).putD hok e3) fun ι' a' w' f1 f2 f3 f4 => hQ ι' a' w' (e1.trans (fun b c hb => (hR.lt b c hb).1) f1) f2 f3 (by rw [f4, put_tmps])

/-- A region that draws. -/
theorem region_draw (hs : LvOK P s) {F : Fence} (hF : FF F) (hmix : P.follows .mixedOrders = true) {id : Nat} {ops : Array Oper} {l : List AOper} {ks : List DK} (hl : cOpers P N ops ops.toList = some l) (hk : cDraw ops.toList l = some ks) {Q : Exit → Act → World → Prop} {ts ts' : TM} {a : Act}
    (h : regD s l ks ts σ = some (ts', σ')) (hR : R P ι σ w) (hT : TR N ι ts a.tmps) (hQ : ∀ ι' a' w', Later ι σ w ι' σ' w' → R P ι' σ' w' → TR N ι' ts' a'.tmps → a'.defers = a.defers → Q .normal a' w') :
    (Code.region id ops true).wpIn F 0 P Q a w := by
  obtain ⟨bef, E, T, S, V, hD, t0, s0, tn, sn⟩ := dr_ok hl hk h
  refine wpIn_region_any hmix ?_
  have hR' : R P ι σ w.drew := hR.drew
  have hRs : R P ι (S 0) w.drew := by
    rw [s0]
    refine ⟨fun b c hb => ?_, fun b hb => ?_, hR'.inj, hR'.obj⟩
    · obtain ⟨h1, h2⟩ := hR'.lt b c hb
      exact ⟨Nat.lt_of_lt_of_le h1 (Nat.le_add_right _ _), h2⟩
    · exact hR'.fresh b (Nat.le_trans (Nat.le_add_right _ _) hb)
  have hla : Later ι σ w.drew ι (S 0) w.drew := by
    rw [s0]
    exact ⟨Ext.refl _, fun _ _ h => .inl h, Nat.le_add_right _ _, fun _ _ _ => rfl, fun _ _ h => h, Nat.le_refl _, fun _ _ _ => rfl, rfl, rfl, rfl⟩
  have hE : ∀ e ∈ E, e < l.length := fun e he => by obtain ⟨x, hx, _⟩ := (hD.eff e).1 he; exact (List.getElem?_eq_some_iff.1 hx).1
  have hlisted : ∀ i, (Array.replicate ops.size false).getD i false = false := fun i => by
    rw [Array.getD_eq_getD_getElem?]
    by_cases hi : i < ops.size
    · simp [hi]
    · simp [hi]
  have hcount : (E.countP fun i => (Array.replicate ops.size false).getD i false) = 0 := by
    rw [List.countP_eq_zero]; intro e _; rw [hlisted]; simp
  have hmid0 : Mid P l σ.next T V ι σ w.drew (fun i => (Array.replicate ops.size false).getD i false) 0 (S 0) ι w.drew := by
    refine ⟨hRs, hla, by rw [s0]; exact Nat.le_refl _, fun i ao hi hc hL => ?_, fun i ao x hi => absurd hi (Nat.not_lt_zero _), fun i ao _ hi hc => ⟨?_, fun hL => by rw [hlisted] at hL; cases hL⟩⟩
    · exact hR.none_next (Nat.le_add_right _ _)
    · rw [s0]; exact hR.fresh _ (Nat.le_add_right _ _)
  have hmid : Mid P l σ.next T V ι σ w.drew (fun i => (Array.replicate ops.size false).getD i false) (posD E l.length 0) (S (posD E l.length 0)) ι w.drew := by
    refine hmid0.walk hD rfl (Nat.zero_le _) (pos_le hE) fun i ao _ hi hil => .inl fun h3 => ?_
    have hiE : i ∈ E := (hD.eff i).2 ⟨ao, hil, h3⟩
    obtain ⟨j, hj⟩ := List.mem_iff_getElem?.1 hiE
    have hpos : posD E l.length 0 ≤ i := by
      unfold posD
      rw [List.getD_eq_getElem?_getD]
      cases j with
      | zero => rw [hj]; exact Nat.le_refl _
      | succ j =>
        obtain ⟨hx, rfl⟩ := List.getElem?_eq_some_iff.1 hj
        have h0 : 0 < E.length := by omega
        rw [List.getElem?_eq_getElem h0]
        exact Nat.le_of_lt (List.pairwise_iff_getElem.1 hD.sorted 0 (j + 1) h0 hx (by omega))
    omega
  have hinv : InvD P N ops l E σ.next T S V ι σ w.drew a.defers (Array.replicate ops.size false) ι ts a w.drew := by
    refine ⟨by simp, fun i o _ hL => ?_, by rw [hcount]; exact hmid, hT, fun t _ => by rw [t0], fun t j aj _ _ hL => ?_, rfl⟩
    · change (Array.replicate ops.size false).getD i false = true at hL
      rw [hlisted] at hL; cases hL
    · rw [hlisted] at hL; cases hL
  refine draw_any (ds := a.defers) hF.wide hD (fun i o ao ho hao => ?_) hR' rfl (fun ι' a' w' e1 e2 e3 e4 => ?_) ops.size _ ι ts a _ ?_ hinv
  · obtain ⟨ao', h1, h2⟩ := hD.op i o ho
    rw [hao] at h1; injection h1 with h1; subst h1
    exact op_ok hs hF (oper_ok h2).1
  · rw [sn] at e1 e2
    rw [tn] at e3
    exact hQ ι' a' w' ⟨e1.ext, e1.new, e1.next, e1.ghost, e1.dead, e1.size, e1.frame, e1.os, e1.tape, e1.output⟩ e2 e3 e4
  · exact Nat.le_trans List.countP_le_length (by simp)
end
end Go.Av

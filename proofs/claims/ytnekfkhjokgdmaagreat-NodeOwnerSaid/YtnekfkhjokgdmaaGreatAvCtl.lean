/-
  Av: regions, codes and calls of the small machine are the model's.
-/
import Derived.Test.YtnekfkhjokgdmaaGreatAvDraw2
import Derived.RangeFuncLeaves
import Derived.Sort.LoopGhostIn
set_option linter.unusedVariables false
namespace Go.Av

def AX.exit_ : AX → Exit
  | .normal => .normal
  | .exit id => .exit id
  | .ret => .ret

/-- Marks of loops over functions: their blocks are nobody's, and none lies below 'm'. -/
def MK (m : Nat) (ι : Emb) (w : World) (ds : List Deferred) : Prop :=
  ∀ d ∈ ds, ∃ r, d = { target := .collected r, args := #[] } ∧ m ≤ r ∧ r < w.heap.size ∧ w.heap[r]? = some (.deferred (some [])) ∧ ∀ b, ι b ≠ some r
def Ret (P : Program) (ι : Emb) (σ : AS) (w : World) (σ' : AS) (v : AV) : Ending → World → Prop := fun e w' => ∃ u ι', e = .returned u ∧ Later ι σ w ι' σ' w' ∧ R P ι' σ' w' ∧ VR ι' v u

def Opens (P : Program) (f : FuncId) : Prop := ∃ fn, P.funcs[f]? = some fn ∧ (fn.name == "runtime.NumGoroutine") = false ∧ fn.body.isNone = false

structure DS (m : Nat) (ι : Emb) (w : World) (ds : List Deferred) : Prop where
  mks : MK m ι w ds
  once : ds.Pairwise fun d d' => d.target ≠ d'.target

/-- What a code comes to. -/
def CPost (P : Program) (N m : Nat) (ι : Emb) (σ : AS) (w : World) (ax : AX) (ts' : TM) (σ' : AS) : Exit → Act → World → Prop := fun e a' w' =>
  ∃ ι', e = ax.exit_ ∧ Later ι σ w ι' σ' w' ∧ R P ι' σ' w' ∧ TR N ι' ts' a'.tmps ∧ DS m ι' w' a'.defers

structure LvOK (P : Program) (s : Lv) : Prop where
  call : ∀ f args σ v σ', s.call f args σ = some (v, σ') → ∀ ι w vs, R P ι σ w → VRL ι args vs → Opens P f ∧ CallsIn Fence.wide 0 P f vs.toArray w (Ret P ι σ w σ' v)
  code : ∀ N c ac ts σ ax ts' σ', cCode P N c = some ac → s.code ac ts σ = some (ax, ts', σ') → ∀ F, (F = Fence.wide ∨ (∃ l, F = Fence.wide.inRound l) ∧ noRf ac = true) →
    ∀ ι a w m, R P ι σ w → TR N ι ts a.tmps → DS m ι w a.defers → m ≤ w.heap.size → c.wpIn F 0 P (CPost P N m ι σ w ax ts' σ') a w

section
variable {P : Program} {ι ι' : Emb} {σ σ' : AS} {w w' : World} {s : Lv} {N m : Nat}

theorem wide_wide : Wide Fence.wide := ⟨fun _ => trivial, rfl⟩
theorem wide_round (l : Nat) : Wide (Fence.wide.inRound l) := ⟨fun _ => trivial, rfl⟩

theorem DS.later {ds : List Deferred} (h : DS m ι w ds) (hl : Later ι σ w ι' σ' w') : DS m ι' w' ds := by
  refine ⟨fun d hd => ?_, h.once⟩
  obtain ⟨r, h1, h2, h3, h4, h5⟩ := h.mks d hd
  refine ⟨r, h1, h2, Nat.lt_of_lt_of_le h3 hl.size, ?_, fun b hb => ?_⟩
  · rw [hl.frame r h3 (fun b _ => h5 b)]; exact h4
  · rcases hl.new b r hb with h6 | ⟨_, h7 | ⟨b', _, h8⟩⟩
    · exact h5 b h6
    · omega
    · exact h5 b' h8

/-- The heap has grown, or changed where nobody looks. -/
theorem R.other (h : R P ι σ w) (hsz : w.heap.size ≤ w'.heap.size) (hot : ∀ b c, σ.live b → ι b = some c → w'.heap[c]? = w.heap[c]?) : R P ι σ w' :=
  ⟨fun b c hb => ⟨(h.lt b c hb).1, Nat.lt_of_lt_of_le (h.lt b c hb).2 hsz⟩, h.fresh, h.inj, fun b c o hb hg => by
    obtain ⟨o', h1, h2⟩ := h.obj b c o hb hg
    exact ⟨o', by rw [hot b c ⟨o, hg⟩ hb]; exact h1, h2⟩⟩

/-! ### Calls -/
theorem run_callFunc {f : FuncId} (h : Opens P f) (args : Array Value) (w : World) : (callFunc f args).run P w = .ok (.enter f args) w := by
  obtain ⟨fn, h1, h2, h3⟩ := h
  have h2' : ¬ fn.name = "runtime.NumGoroutine" := by simpa using h2
  have h3' : ¬ fn.body = none := fun e => by rw [e] at h3; cases h3
  simp [callFunc, h1, h2', h3']

theorem VR.fn_inv {f : FuncId} {first cap : List AV} {u : Value} (h : VR ι (.fn f first cap) u) : ∃ fs cs, u = .func (.func f) fs.toArray cs.toArray ∧ VRL ι first fs ∧ VRL ι cap cs := by cases h with | fn h1 h2 => exact ⟨_, _, rfl, h1, h2⟩
theorem VR.yld_inv {b : Nat} {u : Value} (h : VR ι (.yld b) u) : ∃ c, ι b = some c ∧ u = .func (.yield c) #[] #[] := by cases h with | yld h => exact ⟨_, h, rfl⟩


/-- A block of the world's that is nobody's for now: 'b' was there, and will be again. -/
structure Own (ι : Emb) (σ : AS) (w : World) (b c : Nat) : Prop where
  blk : ι b = some c
  dead : σ.get b = none
  lt : c < w.heap.size
  no : ∀ b', σ.live b' → ι b' ≠ some c
  nlt : b < σ.next
theorem Own.later {b c : Nat} (h : Own ι σ w b c) (hR : R P ι σ w) (hl : Later ι σ w ι' σ' w') : Own ι' σ' w' b c ∧ w'.heap[c]? = w.heap[c]? := by
  refine ⟨⟨(hl.ext _ _ h.blk).1, hl.dead b h.nlt h.dead, Nat.lt_of_lt_of_le h.lt hl.size, fun b' hl' hb' => ?_, Nat.lt_of_lt_of_le h.nlt hl.next⟩, hl.frame c h.lt h.no⟩
  rcases hl.new b' c hb' with h6 | ⟨_, h7 | ⟨b'', h8, h9⟩⟩
  · refine h.no b' ?_ h6
    cases hgb : σ.get b' with
    | some o => exact ⟨o, hgb⟩
    | none =>
      obtain ⟨o, ho⟩ := hl'
      rw [hl.dead b' (hR.lt b' c h6).1 hgb] at ho; cases ho
  · exact absurd h7 (Nat.not_le_of_lt h.lt)
  · exact h.no b'' h8 h9

/-- Only the cell 'c' is another. -/
structure But (w w' : World) (c : Nat) : Prop where
  size : w'.heap.size = w.heap.size
  rest : ∀ d, d ≠ c → w'.heap[d]? = w.heap[d]?
  os : w'.os = w.os
  tape : w'.tape = w.tape
  output : w'.output = w.output
theorem R.but {c : Nat} (h : R P ι σ w) (hb : But w w' c) (hno : ∀ b', σ.live b' → ι b' ≠ some c) : R P ι σ w' :=
  h.other (Nat.le_of_eq hb.size.symm) fun b d hl hd => hb.rest d fun e => hno b hl (e ▸ hd)
theorem Own.but {b c d : Nat} (h : Own ι σ w b c) (hb : But w w' d) : Own ι σ w' b c := ⟨h.blk, h.dead, by rw [hb.size]; exact h.lt, h.no, h.nlt⟩
theorem Later.unkill {b c : Nat} {w1 : World} (hb : ι b = some c) (hlv : σ.live b) (h : Later ι (σ.put b none) w ι' σ' w1) (hbut : But w1 w' c) : Later ι σ w ι' σ' w' := by
  have lvk : ∀ x, (σ.put b none).live x → σ.live x := fun x ⟨y, hy⟩ => by
    rw [AS.get_put] at hy
    split at hy
    · cases hy
    · exact ⟨y, hy⟩
  refine ⟨h.ext, fun x y hxy => ?_, h.next, fun x hx hn => ?_, fun x hx hn => ?_, by rw [hbut.size]; exact h.size, fun d hd hf => ?_, hbut.os.trans h.os, hbut.tape.trans h.tape, hbut.output.trans h.output⟩
  · rcases h.new x y hxy with h1 | ⟨h1, h2 | ⟨b', h2, h3⟩⟩
    · exact .inl h1
    · exact .inr ⟨h1, .inl h2⟩
    · exact .inr ⟨h1, .inr ⟨b', lvk b' h2, h3⟩⟩
  · have hne : x ≠ b := by rintro rfl; rw [hb] at hn; cases hn
    rw [h.ghost x hx hn, AS.get_put, if_neg hne]
  · have hne : x ≠ b := by rintro rfl; obtain ⟨o, ho⟩ := hlv; rw [hn] at ho; cases ho
    exact h.dead x hx (by rw [AS.get_put, if_neg hne]; exact hn)
  · have hne : d ≠ c := by rintro rfl; exact hf b hlv hb
    rw [hbut.rest d hne]
    exact h.frame d hd fun x hx => hf x (lvk x hx)
theorem Later.reput {b c : Nat} {w1 : World} {x : AObj} (hb : ι b = some c) (hlv : σ.live b) (h : Later ι σ w ι' σ' w1) (hbut : But w1 w' c) : Later ι σ w ι' (σ'.put b (some x)) w' := by
  refine ⟨h.ext, h.new, h.next, fun y hy hn => ?_, fun y hy hn => ?_, by rw [hbut.size]; exact h.size, fun d hd hf => ?_, hbut.os.trans h.os, hbut.tape.trans h.tape, hbut.output.trans h.output⟩
  · have hne : y ≠ b := by rintro rfl; rw [hb] at hn; cases hn
    rw [AS.get_put, if_neg hne]; exact h.ghost y hy hn
  · have hne : y ≠ b := by rintro rfl; obtain ⟨o, ho⟩ := hlv; rw [hn] at ho; cases ho
    rw [AS.get_put, if_neg hne]; exact h.dead y hy hn
  · have hne : d ≠ c := by rintro rfl; exact hf b hlv hb
    rw [hbut.rest d hne]; exact h.frame d hd hf

theorem run_getLoop {c : Nat} {r : Loop} (h : w.heap[c]? = some (.loop r)) : (Instr.getLoop c).run P w = .ok r w := by
  simp [Instr.getLoop, getObj, Sem.run, h]
/-- The world with another object at 'c'. -/
def setAtW (w : World) (c : Nat) (o : Obj) : World := { w with heap := w.heap.setIfInBounds c o }
theorem but_set (w : World) (c : Nat) (o : Obj) : But w (setAtW w c o) c :=
  ⟨by simp [setAtW], fun d hd => by simp [setAtW, Ne.symm hd], rfl, rfl, rfl⟩
theorem set_at (w : World) {c : Nat} (o : Obj) (h : c < w.heap.size) : (setAtW w c o).heap[c]? = some o := by simp [setAtW, h]
theorem run_setLoop {c : Nat} {r : Loop} (o : Obj) (h : w.heap[c]? = some (.loop r)) : (setObj c o).run P w = .ok () (setAtW w c o) := by
  simp [setObj, Sem.run, h, setAtW]
theorem run_beginRound {c : Nat} {r : Loop} (h : w.heap[c]? = some (.loop r)) (hr : r.state = .ready) : (Instr.beginRound c).run P w = .ok () (setAtW w c (.loop { r with state := .busy })) := by
  simp only [Instr.beginRound, Sem.run_bind, run_getLoop h, Result.andThen_ok, run_setLoop _ h, hr, Sem.run_pure]
theorem run_endRound {c : Nat} {r : Loop} (j : Option Code) (h : w.heap[c]? = some (.loop r)) : (Instr.endRound c j).run P w = .ok (.bool j.isNone) (setAtW w c (.loop { r with state := if j.isNone then .ready else .done, pending := j })) := by
  simp only [Instr.endRound, Sem.run_bind, run_getLoop h, Result.andThen_ok, run_setLoop _ h, Sem.run_pure]
theorem run_endLoop {c : Nat} {r : Loop} (h : w.heap[c]? = some (.loop r)) (hr : (r.state == .busy) = false) : (Instr.endLoop c).run P w = .ok r.pending (setAtW w c (.loop { r with state := .exhausted })) := by
  simp only [Instr.endLoop, Sem.run_bind, run_getLoop h, Result.andThen_ok, run_setLoop _ h, Sem.run_pure, hr, Bool.false_eq_true, if_false]

theorem bind_ok {ts ts0 : TM} : ∀ {ps : List Nat} {as : List AV} {vs : List Value} {tmps : Array Value}, bindA ts ps as = some ts0 → VRL ι as vs → TR N ι ts tmps → (∀ d ∈ ps, d < N) →
    as.length = ps.length ∧ TR N ι ts0 ((ps.zip vs).foldl (fun tmps (t, a) => tmps.setIfInBounds t a) tmps)
  | [], [], vs, tmps, h, hv, ht, hp => by
    injection h with h; subst h
    cases hv
    exact ⟨rfl, ht⟩
  | p :: ps, a :: as, vs, tmps, h, hv, ht, hp => by
    cases hv with
    | cons h1 h2 =>
    have := bind_ok (ts := ts.put p a) (tmps := tmps.setIfInBounds p _) h h2 (ht.put (hp p (by simp)) h1) (fun d hd => hp d (by simp [hd]))
    exact ⟨by simp [this.1], by simpa using this.2⟩
  | [], _ :: _, _, _, h, _, _, _ => by simp [bindA] at h
  | _ :: _, [], _, _, h, _, _, _ => by simp [bindA] at h

theorem DS.but {ds : List Deferred} {b c : Nat} (h : DS m ι w ds) (hb : But w w' c) (hc : ι b = some c) : DS m ι w' ds := by
  refine ⟨fun d hd => ?_, h.once⟩
  obtain ⟨r, h1, h2, h3, h4, h5⟩ := h.mks d hd
  exact ⟨r, h1, h2, by rw [hb.size]; exact h3, by rw [hb.rest r (fun e => h5 b (e ▸ hc))]; exact h4, h5⟩
theorem DS.nil (m : Nat) (ι : Emb) (w : World) : DS m ι w [] := ⟨fun d hd => by (cases hd), List.Pairwise.nil⟩

/-- One round. -/
theorem round_ok (hs : LvOK P s) {b c : Nat} {args : List AV} {v : AV} (h : roundA s b args σ = some (v, σ')) {vs : List Value} (hR : R P ι σ w) (hb : ι b = some c) (hv : VRL ι args vs) :
    ∃ r, w.heap[c]? = some (.loop r) ∧ vs.length = r.params.size ∧
      RoundIn Fence.wide 0 P c r.fn ((r.params.toList.zip vs).foldl (fun tmps (t, a) => tmps.setIfInBounds t a) r.tmps) r.assign r.body w (Ret P ι σ w σ' v) := by
  unfold roundA at h
  split at h <;> try (cases h; done)
  rename_i ts ps asg body hg
  split at h <;> try (cases h; done)
  rename_i ts0 hbind
  split at h <;> try (cases h; done)
  rename_i ts1 σ1 hasg
  obtain ⟨o', hc, N, r, rfl, hL⟩ := hR.obj b c _ hb hg
  obtain ⟨hlen, hT⟩ := bind_ok hbind hv hL.tmps hL.inN
  have hclt := (hR.lt b c hb).2
  have hlv : σ.live b := ⟨_, hg⟩
  have hown : ∀ b', σ.live b' → ι b' = some c → b' = b := fun b' hl' hb' => by
    rcases hR.inj b' b c hl' hlv hb' hb with h1 | ⟨_, ⟨p, q, x, h2⟩⟩
    · exact h1
    · rw [hg] at h2; cases h2
  have hkill : R P ι (σ.put b none) w := hR.kill b
  have hO : Own ι (σ.put b none) w b c := by
    refine ⟨hb, by rw [AS.get_put, if_pos rfl], hclt, fun b' ⟨y, hy⟩ hb' => ?_, (hR.lt b c hb).1⟩
    rw [AS.get_put] at hy
    split at hy
    · cases hy
    · rename_i e; exact e (hown b' ⟨y, hy⟩ hb')
  refine ⟨r, hc, by rw [← hv.len, hlen, ← hL.params]; simp, ?_⟩
  rw [hL.params]
  refine roundIn_of_wpIn trivial ?_
  refine wpIn_mono (hs.code N r.assign asg ts0 _ _ ts1 σ1 hL.asg_ hasg (Fence.wide.inRound c) (.inr ⟨⟨c, rfl⟩, hL.nest.1⟩) ι { tmps := _, defers := [] } w 0 hkill hT (DS.nil _ _ _) (Nat.zero_le _)) fun e a1 w1 hp => ?_
  obtain ⟨ι1, rfl, la1, hR1, hT1, hD1⟩ := hp
  obtain ⟨hO1, hh1⟩ := hO.later hkill la1
  rw [hc] at hh1
  refine ⟨_, run_beginRound hh1 (hL.live rfl).1, ?_⟩
  have hbut := but_set w1 c (.loop { r with state := .busy })
  have hR2 := hR1.but hbut hO1.no
  have hO2 := hO1.but hbut
  have hh2 := set_at w1 (.loop { r with state := .busy }) hO1.lt
  have la2 : Later ι σ w ι1 σ1 (setAtW w1 c (.loop { r with state := .busy })) := la1.unkill hb hlv hbut
  -- the body, left in whatever way
  have fin : ∀ {ax : AX} {ts2 : TM} {σ2 : AS} (x : AObj) (t : Bool) (j : Option Code), s.code body ts1 σ1 = some (ax, ts2, σ2) → some (AV.bool t, σ2.put b (some x)) = some (v, σ') → t = j.isNone →
      (∀ ι3, Ext ι ι3 → OR P ι3 b x (.loop { r with state := if j.isNone then .ready else .done, pending := j })) →
      (∀ a3 w3, (∃ u w4, (Instr.endRound c j).run P w3 = .ok u w4 ∧ Ret P ι σ w σ' v (.returned u) w4) → roundPost P c (Ret P ι σ w σ' v) ax.exit_ a3 w3) →
      r.body.wpIn (Fence.wide.inRound c) 0 P (roundPost P c (Ret P ι σ w σ' v)) a1 (setAtW w1 c (.loop { r with state := .busy })) := fun {ax ts2 σ2} x t j hbody hres ht hx hpost => by
    injection hres with hres
    injection hres with hv' hσ'
    subst hv' hσ' ht
    refine wpIn_mono (hs.code N r.body body ts1 σ1 _ ts2 σ2 hL.body_ hbody (Fence.wide.inRound c) (.inr ⟨⟨c, rfl⟩, hL.nest.2⟩) ι1 a1 _ 0 hR2 hT1 (hD1.but hbut hO1.blk) (Nat.zero_le _)) fun e a3 w3 hp => ?_
    · obtain ⟨ι3, rfl, la3, hR3, hT3, _⟩ := hp
      obtain ⟨hO3, hh3⟩ := hO2.later hR2 la3
      rw [hh2] at hh3
      refine hpost a3 w3 ⟨_, _, run_endRound j hh3, _, ι3, rfl, ?_, ?_, .bool _⟩
      · exact (la2.trans (fun b c hb => (hR.lt b c hb).1) la3).reput hb hlv (but_set _ _ _)
      · refine (hR3.but (but_set _ _ _) hO3.no).tell hO3.nlt hO3.dead fun c' hc' => ?_
        rw [hO3.blk] at hc'; injection hc' with hc'; subst hc'
        exact ⟨⟨_, set_at w3 _ hO3.lt, hx ι3 (la2.ext.trans la3.ext)⟩, fun b' hl' hb' => absurd hb' (hO3.no b' hl')⟩
  split at h <;> try (cases h; done)
  · rename_i hbody
    refine fin _ _ none hbody h rfl (fun ι3 hx => ⟨N, _, rfl, ⟨hL.tmps.ext hx, hL.inN, hL.params, hL.asg_, hL.body_, hL.nest, fun _ => ⟨rfl, rfl⟩, fun ax h => by cases h⟩⟩) fun a3 w3 h => h
  · rename_i hbody
    refine fin _ _ (some _) hbody h rfl (fun ι3 hx => ⟨N, _, rfl, ⟨hL.tmps.ext hx, hL.inN, hL.params, hL.asg_, hL.body_, hL.nest, fun h => by (cases h), fun ax h => by injection h with h; subst h; exact ⟨rfl, rfl⟩⟩⟩) fun a3 w3 h => h
  · rename_i hbody
    refine fin _ _ (some _) hbody h rfl (fun ι3 hx => ⟨N, _, rfl, ⟨hL.tmps.ext hx, hL.inN, hL.params, hL.asg_, hL.body_, hL.nest, fun h => by (cases h), fun ax h => by injection h with h; subst h; exact ⟨rfl, rfl⟩⟩⟩) fun a3 w3 h => h
end
end Go.Av

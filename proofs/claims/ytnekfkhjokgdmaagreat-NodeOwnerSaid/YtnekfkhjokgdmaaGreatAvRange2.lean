/-
  Av: a loop over a map: each entry once, in whatever order.
-/
import Derived.Test.YtnekfkhjokgdmaaGreatAvRange
set_option linter.unusedVariables false
namespace Go.Av
open Go.ChangeMaps (setBlock)

section
variable {P : Program} {ι ι' : Emb} {σ σ' : AS} {w w' : World} {s : Lv} {N m : Nat}

/-- While a loop over a map goes on: the map's block and the iterator's are nobody's. -/
structure Iter (ι : Emb) (σ : AS) (w : World) (b bm bit r : Nat) (es : Array MapEntry) (clock : Nat) (seen : Array Nat) (c0 : Nat) : Prop where
  map : Own ι σ w b bm
  mapv : w.heap[bm]? = some (.map es clock)
  it : Own ι σ w bit r
  itv : w.heap[r]? = some (.mapIter (some bm) clock seen c0)
  le : clock ≤ c0
theorem Iter.later {b bm bit r : Nat} {es : Array MapEntry} {clock : Nat} {seen : Array Nat} {c0 : Nat} (h : Iter ι σ w b bm bit r es clock seen c0) (hR : R P ι σ w) (hl : Later ι σ w ι' σ' w') : Iter ι' σ' w' b bm bit r es clock seen c0 := by
  obtain ⟨h1, h2⟩ := h.map.later hR hl
  obtain ⟨h3, h4⟩ := h.it.later hR hl
  exact ⟨h1, h2.trans h.mapv, h3, h4.trans h.itv, h.le⟩

theorem range_start {b bm : Nat} (hR : R P ι σ w) (hb : ι b = some bm) {l : List (AV × AV)} (hg : σ.get b = some (.amap l)) :
    ∃ es clock, w.heap[bm]? = some (.map es clock) ∧ MRL ι l es.toList ∧ Born es.toList clock ∧
      R P (at_ ι σ.next w.heap.size 0) (σ.put b none).skip (w.alloc (.mapIter (some bm) clock #[] clock)) ∧ Later ι σ w (at_ ι σ.next w.heap.size 0) (σ.put b none).skip (w.alloc (.mapIter (some bm) clock #[] clock)) ∧
      Iter (at_ ι σ.next w.heap.size 0) (σ.put b none).skip (w.alloc (.mapIter (some bm) clock #[] clock)) b bm σ.next w.heap.size es clock #[] clock := by
  obtain ⟨o, ho, es, clock, rfl, hm, hbn⟩ := hR.obj b bm _ hb hg
  refine ⟨es, clock, ho, hm, hbn, ?_⟩
  have hbl := hR.lt b bm hb
  have hlv : σ.live b := ⟨_, hg⟩
  have hs1 : (w.alloc (.mapIter (some bm) clock #[] clock)).heap.size = w.heap.size + 1 := by show (w.heap.push _).size = _; simp
  have hold : ∀ c, c < w.heap.size → (w.alloc (.mapIter (some bm) clock #[] clock)).heap[c]? = w.heap[c]? := fun c hc => heap_alloc_old w _ hc
  have hR1 : R P ι (σ.put b none) (w.alloc (.mapIter (some bm) clock #[] clock)) := (hR.kill b).other (by omega) fun x c _ hx => hold c (hR.lt x c hx).2
  have hno : ∀ x, (σ.put b none).live x → ι x ≠ some w.heap.size := fun x _ e => Nat.lt_irrefl _ (hR.lt x _ e).2
  have hR2 := hR1.reserve (c := w.heap.size) (by omega) 0 hno
  have hx := hR.ext_at w.heap.size 0
  have hlvk : ∀ x, (σ.put b none).skip.live x → σ.live x ∧ x ≠ b ∧ x ≠ σ.next := fun x ⟨y, hy⟩ => by
    rw [AS.get_skip, AS.get_put] at hy
    split at hy
    · cases hy
    · rename_i e
      refine ⟨⟨y, hy⟩, e, ?_⟩
      rintro rfl
      rw [hR.fresh _ (Nat.le_refl _)] at hy; cases hy
  refine ⟨hR2, ⟨hx, fun x d hd => ?_, by simp, fun x hl hn => ?_, fun x hl hn => ?_, by omega, fun c hc _ => hold c hc, rfl, rfl, rfl⟩, ⟨⟨(hx _ _ hb).1, ?_, by omega, fun x hl e => ?_, by simp; omega⟩, ?_, ⟨?_, ?_, by omega, fun x hl e => ?_, by simp⟩, heap_alloc_new w _, Nat.le_refl _⟩⟩
  · rw [at_blk] at hd
    split at hd
    · rename_i e; injection hd with hd; subst e hd; exact .inr ⟨Nat.le_refl _, .inl (Nat.le_refl _)⟩
    · exact .inl hd
  · rw [AS.get_skip, AS.get_put, if_neg (by rintro rfl; rw [hb] at hn; cases hn)]
  · rw [AS.get_skip, AS.get_put]; split; rfl; exact hn
  · rw [AS.get_skip, AS.get_put, if_pos rfl]
  · obtain ⟨h1, h2, h3⟩ := hlvk x hl
    rw [at_blk, if_neg h3] at e
    rcases hR.inj x b bm h1 hlv e hb with h4 | ⟨_, ⟨p, q, z, h5⟩⟩
    · exact h2 h4
    · rw [hg] at h5; cases h5
  · rw [hold bm hbl.2]; exact ho
  · rw [at_blk, if_pos rfl]
  · rw [AS.get_skip, AS.get_put, if_neg (by omega)]; exact hR.fresh _ (Nat.le_refl _)
  · obtain ⟨h1, h2, h3⟩ := hlvk x hl
    rw [at_blk, if_neg h3] at e
    exact Nat.lt_irrefl _ (hR.lt x _ e).2

theorem range_end {b bm bit r : Nat} {es : Array MapEntry} {clock : Nat} {seen : Array Nat} {c0 : Nat} {l : List (AV × AV)} (hb : ι b = some bm) (hlv : σ.live b) (hL : Later ι σ w ι' σ' w') (hR : R P ι' σ' w') (hI : Iter ι' σ' w' b bm bit r es clock seen c0) (hm : MRL ι' l es.toList) (hbn : Born es.toList clock) :
    R P ι' (σ'.put b (some (.amap l))) w' ∧ Later ι σ w ι' (σ'.put b (some (.amap l))) w' := by
  refine ⟨hR.tell hI.map.nlt hI.map.dead fun c hc => ?_, ⟨hL.ext, hL.new, hL.next, fun x hl hn => ?_, fun x hl hn => ?_, hL.size, hL.frame, hL.os, hL.tape, hL.output⟩⟩
  · rw [hI.map.blk] at hc; injection hc with hc; subst hc
    exact ⟨⟨_, hI.mapv, es, clock, rfl, hm, hbn⟩, fun b' hl' hb' => absurd hb' (hI.map.no b' hl')⟩
  · rw [AS.get_put, if_neg (by rintro rfl; rw [hb] at hn; cases hn)]; exact hL.ghost x hl hn
  · rw [AS.get_put, if_neg (by rintro rfl; obtain ⟨o, ho⟩ := hlv; rw [hn] at ho; cases ho)]; exact hL.dead x hl hn

theorem but_block {r : Nat} (w : World) (o : Obj) : But w (setBlock w r o) r := ⟨by simp [setBlock], fun d hd => by simp [setBlock, Ne.symm hd], rfl, rfl, rfl⟩

/-- The entries that are left, beside those that were met. -/
structure Met (l : List (AV × AV)) (es : List MapEntry) (seen : List Nat) (S : List (AV × AV)) (k : Nat) : Prop where
  ex : ∃ T U : List ((AV × AV) × MapEntry), (T ++ U).Perm (l.zip es) ∧ S = T.map (·.1) ∧ seen = T.map (·.2.born) ∧ U.length = k
theorem Met.zero {l : List (AV × AV)} {es : List MapEntry} : Met l es [] [] (l.zip es).length := ⟨[], l.zip es, List.Perm.refl _, rfl, rfl, rfl⟩
theorem zip_mem {l : List (AV × AV)} {es : List MapEntry} (hm : MRL ι l es) {e : MapEntry} (he : e ∈ es) : ∃ p, (p, e) ∈ l.zip es := by
  obtain ⟨i, hi⟩ := List.mem_iff_getElem?.1 he
  have hlt : i < es.length := (List.getElem?_eq_some_iff.1 hi).1
  have : i < l.length := by rw [hm.len]; exact hlt
  refine ⟨l[i], List.mem_iff_getElem?.2 ⟨i, ?_⟩⟩
  rw [List.getElem?_zip_eq_some]
  exact ⟨List.getElem?_eq_getElem this, hi⟩
theorem zip_rel {l : List (AV × AV)} {es : List MapEntry} (hm : MRL ι l es) {p : AV × AV} {e : MapEntry} (h : (p, e) ∈ l.zip es) : p ∈ l ∧ e ∈ es ∧ VR ι p.1 e.key ∧ VR ι p.2 e.val := by
  obtain ⟨i, hi⟩ := List.mem_iff_getElem?.1 h
  rw [List.getElem?_zip_eq_some] at hi
  obtain ⟨e', h1, h2, h3⟩ := hm.get hi.1
  rw [hi.2] at h1; injection h1 with h1; subst h1
  exact ⟨List.mem_iff_getElem?.2 ⟨i, hi.1⟩, List.mem_iff_getElem?.2 ⟨i, hi.2⟩, h2, h3⟩
theorem Met.done {l : List (AV × AV)} {es : Array MapEntry} {seen : Array Nat} {S : List (AV × AV)} {k clock : Nat} (h : Met l es.toList seen.toList S k) (hm : MRL ι l es.toList) (hbn : Born es.toList clock) (hz : (leftOf es seen).size = 0) : S.Perm l := by
  obtain ⟨T, U, h1, h2, h3, h4⟩ := h.ex
  have hsnd : ((T ++ U).map (·.2.born)).Perm (es.toList.map (·.born)) := by
    have := h1.map (fun x => x.2.born)
    refine this.trans (List.Perm.of_eq ?_)
    have e1 : (l.zip es.toList).map (fun x => x.2.born) = ((l.zip es.toList).map Prod.snd).map (·.born) := by rw [List.map_map]; rfl
    rw [e1, List.map_snd_zip (by rw [hm.len]; exact Nat.le_refl _)]
  have hnd : ((T ++ U).map (·.2.born)).Nodup := hsnd.nodup_iff.2 hbn.2
  have hU : U = [] := by
    cases U with
    | nil => rfl
    | cons u U =>
      exfalso
      have hmem : u ∈ l.zip es.toList := h1.mem_iff.1 (by simp)
      have hue : u.2 ∈ es.toList := (zip_rel hm (p := u.1) (e := u.2) hmem).2.1
      have hns : seen.contains u.2.born = false := by
        rw [Array.contains_eq_mem, decide_eq_false_iff_not]
        intro hin
        have hin' : u.2.born ∈ seen.toList := by simpa using hin
        rw [h3] at hin'
        rw [List.map_append, List.nodup_append] at hnd
        exact hnd.2.2 _ hin' _ (by simp) rfl
      have : u.2 ∈ (leftOf es seen) := by
        unfold leftOf
        rw [Array.mem_filter]
        exact ⟨by simpa using hue, by rw [hns]; rfl⟩
      have h0 : leftOf es seen = #[] := Array.eq_empty_of_size_eq_zero hz
      rw [h0] at this
      simp at this
  subst hU
  rw [List.append_nil] at h1
  rw [h2]
  have := h1.map Prod.fst
  rw [List.map_fst_zip (by rw [hm.len]; exact Nat.le_refl _)] at this
  exact this
theorem Met.step {l : List (AV × AV)} {es : Array MapEntry} {seen : Array Nat} {S : List (AV × AV)} {k : Nat} (h : Met l es.toList seen.toList S k) (hm : MRL ι l es.toList) {e : MapEntry} (he : e ∈ (leftOf es seen).toList) :
    ∃ p k', k = k' + 1 ∧ p ∈ l ∧ S.length < l.length ∧ VR ι p.1 e.key ∧ VR ι p.2 e.val ∧ Met l es.toList (seen.push e.born).toList (S ++ [p]) k' := by
  obtain ⟨T, U, h1, h2, h3, h4⟩ := h.ex
  have he' : e ∈ leftOf es seen := by simpa using he
  unfold leftOf at he'
  rw [Array.mem_filter] at he'
  obtain ⟨he1, he2⟩ := he'
  have hns : ¬ e.born ∈ seen.toList := by
    intro hin
    have : seen.contains e.born = true := by rw [Array.contains_eq_mem]; simpa using hin
    rw [this] at he2; cases he2
  obtain ⟨p, hp⟩ := zip_mem hm (by simpa using he1)
  obtain ⟨r1, r2, r3, r4⟩ := zip_rel hm hp
  have hTU : (p, e) ∈ T ++ U := h1.mem_iff.2 hp
  have hU : (p, e) ∈ U := by
    rcases List.mem_append.1 hTU with hT | hU
    · exact absurd (by rw [h3]; exact List.mem_map.2 ⟨_, hT, rfl⟩) hns
    · exact hU
  obtain ⟨U1, U2, rfl⟩ := List.append_of_mem hU
  have hlen : (T ++ (U1 ++ (p, e) :: U2)).length ≤ l.length := by rw [h1.length_eq, List.length_zip]; exact Nat.min_le_left _ _
  refine ⟨p, (U1 ++ U2).length, by simp at h4 ⊢; omega, r1, by rw [h2]; simp at hlen ⊢; omega, r3, r4, ⟨T ++ [(p, e)], U1 ++ U2, ?_, by simp [h2], by simp [h3], rfl⟩⟩
  refine List.Perm.trans ?_ h1
  rw [List.append_assoc]
  exact List.Perm.append_left T (by simpa using (List.perm_middle (a := (p, e)) (l₁ := U1) (l₂ := U2)).symm)

theorem one_oper {ops : Array Oper} {o : Oper} {ao : AOper} (h : cOper P N ops o = some ao) : cOpers P N ops [o] = some [ao] := by
  unfold cOpers
  rw [h]
  rfl
theorem exec_next {o : Oper} {it : Operand} {a : Act} {v : Value} (ho : o.op = .next it false) (h : (Instr.next (a.eval it) false o.type).run P w = .ok v w') : (execOp a.eval o).run P w = .ok (.value v) w' := by
  unfold execOp; rw [ho]
  simp only [Sem.run_bind, h, Result.andThen_ok, Sem.run_pure]
theorem exec_entry {o : Oper} {it : Operand} {a : Act} {v : Value} (ho : o.op = .entry it) (h : (Instr.entry (a.eval it)).run P w = .ok v w') : (execOp a.eval o).run P w = .ok (.value v) w' := by
  unfold execOp; rw [ho]
  simp only [Sem.run_bind, h, Result.andThen_ok, Sem.run_pure]
theorem exec_range {o : Oper} {t : TypeId} {x : Operand} {a : Act} {v : Value} (ho : o.op = .range t x) (h : (Instr.range t (a.eval x)).run P w = .ok v w') : (execOp a.eval o).run P w = .ok (.value v) w' := by
  unfold execOp; rw [ho]
  simp only [Sem.run_bind, h, Result.andThen_ok, Sem.run_pure]

theorem map_loop (hs : LvOK P s) (hmix : P.follows .mixedOrders = true) {n : Nat}
    {bid b1 id3 id4 : Nat} {ops3 ops4 : Array Oper} {o0 o1 q0 : Oper} {os : List Oper} {c5 : Code} {l4 : List AOper} {ac5 : ACode} {tn tk te ti : Nat}
    (h3 : ops3 = #[o0, o1]) (ho0 : o0.op = .next (.tmp ti) false) (hd0 : o0.dst = some tn) (hg0 : o0.guard = none) (hc1 : cOper P N ops3 o1 = some ⟨some tk, .ext (.tmp tn) 0, none⟩)
    (h4 : ops4.toList = q0 :: os) (hq0 : q0.op = .entry (.tmp ti)) (hdq : q0.dst = some te) (hgq : q0.guard = none)
    (hl4 : cOpers P N ops4 os = some l4) (hc5 : cCode P N c5 = some ac5) (hN : tn < N ∧ tk < N ∧ te < N) (hne : ti ≠ tn ∧ ti ≠ tk ∧ tn ≠ tk)
    {l : List (AV × AV)} {bit b bm r clock : Nat} {es : Array MapEntry} (Inv : List (AV × AV) → TM → AS → Prop)
    (hit : ∀ S ts σ, Inv S ts σ → ts.at ti = .ptr bit 0)
    (hstep : ∀ S p ts σ, Inv S ts σ → p ∈ l → S.length < l.length → ∃ ts1 σ1 ts2 σ2, opsA s l4 (((ts.put tn (.tup [.bool true, p.1, p.2])).put tk (.bool true)).put te (.tup [p.1, p.2])) σ = some (ts1, σ1) ∧ codeA s n ac5 ts1 σ1 = some (.normal, ts2, σ2) ∧ Inv (S ++ [p]) ts2 σ2)
    {ι0 : Emb} {σ0 : AS} {w0 : World} {ts : TM} {a : Act} {Q : Exit → Act → World → Prop}
    (hI0 : Inv [] ts σ) (hL0 : Later ι0 σ0 w0 ι σ w) (hlt0 : ∀ b c, ι0 b = some c → b < σ0.next) (hr0 : w0.heap.size ≤ r) (hR0 : R P ι σ w) (hT0 : TR N ι ts a.tmps) (hD0 : DS m ι w a.defers) (hm0 : m ≤ w.heap.size)
    (hIt0 : Iter ι σ w b bm bit r es clock #[] clock) (hml : MRL ι l es.toList) (hbn : Born es.toList clock)
    (hQ : ∀ S ts σ' ι' a' w', S.Perm l → Inv S ts σ' → Later ι0 σ0 w0 ι' σ' w' → R P ι' σ' w' → TR N ι' ((ts.put tn (.tup [.bool false])).put tk (.bool false)) a'.tmps → DS m ι' w' a'.defers →
      (∃ seen c0, Iter ι' σ' w' b bm bit r es clock seen c0) → Ext ι ι' → Q .normal a' w') :
    (Code.block bid (.loop (.seq (.region id3 ops3 false) (.seq (.cond (.tmp tk) .skip (.exit bid)) (.block b1 (.seq (.region id4 ops4 false) c5)))))).wpIn Fence.wide 0 P Q a w := by
  refine wpIn_block ?_
  refine wpIn_loop_ghost (fun k a1 w1 => ∃ S ts1 σ1 ι1 seen c0, Inv S ts1 σ1 ∧ Later ι0 σ0 w0 ι1 σ1 w1 ∧ R P ι1 σ1 w1 ∧ TR N ι1 ts1 a1.tmps ∧ DS m ι1 w1 a1.defers ∧ m ≤ w1.heap.size ∧ Iter ι1 σ1 w1 b bm bit r es clock seen c0 ∧ Met l es.toList seen.toList S k ∧ Ext ι ι1)
    (l.zip es.toList).length ⟨[], ts, σ, ι, #[], clock, hI0, hL0, hR0, hT0, hD0, hm0, hIt0, Met.zero, Ext.refl _⟩ ?_
  intro k a1 w1 ⟨S, ts1, σ1, ι1, seen, c0, hI, hL, hR, hT, hD, hm, hIt, hmet, hx⟩
  have hFF : FF Fence.wide := .inl rfl
  refine wpIn_seq ?_
  refine wpIn_region ?_
  subst h3
  have hrng : List.range (#[o0, o1] : Array Oper).size = [0, 1] := rfl
  rw [hrng]
  have hti : a1.eval (.tmp ti) = .pointer (some ⟨r, 0, none⟩) := by
    have := hT.at_ ti
    rw [hit S ts1 σ1 hI] at this
    obtain ⟨c, h1, h2⟩ := this.ptr_inv
    rw [hIt.it.blk] at h1; injection h1 with h1; subst h1
    exact h2
  have hmap : ∀ x ∈ es.toList, x.born < clock := hbn.1
  have nd0 : ∀ c, o0.op ≠ .defer c := fun c => by rw [ho0]; simp
  have ndq : ∀ c, q0.op ≠ .defer c := fun c => by rw [hq0]; simp
  rcases run_next_at (P := P) w1 o0.type r bm clock c0 seen es clock hIt.itv hIt.mapv hmap hIt.le with ⟨hz, hrun⟩ | ⟨e, he, w2, hw2, hrun⟩
  · -- none is left
    refine raw_step hFF (o := o0) (by simp) hg0 nd0 (exec_next ho0 (by rw [hti]; exact hrun)) ?_
    have hT1 : TR N ι1 (ts1.put tn (.tup [.bool false])) (a1.put o0.dst (.tuple #[.bool false])).tmps := by
      rw [hd0]; exact hT.put hN.1 (.tup (.cons (.bool false) .nil))
    refine ops_from hs hFF [o1] 1 _ ι1 σ1 (ts1.put tn (.tup [.bool false])) _ w1 (more := []) (rest := []) (ts' := (ts1.put tn (.tup [.bool false])).put tk (.bool false)) (σ' := σ1) (by simp) (one_oper hc1) ?_ hR hT1 ?_
    · show (match opA s σ1 _ (.ext (.tmp tn) 0) with | some (v, σ') => _ | none => none) = _
      simp only [opA, execA, exExt, evA, TM.at_put, if_true, List.getElem?_cons_zero]
      rfl
    · intro ι2 a2 w2 e1 e2 e3 e4
      show Exit.then _ _ Exit.normal a2 w2
      refine wpIn_seq ?_
      have hv := e3.at_ tk
      rw [TM.at_put, if_pos rfl] at hv
      refine wpIn_cond_false hv.bool_inv (wpIn_exit ?_)
      show if bid = bid then _ else _
      rw [if_pos rfl]
      have hIt2 := hIt.later hR e1
      exact hQ S ts1 σ1 ι2 a2 w2 (hmet.done (hml.ext hx) hbn hz) hI (hL.trans hlt0 e1) e2 e3 (by rw [e4, put_tmps]; exact hD.later e1) ⟨seen, c0, hIt2⟩ (hx.trans e1.ext)
  · -- one comes out
    obtain ⟨p, k', rfl, hpl, hSl, hv1, hv2, hmet'⟩ := hmet.step (hml.ext hx) he
    have hb2 : But w1 (setBlock w2 r (.mapIter (some bm) clock (seen.push e.born) clock)) r := by
      have := but_block (r := r) w2 (.mapIter (some bm) clock (seen.push e.born) clock)
      rcases hw2 with rfl | rfl
      · exact this
      · exact ⟨this.size, this.rest, this.os, this.tape, this.output⟩
    have hrlt : r < w1.heap.size := hIt.it.lt
    have hitv2 : (setBlock w2 r (.mapIter (some bm) clock (seen.push e.born) clock)).heap[r]? = some (.mapIter (some bm) clock (seen.push e.born) clock) := by
      have : r < w2.heap.size := by rcases hw2 with rfl | rfl <;> exact hrlt
      simp [setBlock, this]
    generalize setBlock w2 r (.mapIter (some bm) clock (seen.push e.born) clock) = w3 at hrun hb2 hitv2
    have hbr : bm ≠ r := by
      rintro rfl
      have := hIt.mapv
      rw [hIt.itv] at this
      cases this
    have hR3 : R P ι1 σ1 w3 := hR.but hb2 hIt.it.no
    have hL3 : Later ι0 σ0 w0 ι1 σ1 w3 := ⟨hL.ext, hL.new, hL.next, hL.ghost, hL.dead, by rw [hb2.size]; exact hL.size, fun c hc hf => by rw [hb2.rest c (by omega)]; exact hL.frame c hc hf, hb2.os.trans hL.os, hb2.tape.trans hL.tape, hb2.output.trans hL.output⟩
    have hD3 : DS m ι1 w3 a1.defers := hD.but hb2 hIt.it.blk
    have hIt3 : Iter ι1 σ1 w3 b bm bit r es clock (seen.push e.born) clock := ⟨hIt.map.but hb2, by rw [hb2.rest bm hbr]; exact hIt.mapv, hIt.it.but hb2, hitv2, Nat.le_refl _⟩
    refine raw_step hFF (o := o0) (by simp) hg0 nd0 (exec_next ho0 (by rw [hti]; exact hrun)) ?_
    have hT1 : TR N ι1 (ts1.put tn (.tup [.bool true, p.1, p.2])) (a1.put o0.dst (.tuple #[.bool true, e.key, e.val])).tmps := by
      rw [hd0]; exact hT.put hN.1 (.tup (.cons (.bool true) (.cons hv1 (.cons hv2 .nil))))
    refine ops_from hs hFF [o1] 1 _ ι1 σ1 (ts1.put tn (.tup [.bool true, p.1, p.2])) _ w3 (more := []) (rest := []) (ts' := (ts1.put tn (.tup [.bool true, p.1, p.2])).put tk (.bool true)) (σ' := σ1) (by simp) (one_oper hc1) ?_ hR3 hT1 ?_
    · show (match opA s σ1 _ (.ext (.tmp tn) 0) with | some (v, σ') => _ | none => none) = _
      simp only [opA, execA, exExt, evA, TM.at_put, if_true, List.getElem?_cons_zero]
      rfl
    · intro ι4 a4 w4 e1 e2 e3 e4
      show Exit.then _ _ Exit.normal a4 w4
      refine wpIn_seq ?_
      have hv := e3.at_ tk
      rw [TM.at_put, if_pos rfl] at hv
      refine wpIn_cond_true hv.bool_inv (wpIn_skip ?_)
      show Code.wpIn _ _ _ _ _ _ _
      refine wpIn_block (wpIn_seq (wpIn_region ?_))
      have hIt4 := hIt3.later hR3 e1
      have hsz4 : List.range ops4.size = 0 :: List.range' 1 os.length := by
        have : ops4.size = os.length + 1 := by rw [← Array.length_toList, h4]; rfl
        rw [this, List.range_eq_range', List.range'_succ]
      rw [hsz4]
      have hti4 : a4.eval (.tmp ti) = .pointer (some ⟨r, 0, none⟩) := by
        have := e3.at_ ti
        rw [TM.at_put, if_neg hne.2.1, TM.at_put, if_neg hne.1, hit S ts1 σ1 hI] at this
        obtain ⟨c, h1, h2⟩ := this.ptr_inv
        rw [hIt4.it.blk] at h1; injection h1 with h1; subst h1
        exact h2
      have hel : e ∈ es.toList := by
        have : e ∈ leftOf es seen := by simpa using he
        unfold leftOf at this
        rw [Array.mem_filter] at this
        simpa using this.1
      have hq : ops4[0]? = some q0 := by rw [← Array.getElem?_toList, h4]; rfl
      refine raw_step hFF hq hgq ndq (exec_entry hq0 (by rw [hti4]; exact run_entry_at w4 r bm clock seen es clock e hIt4.itv hIt4.mapv hel hbn.2)) ?_
      obtain ⟨ts5, σ5, ts6, σ6, s1, s2, s3⟩ := hstep S p ts1 σ1 hI hpl hSl
      have hT5 : TR N ι4 (((ts1.put tn (.tup [.bool true, p.1, p.2])).put tk (.bool true)).put te (.tup [p.1, p.2])) (a4.put q0.dst (.tuple #[e.key, e.val])).tmps := by
        rw [hdq]; exact e3.put hN.2.2 (.tup (.cons (hv1.ext e1.ext) (.cons (hv2.ext e1.ext) .nil)))
      rw [← List.append_nil (List.range' 1 os.length)]
      refine ops_from hs hFF os 1 l4 ι4 σ1 _ _ w4 (more := []) (ts' := ts5) (σ' := σ5) (by rw [h4]; simp) hl4 s1 e2 hT5 ?_
      · intro ι5 a5 w5 f1 f2 f3 f4
        have hD4 : DS m ι4 w4 a4.defers := by rw [e4, put_tmps]; exact hD3.later e1
        have hsz : m ≤ w5.heap.size := Nat.le_trans (Nat.le_trans (by rw [hb2.size]; exact hm) e1.size) f1.size
        refine wpIn_mono (c := c5) (code_ok hs hmix n c5 ac5 hc5 ts5 σ5 _ _ _ s2 Fence.wide (.inl rfl) ι5 a5 w5 m f2 f3 (by rw [f4, put_tmps]; exact hD4.later f1) hsz) fun ee a6 w6 hp => ?_
        obtain ⟨ι6, rfl, g1, g2, g3, g4⟩ := hp
        have hlt1 : ∀ b c, ι1 b = some c → b < σ1.next := fun b c hb => (hR3.lt b c hb).1
        have t5 := e1.trans hlt1 f1
        have t6 := t5.trans hlt1 g1
        exact ⟨k', Nat.lt_succ_self _, S ++ [p], ts6, σ6, ι6, seen.push e.born, clock, s3, hL3.trans hlt0 t6, g2, g3, g4, Nat.le_trans hsz g1.size, (hIt3.later hR3 t6), hmet', hx.trans t6.ext⟩
end
end Go.Av

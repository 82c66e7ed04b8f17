/-
  Av: the operations, further: built values, memory read and written.
-/
import Derived.Test.YtnekfkhjokgdmaaGreatAvOps
set_option linter.unusedVariables false
namespace Go.Av
section
variable {P : Program} {ι : Emb} {σ σ' : AS} {w : World} {ts : TM} {a : Act} {v : AV}

def placeOf (P : Program) (f : Field) : Option (Nat × Nat) := match sizeAt P f.type with | some s => some (f.offset, s) | none => none
theorem places_ok : ∀ (fs : List Field), (∀ f ∈ fs, (sizeAt P f.type).isSome = true) →
    ∃ places, fs.mapM (fun (f : Field) => (P.info? f.type).map fun i => (f.offset, i.size)) = some places ∧ ∀ j : Nat, places[j]? = (fs[j]?).bind (placeOf P)
  | [], _ => ⟨[], rfl, fun j => by simp⟩
  | f :: fs, h => by
    obtain ⟨pl, h1, h2⟩ := places_ok fs (fun g hg => h g (by simp [hg]))
    cases hs : sizeAt P f.type with
    | none => have := h f (by simp); rw [hs] at this; cases this
    | some n =>
      obtain ⟨i, hi, hn⟩ := sizeAt_ok hs
      refine ⟨(f.offset, n) :: pl, by simp [List.mapM_cons, hi, h1, hn], fun j => ?_⟩
      cases j with
      | zero => simp [placeOf, hs]
      | succ j => simpa using h2 j

theorem ok_buildS {o : Oper} {t : TypeId} {parts : Array (Nat × Operand)} {fs : Array Field} {z : List AV} {ps : List (Nat × Nat × Opd)} {r : List AV} (hR : R P ι σ w) (ht : Slots ι ts a) (ho : o.op = .build t parts)
    (hz : zeroOf P t = some z) (hu : P.underlying t = some (.struct fs)) (hs : sized P fs = true) (hp : cParts (structPlace P fs) parts.toList = some ps) (hf : fillA ts ps z = some r) :
    Res P ι σ w σ (.agg r) ((execOp a.eval o).run P w) := by
  obtain ⟨i, zv, hi, hzv, hl, hv, h1⟩ := zeroOf_ok hz
  obtain ⟨pl, h2, h3⟩ := places_ok (P := P) fs.toList (fun f hf => by unfold sized at hs; exact List.all_eq_true.1 hs f hf)
  obtain ⟨cs', h4, h5, _, h6⟩ := fill_ok ht parts.toList ps z r zv.cells hp hf (hv ι) h1
  have e : structPlace P fs = fun j => pl.toArray[j]? := funext fun j => by
    have := h3 j
    simp only [List.getElem?_toArray, this, structPlace, Array.getElem?_toList]
    cases fs[j]? with
    | none => rfl
    | some f => simp only [Option.bind_some, placeOf]; cases sizeAt P f.type <;> rfl
  rw [e] at h4
  refine .pure hR (.agg (cs := cs'.toList) h5 h6) ?_
  unfold execOp; rw [ho]
  have hb : P.built t (parts.map fun (i, x) => (i, a.eval x)).toList = some cs' := by
    unfold Program.built
    simp only [hi, hu, hzv, h2, Array.toList_map]
    exact h4
  simp [run_build w t _ cs' hb]
theorem ok_buildA {o : Oper} {t e : TypeId} {k n : Nat} {parts : Array (Nat × Operand)} {z : List AV} {ps : List (Nat × Nat × Opd)} {r : List AV} (hR : R P ι σ w) (ht : Slots ι ts a) (ho : o.op = .build t parts)
    (hz : zeroOf P t = some z) (hu : P.underlying t = some (.array k e)) (hs : sizeAt P e = some n) (hp : cParts (fun i => some (i * n, n)) parts.toList = some ps) (hf : fillA ts ps z = some r) :
    Res P ι σ w σ (.agg r) ((execOp a.eval o).run P w) := by
  obtain ⟨i, zv, hi, hzv, hl, hv, h1⟩ := zeroOf_ok hz
  obtain ⟨ie, hie, hn⟩ := sizeAt_ok hs
  obtain ⟨cs', h4, h5, _, h6⟩ := fill_ok ht parts.toList ps z r zv.cells hp hf (hv ι) h1
  refine .pure hR (.agg (cs := cs'.toList) h5 h6) ?_
  unfold execOp; rw [ho]
  have hb : P.built t (parts.map fun (i, x) => (i, a.eval x)).toList = some cs' := by
    unfold Program.built
    simp only [hi, hu, hzv, hie, Array.toList_map, hn]
    exact h4
  simp [run_build w t _ cs' hb]

theorem range_repl {zs : List Value} (hpos : 0 < zs.length) : ∀ n, (List.range (n * zs.length)).map (fun i => zs[i % zs.length]!) = (List.replicate n zs).flatten
  | 0 => by simp
  | n + 1 => by
    rw [List.replicate_succ, List.flatten_cons, ← range_repl hpos n, show (n + 1) * zs.length = zs.length + n * zs.length from by rw [Nat.succ_mul, Nat.add_comm], List.range_add, List.map_append, List.map_map]
    congr 1
    · apply List.ext_getElem
      · simp
      · intro i h1 h2
        simp at h1
        simp [Nat.mod_eq_of_lt h1, h1]
    · apply List.map_congr_left
      intro i _
      simp
theorem repl_rel {z : List AV} {zs : List Value} (h : VRL ι z zs) : ∀ n, VRL ι (repl z n) (List.replicate n zs).flatten
  | 0 => by simpa [repl] using VRL.nil
  | n + 1 => by rw [List.replicate_succ, List.flatten_cons]; exact h.append (repl_rel h n)
theorem row_rel {z : List AV} {zv : Value} {n size : Nat} (hz : VRL ι z zv.cells.toList) (hs : z.length = size) :
    VRL ι (repl z n) ((Array.range (n * size)).map (zv.cells[· % zv.cells.size]!)).toList := by
  have hl := hz.len
  by_cases hp : size = 0
  · subst hp
    have : z = [] := List.eq_nil_of_length_eq_zero hs
    subst this
    have hr : ∀ n, repl ([] : List AV) n = [] := fun n => by induction n with | zero => rfl | succ n ih => simp [repl, ih]
    rw [hr]; simpa using VRL.nil
  · have e : ((Array.range (n * size)).map (zv.cells[· % zv.cells.size]!)).toList = (List.replicate n zv.cells.toList).flatten := by
      rw [← range_repl (by omega) n]
      simp [← hs, hl]
      intro x _
      rw [getElem!_def]
      cases zv.cells[x % zv.cells.size]? <;> rfl
    rw [e]
    exact repl_rel hz n

theorem new_buildSlice {o : Oper} {t e : TypeId} {n : Nat} {parts : Array (Nat × Operand)} {z : List AV} {ps : List (Nat × Nat × Opd)} {r : List AV} (b : Nat) (ht : Slots ι ts a) (ho : o.op = .buildSlice t n parts)
    (hu : P.underlying t = some (.slice e)) (hz : zeroOf P e = some z) (hn : n * z.length ≤ 2 ^ 24) (hp : cParts (fun i => some (i * z.length, z.length)) parts.toList = some ps) (hf : fillA ts ps (repl z n) = some r) :
    NewOK P ι w b (.sl b 0 n n true) (.cells false true e r) ((execOp a.eval o).run P w) := by
  obtain ⟨i, zv, hi, hzv, hl, hv, h1⟩ := zeroOf_ok hz
  have hrow := row_rel (n := n) (hv ι) hl
  obtain ⟨cs', h4, h5, _, h6⟩ := fill_ok ht parts.toList ps _ r ((Array.range (n * i.size)).map (zv.cells[· % zv.cells.size]!)) hp hf hrow (repl_one h1 n)
  refine ⟨_, _, fun ι' hx hb => ⟨OR.full (cs := cs') (h5.ext hx) h6, .sl hb (Nat.le_refl _) (fun _ => rfl) (Nat.le_refl _) (fun h => by cases h)⟩, ?_⟩
  unfold execOp; rw [ho]
  rw [hl] at h4 hn
  have hsm : ¬ n * i.size > 2 ^ 24 := by omega
  have e0 : (Array.range 0).map (zv.cells[· % zv.cells.size]!) = #[] := by simp
  by_cases h0 : n * i.size = 0
  · rw [h0, e0] at h4
    simp [Instr.buildSlice, run_underlying hu, sizeOf, typeInfo, hi, h0]
    simp at h4
    have e1 : (Array.range 0).map (fun _ => (default : Value)) = #[] := Array.eq_empty_of_size_eq_zero (by rw [Array.size_map, Array.size_range])
    rw [e1, h4]
    simp [newRow]
  · simp [Instr.buildSlice, run_underlying hu, sizeOf, typeInfo, zeroValue, hi, hzv, hsm, h0]
    simp at h4
    rw [h4]
    simp [newRow]

theorem ok_buildSlice {o : Oper} {t e : TypeId} {n : Nat} {parts : Array (Nat × Operand)} {z : List AV} {ps : List (Nat × Nat × Opd)} {r : List AV} (hR : R P ι σ w) (ht : Slots ι ts a) (ho : o.op = .buildSlice t n parts)
    (hu : P.underlying t = some (.slice e)) (hz : zeroOf P e = some z) (hn : n * z.length ≤ 2 ^ 24) (hp : cParts (fun i => some (i * z.length, z.length)) parts.toList = some ps) (hf : fillA ts ps (repl z n) = some r) :
    Res P ι σ w (σ.alloc (.cells false true e r)) (.sl σ.next 0 n n true) ((execOp a.eval o).run P w) := (new_buildSlice _ ht ho hu hz hn hp hf).res hR

/-! ### Memory is read -/
theorem add_off (c o j : Nat) : (⟨c, o, none⟩ : Addr).add j = ⟨c, o + j, none⟩ := by unfold Addr.add; split <;> simp_all
theorem cell_add {c o j : Nat} {cs : Array Value} {e : TypeId} {fr : Nat × Nat} (h : w.heap[c]? = some (.cells cs e fr)) : w.cell? ((⟨c, o, none⟩ : Addr).add j) = cs[o + j]? := by
  rw [add_off]
  simp [World.cell?, h]
theorem range_rel {l r : List AV} {cs : List Value} {o n : Nat} (h : VRL ι l (cs.take l.length)) (hr : getRange l o n = some r) :
    VRL ι r ((cs.drop o).take n) ∧ ((cs.drop o).take n).length = n := by
  obtain ⟨h1, h2⟩ := getRange_eq hr
  have h3 := (h.drop o).take n
  have hlen : o + n ≤ l.length ∨ n = 0 := by
    rw [h1] at h2
    simp at h2
    omega
  have hle := h.len
  simp at hle
  have e : ((cs.take l.length).drop o).take n = (cs.drop o).take n := by
    rcases hlen with hlen | rfl
    · rw [List.drop_take, List.take_take, Nat.min_eq_left (by omega)]
    · simp
  rw [e, ← h1] at h3
  exact ⟨h3, by rw [← h3.len, h2]⟩
theorem run_range {c o n : Nat} {cs : Array Value} {e : TypeId} {fr : Nat × Nat} (h : w.heap[c]? = some (.cells cs e fr)) (hn : ((cs.toList.drop o).take n).length = n) :
    (loadCells ⟨c, o, none⟩ n).run P w = .ok ((cs.toList.drop o).take n).toArray w := by
  have := run_loadCells_list (P := P) w ⟨c, o, none⟩ ((cs.toList.drop o).take n) (fun j v hj => by
    rw [cell_add h]
    have hjn : j < n := by
      have := (List.getElem?_eq_some_iff.1 hj).1
      omega
    rw [List.getElem?_take, if_pos hjn, List.getElem?_drop] at hj
    simpa using hj)
  rwa [hn] at this
/-- Cells of a block. -/
theorem R.cells (hR : R P ι σ w) {b c : Nat} {ro ex : Bool} {e : TypeId} {l : List AV} (hb : ι b = some c) (hg : σ.get b = some (.cells ro ex e l)) :
    ∃ cs fr, w.heap[c]? = some (.cells cs e fr) ∧ (ro = false → fr = (0, 0)) ∧ l.length ≤ cs.size ∧ (ex = true → cs.size = l.length) ∧ VRL ι l (cs.toList.take l.length) ∧ (∀ v ∈ l, oneA v = true) ∧ (ex = false → ∃ s, sizeAt P e = some s ∧ cs.size = ι.room b * s) := by
  obtain ⟨o', h1, cs, fr, h2, h3⟩ := hR.obj b c _ hb hg
  subst h2
  exact ⟨cs, fr, h1, h3⟩
theorem VR.ptr_inv {b o : Nat} {u : Value} (h : VR ι (.ptr b o) u) : ∃ c, ι b = some c ∧ u = .pointer (some ⟨c, o, none⟩) := by
  cases h with | ptr h => exact ⟨_, h, rfl⟩
theorem wrapUp_rel {g : Bool} {r : List AV} {cs : List Value} (h : wrapUp g r = some v) (hr : VRL ι r cs) (h1 : ∀ x ∈ r, oneA x = true) :
    (g = true ∧ VR ι v (.agg cs.toArray)) ∨ (g = false ∧ ∃ u, cs = [u] ∧ VR ι v u) := by
  unfold wrapUp at h
  split at h
  · injection h with h; subst h; exact .inl ⟨rfl, .agg hr h1⟩
  · injection h with h; subst h
    cases hr with | cons h ht => cases ht; exact .inr ⟨rfl, _, rfl, h⟩
  · cases h
theorem run_loadVar {t : TypeId} {g : Bool} {sz c o : Nat} {r : List AV} {l : List AV} {cs : Array Value} {e : TypeId} {fr : Nat × Nat} (hs : sizeAt P t = some sz) (hg : aggAt P t = some g)
    (h : w.heap[c]? = some (.cells cs e fr)) (hl : VRL ι l (cs.toList.take l.length)) (h1 : ∀ v ∈ l, oneA v = true) (hr : getRange l o (if g then sz else 1) = some r) (hw : wrapUp g r = some v) :
    ∃ u, (loadVar t ⟨c, o, none⟩).run P w = .ok u w ∧ VR ι v u := by
  obtain ⟨i, hi, hsz⟩ := sizeAt_ok hs
  obtain ⟨h2, h3⟩ := range_rel hl hr
  have h1' : ∀ x ∈ r, oneA x = true := fun x hx => by
    rw [(getRange_eq hr).1] at hx
    exact h1 x (List.mem_of_mem_drop (List.mem_of_mem_take hx))
  rcases wrapUp_rel hw h2 h1' with ⟨rfl, hv⟩ | ⟨rfl, u, hu, hv⟩
  · refine ⟨_, ?_, hv⟩
    simp only [if_true] at h3
    have hr' := run_range (P := P) (o := o) h h3
    simp [loadVar, run_isAgg hg, run_sizeOf hi, hsz, hr']
  · refine ⟨u, ?_, hv⟩
    have hc : w.cell? ⟨c, o, none⟩ = some u := by
      have := cell_add (o := o) (j := 0) h
      rw [add_off] at this
      rw [Nat.add_zero] at this
      rw [this]
      have e1 : ((cs.toList.drop o).take 1)[0]? = some u := by simp at hu; rw [hu]; rfl
      rw [List.getElem?_take, if_pos (by omega), List.getElem?_drop] at e1
      simpa using e1
    simp [loadVar, run_isAgg hg, load, Sem.run, hc]
theorem loadA_ok {n : Nat} {g : Bool} {x : AV} {u : Value} (h : loadA σ n g x = some v) (hx : VR ι x u) (hR : R P ι σ w) :
    ∃ b o c ro ex e l r cs fr, x = .ptr b o ∧ ι b = some c ∧ u = .pointer (some ⟨c, o, none⟩) ∧ σ.get b = some (.cells ro ex e l) ∧ getRange l o n = some r ∧ wrapUp g r = some v ∧
      w.heap[c]? = some (.cells cs e fr) ∧ VRL ι l (cs.toList.take l.length) ∧ ∀ v ∈ l, oneA v = true := by
  unfold loadA at h
  split at h
  · rename_i b o
    split at h
    · rename_i ro ex e l hg
      split at h
      · rename_i r hr
        obtain ⟨c, hc, hu⟩ := hx.ptr_inv
        obtain ⟨cs, fr, h1, _, _, _, h2, h3, _⟩ := hR.cells hc hg
        exact ⟨b, o, c, ro, ex, e, l, r, cs, fr, rfl, hc, hu, hg, hr, h, h1, h2, h3⟩
      · cases h
    · cases h
  · cases h
theorem ok_load {o : Oper} {t : TypeId} {x : Operand} {y : Opd} {n : Nat} {g : Bool} (hR : R P ι σ w) (ht : Slots ι ts a) (ho : o.op = .load t x) (hc : cOpd x = some y) (hs : sizeAt P t = some n) (hg : aggAt P t = some g)
    (hl : loadA σ (if g then n else 1) g (evA ts y) = some v) : Res P ι σ w σ v ((execOp a.eval o).run P w) := by
  have hx := cOpd_ok hc ht
  obtain ⟨b, off, c, ro, ex, e, l, r, cs, fr, h1, h2, h3, h4, h5, h6, h7, h8, h9⟩ := loadA_ok hl hx hR
  obtain ⟨u, hu, hv⟩ := run_loadVar hs hg h7 h8 h9 h5 h6
  refine .pure hR hv ?_
  unfold execOp; rw [ho]
  simp [Instr.loadAt, h3, Instr.sureAddr, hu]

/-! ### Memory is written -/
theorem take_put (cs vs : List Value) (o L : Nat) (hL : L ≤ cs.length) (ho : o + vs.length ≤ L) :
    (cs.take o ++ vs ++ cs.drop (o + vs.length)).take L = (cs.take L).take o ++ vs ++ (cs.take L).drop (o + vs.length) := by
  rw [List.take_append, List.take_append, List.take_take, List.take_take, List.drop_take]
  simp only [List.length_append, List.length_take]
  rw [Nat.min_eq_left (by omega : o ≤ cs.length), Nat.min_eq_right (by omega : o ≤ L), Nat.min_eq_left (by omega : o ≤ L), List.take_of_length_le (by omega : vs.length ≤ L - o)]
theorem write_ok (hR : R P ι σ w) {b c o : Nat} {vs : List AV} {us : List Value} (hb : ι b = some c) (hw : writeA σ b o vs = some σ') (hv : VRL ι vs us) (h1 : ∀ x ∈ vs, oneA x = true) :
    ∃ w', (storeCells ⟨c, o, none⟩ us).run P w = .ok () w' ∧ R P ι σ' w' ∧ Later ι σ w ι σ' w' := by
  unfold writeA at hw
  split at hw
  · rename_i ex e l hg
    split at hw
    · rename_i l' hl'
      injection hw with hw
      subst hw
      obtain ⟨cs, fr, h2, h3, h4, h5, h6, h7, h10⟩ := hR.cells hb hg
      obtain rfl := h3 rfl
      obtain ⟨h8, h9⟩ := putRange_eq _ _ _ _ hl'
      have hvl := hv.len
      have hrun := run_storeCells_at (P := P) c o e us 0 cs w h2 (by omega) (hv.one h1)
      rw [Nat.add_zero] at hrun
      refine ⟨_, hrun, hR.set hb hg (by rintro ⟨x, y, z, hz⟩; rw [hg] at hz; cases hz) (o1' := .cells (cs.toList.take o ++ us ++ cs.toList.drop (o + us.length)).toArray e (0, 0)) ?_ (setRow_heap w c cs _ e _ h2) (by simp) (fun d hd => setRow_other w c d _ hd) rfl rfl rfl⟩
      have hll : l'.length = l.length := by rw [h9]; simp; omega
      refine ⟨_, (0, 0), rfl, fun _ => rfl, by simp; omega, fun hex => by have := h5 hex; simp; omega, ?_, fun x hx => ?_, fun hex => ?_⟩
      · rw [hll, take_put _ _ _ _ (by simpa using h4) (by omega), h9, ← hvl]
        exact ((h6.take o).append hv).append (h6.drop _)
      · rw [h9] at hx
        simp only [List.mem_append] at hx
        rcases hx with (hx | hx) | hx
        · exact h7 x (List.mem_of_mem_take hx)
        · exact h1 x hx
        · exact h7 x (List.mem_of_mem_drop hx)
      · obtain ⟨s, hs, hz⟩ := h10 hex
        exact ⟨s, hs, by rw [← hz]; simp; omega⟩
    · cases hw
  · cases hw
theorem ok_store {o : Oper} {t : TypeId} {x y : Operand} {x' y' : Opd} {n : Nat} (hR : R P ι σ w) (ht : Slots ι ts a) (ho : o.op = .store t x y) (hx : cOpd x = some x') (hy : cOpd y = some y') (hs : sizeAt P t = some n)
    (hst : storeA σ n (evA ts x') (evA ts y') = some σ') : Res P ι σ w σ' undefA ((execOp a.eval o).run P w) := by
  have h1 := cOpd_ok hx ht
  have h2 := cOpd_ok hy ht
  obtain ⟨i, hi, hsz⟩ := sizeAt_ok hs
  unfold storeA at hst
  split at hst
  · rename_i b off he
    rw [he] at h1
    obtain ⟨c, hc, hu⟩ := h1.ptr_inv
    cases hb : Nat.beq (len (cellsOf (evA ts y'))) n && !isTup (evA ts y') with
    | false => rw [hb] at hst; cases hst
    | true =>
      rw [hb] at hst
      have hb' := Bool.and_eq_true_iff.1 hb
      have hn : (cellsOf (evA ts y')).length = n := by have := Nat.eq_of_beq_eq_true hb'.1; rwa [len_eq] at this
      have hnt : ∀ l, evA ts y' ≠ .tup l := fun l e => by rw [e] at hb'; simp [isTup] at hb'
      obtain ⟨w', hrun, hR', hL'⟩ := write_ok hR hc hst h2.cells (h2.cells_one hnt)
      refine ⟨ι, w', undef, hL', hR', VR.undef ι, .inr ⟨?_, rfl⟩⟩
      have hvlen := h2.cells.len
      unfold execOp; rw [ho]
      simp only [Instr.storeAt, hu, Instr.sureAddr, Sem.run_bind, Sem.run_pure, Result.andThen_ok, storeVar, run_sizeOf hi]
      rw [if_neg (by simp at hvlen ⊢; omega)]
      simp [hrun]
  · cases hst
end
end Go.Av

/-
  Av: store.which and store.Next do what is told of them.
-/
import Derived.Test.YtnekfkhjokgdmaaGreatAvTold4
set_option linter.unusedVariables false
set_option linter.unusedSimpArgs false
set_option maxRecDepth 100000
namespace Tw
open Go Go.Av Go.Proofs

section
variable {P : Program} {ι ι' : Emb} {σ σ' : AS} {w w' : World} {s : Lv} {N m : Nat}
theorem ops_pre (hs : LvOK P s) {F : Fence} (hF : FF F) {ops : Array Oper} {Q : Exit → Act → World → Prop} {ts ts' : TM} {rest : List Nat} {a : Act} (k : Nat) (l : List AOper) (hk : k ≤ ops.size) (hc : cOpers P N ops (ops.toList.take k) = some l) (h : opsA s l ts σ = some (ts', σ')) (hR : R P ι σ w) (hT : TR N ι ts a.tmps)
    (hQ : ∀ ι' a' w', Later ι σ w ι' σ' w' → R P ι' σ' w' → TR N ι' ts' a'.tmps → a'.defers = a.defers → wpOpsIn F 0 P ops Q rest a' w') : wpOpsIn F 0 P ops Q (List.range' 0 k ++ rest) a w := by
  have := ops_from (Q := Q) (rest := rest) (more := ops.toList.drop k) hs hF (ops.toList.take k) 0 l ι σ ts a w (by simp) hc h hR hT hQ
  have hlen : (ops.toList.take k).length = k := by simp; omega
  rw [hlen] at this
  exact this
theorem VR.map_inv {b : Nat} {u : Value} (h : VR ι (.map b) u) : ∃ c, ι b = some c ∧ u = .map (some c) := by cases h with | map h => exact ⟨_, h, rfl⟩
theorem ints_or {ex : Bool} {e : TypeId} {zs : List Int} {b b' : Nat} {x : Obj} (hr : ι'.room b' = ι.room b) (h : OR P ι b (.cells false ex e (zs.map (AV.int .i64))) x) : OR P ι' b' (.cells false ex e (zs.map (AV.int .i64))) x := by
  obtain ⟨cs, fr, e1, e2, e3, e4, e5, e6, e7⟩ := h
  refine ⟨cs, fr, e1, e2, e3, e4, ?_, e6, fun hx => ?_⟩
  · rw [vrl_ints e5]; exact vrl_of_ints _ _
  · rw [hr]; exact e7 hx
end

theorem loadA_inv {σ : AS} {b o : Nat} {v : AV} (h : loadA σ 1 false (.ptr b o) = some v) : ∃ ro ex e l, σ.get b = some (.cells ro ex e l) ∧ getRange l o 1 = some [v] := by
  simp only [loadA] at h
  split at h <;> try (cases h; done)
  rename_i ro ex e l hg
  split at h <;> try (cases h; done)
  rename_i r hr
  unfold wrapUp at h
  split at h <;> first | (cases h; done) | skip
  · rename_i hh; cases hh
  · injection h with h; subst h
    exact ⟨ro, ex, e, l, hg, hr⟩

/-- The predicates look at cells alone. -/
theorem whichL_cells {σ σ' : AS} {g : Nat} {caps : List AV} (h : ∀ b ro ex e l, σ.get b = some (.cells ro ex e l) → σ'.get b = some (.cells ro ex e l)) : ∀ {l : List (AV × AV)} {ids : List Int}, whichL σ g caps l = some ids → whichL σ' g caps l = some ids := by
  have hi : ∀ {c t}, isO σ g caps c = some t → isO σ' g caps c = some t := fun {c t} hc => by
    obtain ⟨b, o, c0, c1, c2, c3, x, y, c6, u, ro, ex, e, l, rfl, rfl, hg, hr, hd⟩ := isO_ok hc
    have : loadA σ' 1 false (.ptr b o) = loadA σ 1 false (.ptr b o) := by simp only [loadA, h b _ _ _ _ hg, hg]
    simp only [isO, this] at hc ⊢
    exact hc
  have he : ∀ {p i t}, entO σ g caps p = some (i, t) → entO σ' g caps p = some (i, t) := fun {p i t} hp => by
    obtain ⟨h1, h2⟩ := entO_ok hp
    unfold entO
    rw [h1]
    simp only [hi h2]
    rfl
  intro l
  induction l with
  | nil => intro ids h; exact h
  | cons p r ih =>
    intro ids h
    unfold whichL at h
    split at h <;> try (cases h; done)
    rename_i i t hp
    split at h <;> try (cases h; done)
    rename_i l hl
    injection h with h; subst h
    show (match entO σ' g caps p with | some (i, t) => (match whichL σ' g caps r with | some l => some (bif t then i :: l else l) | none => none) | none => none) = _
    rw [he hp, ih hl]

theorem whichO_inv {args : List AV} {σ σ' : AS} {v : AV} (h : whichO args σ = some (v, σ')) : ∃ b o g caps m l ids, args = [.ptr b o, .fn g [] caps] ∧ loadA σ 1 false (.ptr b (o + 3)) = some (.map m) ∧ σ.get m = some (.amap l) ∧ l.length ≤ 100000 ∧ whichL σ g caps l = some ids ∧
    ((ids = [] ∧ v = .nilsl ∧ σ' = σ) ∨ (ids ≠ [] ∧ v = .sl σ.next 0 ids.length ids.length false ∧ σ' = σ.alloc (.cells false false 3 ((isortZ ids).map (AV.int .i64))))) := by
  unfold whichO at h
  split at h <;> try (cases h; done)
  rename_i b o g caps
  split at h <;> try (cases h; done)
  rename_i m hm
  split at h <;> try (cases h; done)
  rename_i l hl
  cases hb : Nat.ble l.length 100000 with
  | false => rw [hb] at h; cases h
  | true =>
  rw [hb] at h
  simp only [cond_true] at h
  split at h <;> try (cases h; done)
  · rename_i hw
    injection h with h; injection h with h1 h2
    exact ⟨b, o, g, caps, m, l, [], rfl, hm, hl, by simpa using hb, hw, .inl ⟨rfl, h1.symm, h2.symm⟩⟩
  · rename_i i is hw
    injection h with h; injection h with h1 h2
    exact ⟨b, o, g, caps, m, l, i :: is, rfl, hm, hl, by simpa using hb, hw, .inr ⟨by simp, h1.symm, h2.symm⟩⟩

theorem map_known {P : Program} {ι ι' : Emb} {σ : AS} {w : World} {b o m bm : Nat} {r : AV} {vs : List Value} (hR : R P ι σ w) (ha : VRL ι [.ptr b o, r] vs) (hm : loadA σ 1 false (.ptr b (o + 3)) = some (.map m)) (hbm : ι' m = some bm) (hx : Ext ι ι') : ι m = some bm := by
  obtain ⟨ro, ex, e, l, hg, hr⟩ := loadA_inv hm
  cases ha with
  | cons h0 _ =>
  cases h0 with
  | ptr hb =>
  obtain ⟨o', _, cs, fr, rfl, _, _, _, e4, _, _⟩ := hR.obj b _ _ hb hg
  have h1 := (getRange_eq hr).1
  have h2 : l[o + 3]? = some (.map m) := by
    have : ((l.drop (o + 3)).take 1)[0]? = some (AV.map m) := by rw [← h1]; rfl
    simpa using this
  obtain ⟨v, _, hv⟩ := e4.get h2
  obtain ⟨c, hc, _⟩ := VR.map_inv hv
  have := (hx m c hc).1
  rw [hbm] at this; injection this with this; subst this
  exact hc
theorem at286 : T1.FT 286 = some (.told sortO) := by kernel_rfl
theorem run286 {n d : Nat} {args : List AV} {σ : AS} : (lvA T1.FT n (d + 1)).call 286 args σ = sortO args σ := by
  rw [call_eq]
  unfold callB
  rw [at286]

noncomputable def w2 : List AOper := [⟨some 8, .mv (.tmp 0), none⟩, ⟨some 9, .nilck (.tmp 8), none⟩, ⟨some 10, .faddr 3 (.tmp 9), none⟩, ⟨some 11, .load 1 false (.tmp 10), none⟩]
noncomputable def w7 : ACode := .seq (.reg [⟨some 25, .mv (.tmp 5), none⟩, ⟨some 26, .call (.lit (.fn 286 [] [])) [.tmp 25], none⟩] none) (.seq (.reg [⟨some 27, .mv (.tmp 5), none⟩, ⟨some 4, .mv (.tmp 27), none⟩] none) .ret)

theorem w7_run {n d : Nat} {ts : TM} {σ σ' : AS} {v : AV} (h5 : ts.at 5 = v) (hs : sortO [v] σ = some (.tup [], σ')) : ∃ ts', codeA (lvA T1.FT n (d + 1)) n w7 ts σ = some (.ret, ts', σ') ∧ resV ts' σ' [.tmp 4] = some [v] := by
  refine ⟨((((ts.put 25 v).put 26 (.tup [])).put 27 v).put 4 v), ?_, by simp [resV, TM.at_put]⟩
  simp [w7, c_seq, c_reg, o_cons, opsA_nil, wantedA, opA, execA, exMv, evA, evL, p_some, p_none, TM.at_put, h5, run286, hs, code_ret]

theorem which_row : ∀ args σ v σ', whichO args σ = some (v, σ') → ∀ ι w vs, R Tryz.prog ι σ w → VRL ι args vs → CallsIn Fence.wide 0 Tryz.prog 239 vs.toArray w (Ret Tryz.prog ι σ w σ' v) := by
  intro args σ v σ' h ι w vs hR ha
  obtain ⟨b, o, g, caps, m, l, ids, rfl, hm, hl, hlen, hw, hend⟩ := whichO_inv h
  have hs : LvOK Tryz.prog (lvA T1.FT 9 3) := lv_ok T1.FT_ok 9 3
  have hmix : Tryz.prog.follows .mixedOrders = true := T1.FT_ok.mix
  have hFF : FF Fence.wide := .inl rfl
  refine callsIn_of_wp_marks (c := _) Tryz.func239 rfl trivial ?_
  have hT0 : TR 28 ι (argsTM [.ptr b o, .fn g [] caps] 0 .nil) (vs.toArray ++ Array.replicate (28 - vs.toArray.size) undef) := args_ok ha (by simp)
  have hD0 : DS w.heap.size ι w [] := DS.nil _ _ _
  have hlt0 : ∀ b c, ι b = some c → b < σ.next := fun b c hb => (hR.lt b c hb).1
  rw [args2] at hT0
  obtain ⟨ro, ex, e, lc, hgb, hrc⟩ := loadA_inv hm
  -- R0
  refine wpIn_seq ?_
  refine wpIn_mono (code_ok hs hmix 9 _ (.reg [⟨some 4, .mv (.lit .nilsl), none⟩] none) (by kernel_rfl) _ σ .normal ((TM.put (TM.put .nil 0 (.ptr b o)) 1 (.fn g [] caps)).put 4 .nilsl) σ rfl Fence.wide (.inl rfl) ι _ w w.heap.size hR hT0 hD0 (Nat.le_refl _)) fun e1 a1 w1 hp => ?_
  obtain ⟨ι1, rfl, la1, hR1, hT1, hD1⟩ := hp
  refine wpIn_seq ?_
  refine wpIn_mono (code_ok hs hmix 9 _ (.reg [⟨some 5, .mv (.lit .nilsl), none⟩] none) (by kernel_rfl) _ σ .normal (((TM.put (TM.put .nil 0 (.ptr b o)) 1 (.fn g [] caps)).put 4 .nilsl).put 5 .nilsl) σ rfl Fence.wide (.inl rfl) ι1 _ w1 w.heap.size hR1 hT1 hD1 la1.size) fun e1 a2 w2_ hp => ?_
  obtain ⟨ι2, rfl, la2', hR2, hT2, hD2⟩ := hp
  have la2 := la1.trans hlt0 la2'
  -- R2
  refine wpIn_seq (wpIn_seq (wpIn_region ?_))
  show wpOpsIn _ _ _ _ _ (List.range' 0 4 ++ [4]) _ _
  refine ops_pre hs hFF 4 w2 (by decide) (by kernel_rfl) (ts' := ((((((TM.put (TM.put .nil 0 (.ptr b o)) 1 (.fn g [] caps)).put 4 .nilsl).put 5 .nilsl).put 8 (.ptr b o)).put 9 (.ptr b o)).put 10 (.ptr b (o + 3))).put 11 (.map m)) (σ' := σ) ?_ hR2 hT2 ?_
  · simp [w2, o_cons, opsA_nil, wantedA, opA, execA, exMv, exNilck, exFaddr, exLoad, evA, p_some, p_none, TM.at_put, loadA, wrapUp, hgb, hrc]
  intro ι3 a3 w3 la3' hR3 hT3 hd3
  have la3 := la2.trans hlt0 la3'
  have hmv : ∃ bm, ι3 m = some bm ∧ a3.eval (.tmp 11) = .map (some bm) := by
    have := hT3.at_ 11
    rw [TM.at_put, if_pos rfl] at this
    exact VR.map_inv this
  obtain ⟨bm, hbm, hev⟩ := hmv
  obtain ⟨es, clock, hes, hml, hbn, hR4, la4', hIt⟩ := range_start hR3 hbm hl
  refine raw_step hFF rfl rfl (fun c hc => by cases hc) (exec_range rfl (by rw [hev]; exact run_range_map w3 268 3 103 bm es clock (by kernel_rfl) hes)) ?_
  have la4 := la3.trans hlt0 la4'
  show Code.wpIn _ _ _ _ _ _ _
  -- the loop
  have hT4 := (hT3.ext la4'.ext).put (d := 12) (by decide) (VR.ptr (o := 0) (ι := at_ ι3 σ.next w3.heap.size 0) (b := σ.next) (c := w3.heap.size) (by rw [at_blk, if_pos rfl]))
  have hmlt := (hR3.lt m bm hbm).1
  have hD3 : DS w.heap.size ι3 w3 a3.defers := by rw [hd3]; exact hD2.later la3'
  have hD4 := hD3.later la4'
  have hcell : ∀ b ro ex e l, σ.get b = some (.cells ro ex e l) → (σ.put m none).skip.get b = some (.cells ro ex e l) := fun b ro ex e l hb => by
    rw [AS.get_skip, AS.get_put, if_neg (by rintro rfl; rw [hl] at hb; cases hb)]; exact hb
  have hwb := whichL_cells hcell hw
  have hlive : ∀ b, (σ.put m none).skip.live b → b < (σ.put m none).skip.next := fun b ⟨x, hx⟩ => by
    rcases Nat.lt_or_ge b (σ.put m none).skip.next with h | h
    · exact h
    · rw [hR4.fresh b h] at hx; cases hx
  refine map_loop hs hmix (n := 9) (h3 := rfl) (ho0 := rfl) (hd0 := rfl) (hg0 := rfl) (hc1 := by kernel_rfl) (h4 := rfl) (hq0 := rfl) (hdq := rfl) (hgq := rfl) (hl4 := (by kernel_rfl : _ = some w4)) (hc5 := (by kernel_rfl : _ = some w5)) (hN := by decide) (hne := by decide) (N := 28)
    (WInv (σ.put m none).skip g caps σ.next) (fun S ts σ hI => hI.t12) (which_step (it := σ.next) hlive hwb hlen 9 1) (ts := _) (ι0 := ι) (σ0 := σ) (w0 := w) (m := w.heap.size)
    ⟨Adds.refl _, by simp [TM.at_put], by simp [TM.at_put], [], rfl, by simp, .inl ⟨rfl, by simp [TM.at_put]⟩⟩ la4 hlt0 la3.size hR4 hT4 (by exact hD4) la4.size hIt (hml.ext la4'.ext) hbn ?_
  intro S ts5 σ5 ι5 a5 w5 hperm hI hL5 hR5 hT5 hD5 ⟨seen, c0, hIt5⟩ hx5
  -- the map is there again
  have hbm0 : ι m = some bm := map_known hR ha hm hbm la3.ext
  obtain ⟨hR6, hL6⟩ := range_end (l := l) hbm0 ⟨_, hl⟩ hL5 hR5 hIt5 ((hml.ext la4'.ext).ext hx5) hbn
  have hm1 : m < σ.next := hlt0 m bm hbm0
  have hold6 : ∀ x, x < σ.next → (σ5.put m (some (.amap l))).get x = σ.get x := fun x hx => by
    rw [AS.get_put]
    by_cases e : x = m
    · subst e; rw [if_pos rfl, hl]
    · rw [if_neg e, hI.adds.old x (by simp; omega), AS.get_skip, AS.get_put, if_neg e]
  obtain ⟨jds, hj, _, hlist⟩ := hI.list
  obtain ⟨kds, hk, hjk⟩ := whichL_perm hperm hj
  rw [hwb] at hk; injection hk with hk; subst hk
  show Code.wpIn _ _ _ _ _ _ _
  suffices fin : ∃ (σ7 : AS) (u : AV), sortO [u] (σ5.put m (some (.amap l))) = some (.tup [], σ7) ∧ ts5.at 5 = u ∧
      (∀ (w9 : World) (ι9 : Emb), Later ι σ w ι9 σ7 w9 → R Tryz.prog ι9 σ7 w9 → ∀ z, VR ι9 u z → Ret Tryz.prog ι σ w σ' v (.returned z) w9) by
    obtain ⟨σ7, u, hso, h5, hpost⟩ := fin
    obtain ⟨ts8, hc8, hr8⟩ := w7_run (n := 9) (d := 2) (ts := (ts5.put 13 (.tup [.bool false])).put 14 (.bool false)) (v := u) (by simp [TM.at_put, h5]) hso
    refine wpIn_mono (code_ok hs hmix 9 _ w7 (by kernel_rfl) _ (σ5.put m (some (.amap l))) .ret ts8 σ7 hc8 Fence.wide (.inl rfl) ι5 a5 w5 w.heap.size hR6 hT5 hD5 hL6.size) fun e a8 w8 hp => ?_
    obtain ⟨ι8, rfl, la8, hR8, hT8, hD8⟩ := hp
    have hL8 := hL6.trans hlt0 la8
    have := leave_ok (R' := Ret Tryz.prog ι σ w σ' v) (fn := Tryz.f239) (tmps := a8.tmps) (Nat.le_refl w.heap.size) (fun w9 hR9 hL9 => by
      obtain ⟨z, g1, g2⟩ := results_ok hR9 hT8 (by kernel_rfl : cRes Tryz.prog Tryz.f239.results.toList = some [.tmp 4]) hr8
      exact ⟨z, g1, hpost w9 ι8 hL9 hR9 z g2⟩) a8.defers w8 hD8 hR8 hL8
    exact this
  rcases hlist with ⟨rfl, h5⟩ | ⟨bl, h5, hne, hbl1, hbl2, hbl3⟩
  · have : ids = [] := List.nil_perm.1 hjk
    subst this
    obtain ⟨_, rfl, rfl⟩ := hend.resolve_right (fun h => h.1 rfl)
    refine ⟨_, .nilsl, rfl, h5, fun w9 ι9 hL9 hR9 z hz => ?_⟩
    obtain ⟨k1, k2⟩ := gc_none hR hL9 hR9 hold6
    refine ⟨z, ι, rfl, k2, k1, ?_⟩
    cases hz; exact .nilsl
  · have hidn : ids ≠ [] := fun e => hne (by subst e; exact List.perm_nil.1 hjk)
    obtain ⟨_, rfl, rfl⟩ := hend.resolve_left (fun h => hidn h.1)
    have hlj : jds.length = ids.length := hjk.length_eq
    have hblm : bl ≠ m := by simp at hbl1; omega
    have hj3 : jds.length ≤ 100000 := by
      have := hI.list
      obtain ⟨j', hj', hle, _⟩ := this
      rw [hj] at hj'; injection hj' with hj'; subst hj'
      have := hperm.length_eq
      omega
    have hso : sortO [.sl bl 0 jds.length jds.length false] (σ5.put m (some (.amap l))) = some (.tup [], (σ5.put m (some (.amap l))).put bl (some (.cells false false 3 ((isortZ jds).map (AV.int .i64))))) := by
      have hget : (σ5.put m (some (.amap l))).get bl = some (.cells false false 3 (jds.map (AV.int .i64))) := by rw [AS.get_put, if_neg hblm]; exact hbl3
      simp only [sortO, hget, intsOf_map]
      have : (Nat.beq jds.length jds.length && Nat.blt jds.length 4611686018427387904) = true := by simp; omega
      rw [this]; rfl
    refine ⟨_, _, hso, h5, fun w9 ι9 hL9 hR9 z hz => ?_⟩
    have hold7 : ∀ x, x < σ.next → ((σ5.put m (some (.amap l))).put bl (some (.cells false false 3 ((isortZ jds).map (AV.int .i64))))).get x = σ.get x := fun x hx => by
      rw [AS.get_put, if_neg (by simp at hbl1; omega)]; exact hold6 x hx
    have hgb7 : ((σ5.put m (some (.amap l))).put bl (some (.cells false false 3 ((isortZ jds).map (AV.int .i64))))).get bl = some (.cells false false 3 ((isortZ jds).map (AV.int .i64))) := by rw [AS.get_put, if_pos rfl]
    cases hz with
    | sl hbc hcc he hnn hrr =>
    rename_i c c'
    have hsort : isortZ jds = isortZ ids := isortZ_congr hjk
    obtain ⟨k1, k2⟩ := gc_one hR hL9 hR9 hold7 (by simp at hbl1; omega) hgb7 (fun ⟨x, y, q, h⟩ => by rw [hgb7] at h; cases h) hbc (fun ι'' hroom x hx => ints_or hroom hx)
    rw [hsort] at k1 k2
    rw [hlj] at hcc hnn ⊢
    refine ⟨_, _, rfl, k2, k1, .sl (by rw [at_blk, if_pos rfl]) hcc (fun h => by cases h) hnn fun e1 e2 => ?_⟩
    rw [at_room, if_pos rfl]
    exact hrr e1 e2

/-! ### Next -/
theorem nextO_inv {args : List AV} {σ σ' : AS} {v : AV} (h : nextO args σ = some (v, σ')) : ∃ b o t m l q, args = [.ptr b o, .int .i64 t] ∧ loadA σ 1 false (.ptr b (o + 3)) = some (.map m) ∧ σ.get m = some (.amap l) ∧ nextL t l (0, false) = some q ∧ v = .tup [.int .i64 q.1, .bool q.2] ∧ σ' = σ := by
  unfold nextO at h
  split at h <;> try (cases h; done)
  rename_i b o k t
  cases hk : kEq k .i64 with
  | false => rw [hk] at h; cases h
  | true =>
  rw [hk] at h
  simp only [cond_true] at h
  split at h <;> try (cases h; done)
  rename_i m hm
  split at h <;> try (cases h; done)
  rename_i l hl
  split at h <;> try (cases h; done)
  rename_i q hq
  injection h with h; injection h with h1 h2
  have := kEq_true hk; subst this
  exact ⟨b, o, t, m, l, q, rfl, hm, hl, hq, h1.symm, h2.symm⟩
noncomputable def n3 : List AOper := [⟨some 12, .mv (.tmp 0), none⟩, ⟨some 13, .nilck (.tmp 12), none⟩, ⟨some 14, .faddr 3 (.tmp 13), none⟩, ⟨some 15, .load 1 false (.tmp 14), none⟩]
noncomputable def n12 : ACode := .seq (.reg [⟨some 44, .mv (.tmp 6), none⟩, ⟨some 45, .mv (.tmp 7), none⟩, ⟨some 4, .mv (.tmp 44), none⟩, ⟨some 5, .mv (.tmp 45), none⟩] none) .ret
theorem n12_run {s : Lv} {n : Nat} {ts : TM} {σ : AS} {u v : AV} (h6 : ts.at 6 = u) (h7 : ts.at 7 = v) : ∃ ts', codeA s n n12 ts σ = some (.ret, ts', σ) ∧ resV ts' σ [.tmp 4, .tmp 5] = some [u, v] := by
  refine ⟨((((ts.put 44 u).put 45 v).put 4 u).put 5 v), ?_, by simp [resV, TM.at_put]⟩
  simp [n12, c_seq, c_reg, o_cons, opsA_nil, wantedA, opA, execA, exMv, evA, p_some, p_none, TM.at_put, h6, h7, code_ret]
theorem next_row : ∀ args σ v σ', nextO args σ = some (v, σ') → ∀ ι w vs, R Tryz.prog ι σ w → VRL ι args vs → CallsIn Fence.wide 0 Tryz.prog 280 vs.toArray w (Ret Tryz.prog ι σ w σ' v) := by
  intro args σ v σ' h ι w vs hR ha
  obtain ⟨b, o, t, m, l, q, rfl, hm, hl, hw, rfl, rfl⟩ := nextO_inv h
  have hs : LvOK Tryz.prog (lvA T1.FT 9 3) := lv_ok T1.FT_ok 9 3
  have hmix : Tryz.prog.follows .mixedOrders = true := T1.FT_ok.mix
  have hFF : FF Fence.wide := .inl rfl
  refine callsIn_of_wp_marks (c := _) Tryz.func280 rfl trivial ?_
  have hT0 : TR 46 ι (argsTM [.ptr b o, .int .i64 t] 0 .nil) (vs.toArray ++ Array.replicate (46 - vs.toArray.size) undef) := args_ok ha (by simp)
  have hD0 : DS w.heap.size ι w [] := DS.nil _ _ _
  have hlt0 : ∀ b c, ι b = some c → b < σ'.next := fun b c hb => (hR.lt b c hb).1
  rw [args2] at hT0
  obtain ⟨ro, ex, e, lc, hgb, hrc⟩ := loadA_inv hm
  refine wpIn_seq ?_
  refine wpIn_mono (code_ok hs hmix 9 _ (.reg [⟨some 4, .mv (.lit (.int .i64 0)), none⟩, ⟨some 5, .mv (.lit (.bool false)), none⟩] none) (by kernel_rfl) _ σ' .normal (((TM.put (TM.put .nil 0 (.ptr b o)) 1 (.int .i64 t)).put 4 (.int .i64 0)).put 5 (.bool false)) σ' rfl Fence.wide (.inl rfl) ι _ w w.heap.size hR hT0 hD0 (Nat.le_refl _)) fun e1 a1 w1 hp => ?_
  obtain ⟨ι1, rfl, la1, hR1, hT1, hD1⟩ := hp
  refine wpIn_seq ?_
  refine wpIn_mono (code_ok hs hmix 9 _ (.reg [⟨some 6, .mv (.lit (.int .i64 0)), none⟩] none) (by kernel_rfl) _ σ' .normal ((((TM.put (TM.put .nil 0 (.ptr b o)) 1 (.int .i64 t)).put 4 (.int .i64 0)).put 5 (.bool false)).put 6 (.int .i64 0)) σ' rfl Fence.wide (.inl rfl) ι1 _ w1 w.heap.size hR1 hT1 hD1 la1.size) fun e1 a2 w2_ hp => ?_
  obtain ⟨ι2, rfl, la2', hR2, hT2, hD2⟩ := hp
  have la2 := la1.trans hlt0 la2'
  refine wpIn_seq ?_
  refine wpIn_mono (code_ok hs hmix 9 _ (.reg [⟨some 7, .mv (.lit (.bool false)), none⟩] none) (by kernel_rfl) _ σ' .normal (((((TM.put (TM.put .nil 0 (.ptr b o)) 1 (.int .i64 t)).put 4 (.int .i64 0)).put 5 (.bool false)).put 6 (.int .i64 0)).put 7 (.bool false)) σ' rfl Fence.wide (.inl rfl) ι2 _ w2_ w.heap.size hR2 hT2 hD2 la2.size) fun e1 a2' w2' hp => ?_
  obtain ⟨ι2', rfl, la3', hR2', hT2', hD2'⟩ := hp
  have la2b := la2.trans hlt0 la3'
  refine wpIn_seq (wpIn_seq (wpIn_region ?_))
  show wpOpsIn _ _ _ _ _ (List.range' 0 4 ++ [4]) _ _
  refine ops_pre hs hFF 4 n3 (by decide) (by kernel_rfl) (ts' := (((((((((TM.put (TM.put .nil 0 (.ptr b o)) 1 (.int .i64 t)).put 4 (.int .i64 0)).put 5 (.bool false)).put 6 (.int .i64 0)).put 7 (.bool false)).put 12 (.ptr b o)).put 13 (.ptr b o)).put 14 (.ptr b (o + 3))).put 15 (.map m))) (σ' := σ') ?_ hR2' hT2' ?_
  · simp [n3, o_cons, opsA_nil, wantedA, opA, execA, exMv, exNilck, exFaddr, exLoad, evA, p_some, p_none, TM.at_put, loadA, wrapUp, hgb, hrc]
  intro ι3 a3 w3 la3'' hR3 hT3 hd3
  have la3 := la2b.trans hlt0 la3''
  have hmv : ∃ bm, ι3 m = some bm ∧ a3.eval (.tmp 15) = .map (some bm) := by
    have := hT3.at_ 15
    rw [TM.at_put, if_pos rfl] at this
    exact VR.map_inv this
  obtain ⟨bm, hbm, hev⟩ := hmv
  obtain ⟨es, clock, hes, hml, hbn, hR4, la4', hIt⟩ := range_start hR3 hbm hl
  refine raw_step hFF rfl rfl (fun c hc => by cases hc) (exec_range rfl (by rw [hev]; exact run_range_map w3 268 3 103 bm es clock (by kernel_rfl) hes)) ?_
  have la4 := la3.trans hlt0 la4'
  show Code.wpIn _ _ _ _ _ _ _
  have hT4 := (hT3.ext la4'.ext).put (d := 16) (by decide) (VR.ptr (o := 0) (ι := at_ ι3 σ'.next w3.heap.size 0) (b := σ'.next) (c := w3.heap.size) (by rw [at_blk, if_pos rfl]))
  have hmlt := (hR3.lt m bm hbm).1
  have hD3 : DS w.heap.size ι3 w3 a3.defers := by rw [hd3]; exact hD2'.later la3''
  have hD4 := hD3.later la4'
  refine map_loop hs hmix (n := 9) (h3 := rfl) (ho0 := rfl) (hd0 := rfl) (hg0 := rfl) (hc1 := by kernel_rfl) (h4 := rfl) (hq0 := rfl) (hdq := rfl) (hgq := rfl) (hl4 := (by kernel_rfl : _ = some n4)) (hc5 := (by kernel_rfl : _ = some n5)) (hN := by decide) (hne := by decide) (N := 46)
    (NInv (σ'.put m none).skip σ'.next t) (fun S ts σ hI => hI.t16) (next_step hw 6) (ts := _) (ι0 := ι) (σ0 := σ') (w0 := w) (m := w.heap.size)
    ⟨Adds.refl _, by simp [TM.at_put], by simp [TM.at_put], (0, false), rfl, by simp [TM.at_put], by simp [TM.at_put]⟩ la4 hlt0 la3.size hR4 hT4 (by exact hD4) la4.size hIt (hml.ext la4'.ext) hbn ?_
  intro S ts5 σ5 ι5 a5 w5 hperm hI hL5 hR5 hT5 hD5 ⟨seen, c0, hIt5⟩ hx5
  have hbm0 : ι m = some bm := map_known hR ha hm hbm la3.ext
  obtain ⟨hR6, hL6⟩ := range_end (l := l) hbm0 ⟨_, hl⟩ hL5 hR5 hIt5 ((hml.ext la4'.ext).ext hx5) hbn
  have hold6 : ∀ x, x < σ'.next → (σ5.put m (some (.amap l))).get x = σ'.get x := fun x hx => by
    rw [AS.get_put]
    by_cases e : x = m
    · subst e; rw [if_pos rfl, hl]
    · rw [if_neg e, hI.adds.old x (by simp; omega), AS.get_skip, AS.get_put, if_neg e]
  obtain ⟨q', hq', h6, h7⟩ := hI.acc
  rw [nextL_perm t hperm, hw] at hq'
  injection hq' with hq'; subst hq'
  show Code.wpIn _ _ _ _ _ _ _
  obtain ⟨ts8, hc8, hr8⟩ := n12_run (s := lvA T1.FT 9 3) (n := 9) (σ := σ5.put m (some (.amap l))) (ts := (ts5.put 17 (.tup [.bool false])).put 18 (.bool false)) (u := .int .i64 q.1) (v := .bool q.2) (by simp [TM.at_put, h6]) (by simp [TM.at_put, h7])
  refine wpIn_mono (code_ok hs hmix 9 _ n12 (by kernel_rfl) _ (σ5.put m (some (.amap l))) .ret ts8 _ hc8 Fence.wide (.inl rfl) ι5 a5 w5 w.heap.size hR6 hT5 hD5 hL6.size) fun e a8 w8 hp => ?_
  obtain ⟨ι8, rfl, la8, hR8, hT8, hD8⟩ := hp
  have hL8 := hL6.trans hlt0 la8
  have := leave_ok (R' := Ret Tryz.prog ι σ' w σ' (.tup [.int .i64 q.1, .bool q.2])) (fn := Tryz.f280) (tmps := a8.tmps) (Nat.le_refl w.heap.size) (fun w9 hR9 hL9 => by
    obtain ⟨z, g1, g2⟩ := results_ok hR9 hT8 (by kernel_rfl : cRes Tryz.prog Tryz.f280.results.toList = some [.tmp 4, .tmp 5]) hr8
    obtain ⟨k1, k2⟩ := gc_none hR hL9 hR9 hold6
    refine ⟨z, g1, z, ι, rfl, k2, k1, ?_⟩
    cases g2 with
    | tup g2 =>
    cases g2 with
    | cons g2 g3 =>
    cases g2
    cases g3 with
    | cons g3 g4 =>
    cases g3
    cases g4
    exact .tup (.cons (.int _ _) (.cons (.bool _) .nil))) a8.defers w8 hD8 hR8 hL8
  exact this
#print axioms which_row
#print axioms next_row
end Tw

/-
  Av: append, copy, clear, bytes to strings.
-/
import Derived.Test.YtnekfkhjokgdmaaGreatAvOps6
set_option linter.unusedVariables false
set_option linter.unusedSimpArgs false
namespace Go.Av
section
variable {P : Program} {ι : Emb} {σ σ' : AS} {w : World} {ts : TM} {a : Act} {v : AV}

theorem bytesAV_rel (s : List UInt8) : VRL ι (bytesAV s) (s.map fun b => .int .u8 b.toNat) ∧ ∀ x ∈ bytesAV s, oneA x = true := by
  induction s with
  | nil => exact ⟨.nil, by simp [bytesAV]⟩
  | cons b s ih => exact ⟨.cons (.int _ _) ih.1, fun x hx => by
      simp [bytesAV] at hx
      rcases hx with rfl | hx
      · rfl
      · exact ih.2 x hx⟩
theorem first_ok {sz n : Nat} {x : AV} {u : Value} {l : List AV} (h : firstA σ sz n x = some l) (hx : VR ι x u) (hR : R P ι σ w) :
    ∃ cs : List Value, (∀ w' : World, w'.heap = w.heap → (Builtin.firstCells sz n u).run P w' = .ok cs.toArray w') ∧ VRL ι l cs ∧ l.length = n * sz ∧ ∀ y ∈ l, oneA y = true := by
  unfold firstA at h
  split at h
  · cases hb : Nat.beq n 0 with
    | false => rw [hb] at h; cases h
    | true =>
      rw [hb] at h; injection h with h; subst h
      have := Nat.eq_of_beq_eq_true hb; subst this
      cases hx
      exact ⟨[], fun w' hw => by simp [Builtin.firstCells], .nil, by simp, by simp⟩
  · cases hb : Nat.beq n 0 with
    | false => rw [hb] at h; cases h
    | true =>
      rw [hb] at h; injection h with h; subst h
      have := Nat.eq_of_beq_eq_true hb; subst this
      cases hx with
      | empsl p c => cases p <;> exact ⟨[], fun w' hw => by simp [Builtin.firstCells, loadCells, loadCellsFrom], .nil, by simp, by simp⟩
  · rename_i b o m c ex
    obtain ⟨g, c', hg, rfl, _⟩ := hx.sl_inv
    cases hb : Nat.ble n m with
    | false => rw [hb] at h; cases h
    | true =>
      rw [hb] at h
      simp only [cond_true] at h
      split at h
      · rename_i ro ex' e l' hl'
        obtain ⟨cs, fr, h1, _, _, _, h2, h3, _⟩ := hR.cells hg hl'
        obtain ⟨h4, h5⟩ := range_rel h2 h
        refine ⟨_, ?_, h4, (getRange_eq h).2, fun y hy => ?_⟩
        · intro w' hw; simp only [Builtin.firstCells]; exact run_range (by rw [hw]; exact h1) h5
        · rw [(getRange_eq h).1] at hy
          exact h3 y (List.mem_of_mem_drop (List.mem_of_mem_take hy))
      · cases hb0 : Nat.beq (n * sz) 0 with
        | false => rw [hb0] at h; cases h
        | true =>
          rw [hb0] at h; injection h with h; subst h
          have h0 := Nat.eq_of_beq_eq_true hb0
          exact ⟨[], fun w' hw => by simp [Builtin.firstCells, h0, loadCells, loadCellsFrom], .nil, by simp [h0], by simp⟩
  · rename_i s
    cases hb : Nat.beq sz 1 && Nat.ble n s.length with
    | false => rw [hb] at h; cases h
    | true =>
      rw [hb] at h; injection h with h; subst h
      have hb' := Bool.and_eq_true_iff.1 hb
      have := Nat.eq_of_beq_eq_true hb'.1; subst this
      have hle := Nat.le_of_ble_eq_true hb'.2
      rw [hx.str_inv]
      obtain ⟨h1, h2⟩ := bytesAV_rel (ι := ι) (s.take n)
      refine ⟨_, ?_, h1, ?_, h2⟩
      · intro w' hw
        simp only [Builtin.firstCells, Sem.run_pure]
        congr 1
        apply Array.ext'
        have e : ((ByteArray.mk s.toArray).extract 0 n).data.toList = s.take n := by
          rw [ByteArray.data_extract]
          simp [List.extract_eq_take_drop]
        simp [e]
      · rw [h1.len]; simp; omega
  · cases h

theorem nextcap_le (n c : Nat) (h : c < n) : Builtin.nextslicecap n c ≤ 2 * n + 1024 := by
  have grow : ∀ r d, d ≤ 2 * n + 1024 → c ≤ d → Builtin.growBy n r d ≤ 2 * n + 1024 := by
    intro r
    induction r with
    | zero => intro d hd _; simpa [Builtin.growBy] using hd
    | succ r ih =>
      intro d hd hc
      unfold Builtin.growBy
      split
      · exact hd
      · exact ih _ (by omega) (by omega)
  unfold Builtin.nextslicecap
  split
  · omega
  · split
    · omega
    · exact grow 4 c (by omega) (Nat.le_refl _)
theorem run_askRoom (n : Nat) (w : World) : (askRoom n).run P w = .ok () w := by
  unfold askRoom
  split
  · simp [mark, Sem.run]
  · rfl

/-- What append is asked with. -/
structure AppArgs (P : Program) (ts' : Array TypeId) (e : TypeId) (i : TypeInfo) : Prop where
  st : ∃ t, ts'[0]? = some t ∧ P.underlying t = some (.slice e)
  info : P.info? e = some i
  zero : ∃ z, i.zero = some z ∧ z.cells.size = i.size
  bytes : i.bytes ≤ 100000000
  xt : ∃ t d, ts'[1]? = some t ∧ P.underlying t = some d ∧ (d = .string ∨ ∃ q, d = .slice q)

/-- It fits. -/
theorem append_fits {ts' : Array TypeId} {e ty : TypeId} {i : TypeInfo} (hA : AppArgs P ts' e i) {base : Option Addr} {m cap n : Nat} {u : Value} {cs : List Value} (hlen : ∀ w, (Builtin.lenOf u).run P w = .ok n w) (hnew : (Builtin.firstCells i.size n u).run P w = .ok cs.toArray w) (hfit : m + n ≤ cap)
    {w' : World} (hst : ∀ ad, base = some ad → (storeCells (ad.add (m * i.size)) cs).run P w = .ok () w') (hnone : base = none → w' = w) :
    (Builtin.append_ ts' ty #[.slice base m cap, u]).run P w = .ok (.slice base (m + n) cap) w' := by
  obtain ⟨t, h0, hu⟩ := hA.st
  obtain ⟨t', d, h1, hu', hd⟩ := hA.xt
  cases base with
  | none =>
    obtain rfl := hnone rfl
    rcases hd with rfl | ⟨q, rfl⟩ <;> simp [Builtin.append_, h0, h1, run_underlying hu, run_underlying hu', run_sizeOf hA.info, hlen, hnew, hfit]
  | some ad =>
    have := hst ad rfl
    rcases hd with rfl | ⟨q, rfl⟩ <;> simp [Builtin.append_, h0, h1, run_underlying hu, run_underlying hu', run_sizeOf hA.info, hlen, hnew, hfit, this]
/-- It doesn't: a new row, of whatever capacity. -/
theorem append_grows {ts' : Array TypeId} {e ty : TypeId} {i : TypeInfo} (hA : AppArgs P ts' e i) {base : Option Addr} {m cap n : Nat} {u : Value} {os cs : List Value} (hlen : ∀ w, (Builtin.lenOf u).run P w = .ok n w) (hold : ∀ w' : World, w'.heap = w.heap → (Builtin.firstCells i.size m (.slice base m cap)).run P w' = .ok os.toArray w') (hnew : ∀ w' : World, w'.heap = w.heap → (Builtin.firstCells i.size n u).run P w' = .ok cs.toArray w') (hfit : ¬ m + n ≤ cap)
    (hsmall : (m + n) * i.bytes ≤ 70368744177664) (hn : m + n ≤ 70368744177664) :
    ∃ (c' : Nat) (w' : World) (rest : List Value), m + n ≤ c' ∧ rest.length = (c' - (m + n)) * i.size ∧ w'.heap = w.heap ∧ w'.os = w.os ∧ w'.tape = w.tape ∧ w'.output = w.output ∧
      (Builtin.append_ ts' ty #[.slice base m cap, u]).run P w = .ok (.slice (some ⟨w.heap.size, 0, none⟩) (m + n) c') (w'.alloc (.cells (os ++ cs ++ rest).toArray e)) := by
  obtain ⟨t, h0, hu⟩ := hA.st
  obtain ⟨t', d, h1, hu', hd⟩ := hA.xt
  obtain ⟨z, hz, hzs⟩ := hA.zero
  obtain ⟨c', hc', hch⟩ : ∃ c', m + n ≤ c' ∧ (choose (.appendCap (m + n) cap e)).run P w = .ok c' { w with drawn := w.drawn + 1 } :=
    ⟨_, Nat.le_add_right _ _, by simp only [choose, Sem.run, Question.forced]; rfl⟩
  have hcapn : cap < m + n := by omega
  have hb1 : ¬ ((((m + n : Nat)) : Int) > IntKind.i64.max) := by
    have : IntKind.i64.max = 9223372036854775807 := by simp [IntKind.max, IntKind.signed, IntKind.bits]
    rw [this]; omega
  have hb2 : ¬ (Builtin.nextslicecap (m + n) cap * i.bytes > 2 ^ 48) := by
    have h1 := nextcap_le (m + n) cap hcapn
    have h2 : Builtin.nextslicecap (m + n) cap * i.bytes ≤ (2 * (m + n) + 1024) * i.bytes := Nat.mul_le_mul_right _ h1
    have h3 : (2 * (m + n) + 1024) * i.bytes = 2 * ((m + n) * i.bytes) + 1024 * i.bytes := by rw [Nat.add_mul, Nat.mul_assoc]
    have h6 : i.bytes ≤ 100000000 := hA.bytes
    omega
  refine ⟨c', { w with drawn := w.drawn + 1 }, (Builtin.zeroCells z.cells (c' - (m + n))).toList, hc', by simp [Builtin.zeroCells, hzs], rfl, rfl, rfl, rfl, ?_⟩
  have ho := hold { w with drawn := w.drawn + 1 } rfl
  have hw := hnew { w with drawn := w.drawn + 1 } rfl
  have hzv := fun w' => run_zeroValue hA.info hz w'
  have hti := fun w' => run_typeInfo hA.info w'
  have hsz := fun w' => run_sizeOf hA.info w'
  have ha := fun k w' => run_askRoom (P := P) k w'
  have key : ∀ (x : Sem Value), x = newRow e (os.toArray ++ cs.toArray ++ Builtin.zeroCells z.cells (c' - (m + n))) >>= (fun ad => pure (Value.slice (some ad) (m + n) c')) → x.run P { w with drawn := w.drawn + 1 } = .ok (.slice (some ⟨w.heap.size, 0, none⟩) (m + n) c') (World.alloc { w with drawn := w.drawn + 1 } (.cells (os ++ cs ++ (Builtin.zeroCells z.cells (c' - (m + n))).toList).toArray e)) := by
    intro x hx
    subst hx
    have e1 : os.toArray ++ cs.toArray ++ Builtin.zeroCells z.cells (c' - (m + n)) = (os ++ cs ++ (Builtin.zeroCells z.cells (c' - (m + n))).toList).toArray := by
      apply Array.ext'; simp
    rw [e1]
    simp [newRow]
    rfl
  rcases hd with rfl | ⟨q, rfl⟩
  · simp only [Builtin.append_, h0, List.getElem?_toArray, List.getElem?_cons_zero, List.getElem?_cons_succ, Sem.run_bind, run_underlying hu, Result.andThen_ok, hsz, h1, run_underlying hu', Sem.run_pure, Bool.false_eq_true, if_false, hlen, hfit, hb1, false_and, hti, hb2, hch, ha, ho, hw, Bool.not_false, if_true, hzv]
    exact key _ rfl
  · simp only [Builtin.append_, h0, List.getElem?_toArray, List.getElem?_cons_zero, List.getElem?_cons_succ, Sem.run_bind, run_underlying hu, Result.andThen_ok, hsz, h1, run_underlying hu', Sem.run_pure, Bool.false_eq_true, if_false, hlen, hfit, hb1, false_and, hti, hb2, hch, ha, ho, hw, Bool.not_false, if_true, hzv]
    exact key _ rfl

/-! ### Worlds that differ in what was drawn -/
theorem R.sameHeap (hR : R P ι σ w) {w' : World} (h : w'.heap = w.heap) : R P ι σ w' := ⟨by rw [h]; exact hR.lt, hR.fresh, hR.inj, by rw [h]; exact hR.obj⟩
theorem Later.sameHeap {w' : World} (h1 : w'.heap = w.heap) (h2 : w'.os = w.os) (h3 : w'.tape = w.tape) (h4 : w'.output = w.output) : Later ι σ w ι σ w' :=
  ⟨Ext.refl _, fun _ _ h => .inl h, Nat.le_refl _, fun _ _ _ => rfl, fun _ _ h => h, by rw [h1]; exact Nat.le_refl _, fun _ _ _ => by rw [h1], h2, h3, h4⟩
/-- The new row of an append. -/
theorem R.grown (hR : R P ι σ w) {e : TypeId} {i : TypeInfo} {l : List AV} {os rest : List Value} {need c' : Nat} {w' : World} (hi : P.info? e = some i) (h1 : w'.heap = w.heap) (h2 : w'.os = w.os) (h3 : w'.tape = w.tape) (h4 : w'.output = w.output)
    (hl : VRL ι l os) (hone : ∀ x ∈ l, oneA x = true) (hll : l.length = need * i.size) (hrest : rest.length = (c' - need) * i.size) (hc : need ≤ c') :
    ∃ ι', Later ι σ w ι' (σ.alloc (.cells false false e l)) (w'.alloc (.cells (os ++ rest).toArray e)) ∧ R P ι' (σ.alloc (.cells false false e l)) (w'.alloc (.cells (os ++ rest).toArray e)) ∧
      VR ι' (.sl σ.next 0 need need false) (.slice (some ⟨w.heap.size, 0, none⟩) need c') := by
  have hR' := hR.sameHeap h1
  have hsz : w'.heap.size = w.heap.size := by rw [h1]
  have hlo := hl.len
  have hO : OR P (at_ ι σ.next w'.heap.size c') σ.next (.cells false false e l) (.cells (os ++ rest).toArray e (0, 0)) := by
    refine ⟨_, (0, 0), rfl, fun _ => rfl, by simp; omega, fun h => (by cases h), ?_, hone, fun _ => ⟨i.size, by simp [sizeAt, hi], ?_⟩⟩
    · have : (os ++ rest).take l.length = os := by rw [hlo]; simp
      simp only [this]
      exact hl.ext (hR'.ext_at _ _)
    · rw [at_room, if_pos rfl]
      simp only [List.size_toArray, List.length_append]
      rw [← hlo, hll, hrest, ← Nat.add_mul]
      congr 1
      omega
  obtain ⟨r1, r2⟩ := hR'.alloc c' hO
  refine ⟨_, (Later.sameHeap h1 h2 h3 h4).trans (fun b c hb => (hR.lt b c hb).1) r2, r1, ?_⟩
  rw [← hsz]
  exact .sl (at_self _ _ _ _) hc (fun h => by cases h) (Nat.le_refl _) (fun _ _ => by rw [at_room, if_pos rfl])

theorem R.congr (hR : R P ι σ w) (hn : σ.next = σ'.next) (hg : ∀ x, σ.get x = σ'.get x) : R P ι σ' w := by
  have hl : ∀ x, σ'.live x → σ.live x := fun x ⟨o, ho⟩ => ⟨o, by rw [hg]; exact ho⟩
  refine ⟨by rw [← hn]; exact hR.lt, fun b hb => by rw [← hg]; exact hR.fresh b (by rw [hn]; exact hb), fun b b' c h1 h2 h3 h4 => ?_, fun b c o h1 h2 => hR.obj b c o h1 (by rw [hg]; exact h2)⟩
  rcases hR.inj b b' c (hl _ h1) (hl _ h2) h3 h4 with h | ⟨⟨x, y, z, h5⟩, ⟨x', y', z', h6⟩⟩
  · exact .inl h
  · exact .inr ⟨⟨x, y, z, by rw [← hg]; exact h5⟩, ⟨x', y', z', by rw [← hg]; exact h6⟩⟩
theorem Later.congr {ι' : Emb} {σ1 : AS} {w' : World} (h : Later ι σ w ι' σ' w') (hn : σ'.next = σ1.next) (hg : ∀ x, σ'.get x = σ1.get x) : Later ι σ w ι' σ1 w' :=
  ⟨h.ext, h.new, by rw [← hn]; exact h.next, fun b hb hi => by rw [← hg]; exact h.ghost b hb hi, fun b hb hi => by rw [← hg]; exact h.dead b hb hi, h.size, h.frame, h.os, h.tape, h.output⟩
theorem Later.then_kill {ι' : Emb} {w' : World} (h : Later ι σ w ι' σ' w') {b c : Nat} (hb : ι b = some c) : Later ι σ w ι' (σ'.put b none) w' :=
  ⟨h.ext, h.new, h.next, fun x hx hi => by rw [AS.get_put, if_neg (by rintro rfl; rw [hb] at hi; cases hi)]; exact h.ghost x hx hi, fun x hx hi => by rw [AS.get_put]; split; rfl; exact h.dead x hx hi, h.size, h.frame, h.os, h.tape, h.output⟩
theorem get_alloc_put (σ : AS) (b : Nat) (o : AObj) (o' : Option AObj) (m : Nat) : ((σ.put b o').alloc o).get m = if m = σ.next then some o else if m = b then o' else σ.get m := by
  have h := AS.get_alloc (σ.put b o') o m
  rw [AS.get_put] at h
  exact h
theorem kill_alloc (σ : AS) (b : Nat) (o : AObj) (hb : b ≠ σ.next) : ∀ x, ((σ.alloc o).put b none).get x = ((σ.put b none).alloc o).get x := fun x => by
  rw [AS.get_put, AS.get_alloc, get_alloc_put]
  by_cases h1 : x = b
  · subst h1; rw [if_pos rfl, if_neg hb, if_pos rfl]
  · rw [if_neg h1, if_neg h1]
theorem lenV_none {x : AV} {n : Nat} {u : Value} (h : lenV x = some n) (hx : VR ι x u) : ∀ w, (Builtin.lenOf u).run P w = .ok n w := fun w => lenV_ok h hx w

theorem app_ok {ts' : Array TypeId} {e ty : TypeId} {i : TypeInfo} {s x : AV} {us ux : Value} (hA : AppArgs P ts' e i) (hR : R P ι σ w) (hs : VR ι s us) (hx : VR ι x ux) (h : appA σ e i.size i.bytes s x = some (v, σ')) :
    ∃ ι' w' u, (Builtin.append_ ts' ty #[us, ux]).run P w = .ok u w' ∧ Later ι σ w ι' σ' w' ∧ R P ι' σ' w' ∧ VR ι' v u := by
  unfold appA at h
  split at h
  · cases h
  rename_i n hn
  split at h
  · cases h
  rename_i new hnew
  obtain ⟨cs, c1, c2, c3, c4⟩ := first_ok (P := P) hnew hx hR
  have hlen := lenV_none (P := P) hn hx
  have hcl := c2.len
  split at h
  · -- nil
    cases hs
    cases hb : Nat.beq n 0 with
    | true =>
      rw [hb] at h
      have h0 := Nat.eq_of_beq_eq_true hb; subst h0
      simp only [cond_true] at h
      injection h with h; injection h with h h'; subst h; subst h'
      refine ⟨ι, w, _, append_fits (w' := w) hA hlen (c1 w rfl) (Nat.le_refl _) (fun ad h => by cases h) (fun _ => rfl), .refl _ _ _, hR, .nilsl⟩
    | false =>
      rw [hb] at h
      simp only [cond_false] at h
      cases hb2 : Nat.ble n 70368744177664 && Nat.ble (n * i.bytes) 70368744177664 with
      | false => rw [hb2] at h; cases h
      | true =>
        rw [hb2] at h
        have hb2' := Bool.and_eq_true_iff.1 hb2
        simp only [cond_true] at h
        injection h with h; injection h with h h'; subst h; subst h'
        have hpos : n ≠ 0 := fun e => by rw [e] at hb; cases hb
        obtain ⟨c', w', rest, g1, g2, g3, g4, g5, g6, g7⟩ := append_grows (ty := ty) (base := none) (m := 0) (cap := 0) (os := []) hA hlen (fun w' _ => by simp [Builtin.firstCells]) c1 (by omega) (by rw [Nat.zero_add]; exact Nat.le_of_ble_eq_true hb2'.2) (by rw [Nat.zero_add]; exact Nat.le_of_ble_eq_true hb2'.1)
        rw [Nat.zero_add] at g1 g2 g7
        obtain ⟨ι', k1, k2, k3⟩ := hR.grown (need := n) hA.info g3 g4 g5 g6 c2 c4 c3 g2 g1
        rw [List.nil_append] at g7
        exact ⟨ι', _, _, g7, k1, k2, k3⟩
  · rename_i b o m c ex
    obtain ⟨g, cc, hg, rfl, hc, hex, hm, hrm⟩ := hs.sl_inv
    cases hb : Nat.ble (m + n) c with
    | true =>
      rw [hb] at h
      have hle := Nat.le_of_ble_eq_true hb
      simp only [cond_true] at h
      cases hb0 : Nat.beq n 0 with
      | true =>
        rw [hb0] at h
        have h0 := Nat.eq_of_beq_eq_true hb0; subst h0
        simp only [cond_true] at h
        injection h with h; injection h with h h'; subst h; subst h'
        have hcs : cs = [] := List.eq_nil_of_length_eq_zero (by rw [← hcl, c3]; simp)
        subst hcs
        refine ⟨ι, w, _, append_fits (w' := w) hA hlen (c1 w rfl) (by omega) (fun ad h => by simp [storeCells]) (fun h => by cases h), .refl _ _ _, hR, .sl hg hc hex hm hrm⟩
      | false =>
        rw [hb0] at h
        simp only [cond_false] at h
        split at h
        · rename_i σ1 hw
          injection h with h; injection h with h h'; subst h; subst h'
          obtain ⟨w', r1, r2, r3⟩ := write_ok (P := P) hR hg hw c2 c4
          refine ⟨ι, w', _, append_fits (w' := w') hA hlen (c1 w rfl) (by omega) (fun ad h => by injection h with h; subst h; rw [add_off]; exact r1) (fun h => by cases h), r3, r2, .sl hg hc hex hle hrm⟩
        · cases h
    | false =>
      rw [hb] at h
      have hgt : ¬ m + n ≤ c := fun h' => by rw [Nat.ble_eq_true_of_le h'] at hb; cases hb
      simp only [cond_false] at h
      cases hb2 : Nat.ble (m + n) 70368744177664 && Nat.ble ((m + n) * i.bytes) 70368744177664 with
      | false => rw [hb2] at h; cases h
      | true =>
        rw [hb2] at h
        have hb2' := Bool.and_eq_true_iff.1 hb2
        have hs1 := Nat.le_of_ble_eq_true hb2'.1
        have hs2 := Nat.le_of_ble_eq_true hb2'.2
        simp only [cond_true] at h
        split at h
        · cases h
        rename_i old hold
        obtain ⟨os, o1, o2, o3, o4⟩ := first_ok (P := P) hold hs hR
        have hall : VRL ι (old ++ new) (os ++ cs) := o2.append c2
        have hall1 : ∀ y ∈ old ++ new, oneA y = true := fun y hy => (List.mem_append.1 hy).elim (o4 y) (c4 y)
        have hlenall : (old ++ new).length = (m + n) * i.size := by rw [List.length_append, o3, c3, Nat.add_mul]
        -- where it grows
        have grows : ¬ m + n ≤ cc → ∃ ι' w' u, (Builtin.append_ ts' ty #[.slice (some ⟨g, o, none⟩) m cc, ux]).run P w = .ok u w' ∧ Later ι σ w ι' (σ.alloc (.cells false false e (old ++ new))) w' ∧ R P ι' (σ.alloc (.cells false false e (old ++ new))) w' ∧ VR ι' (.sl σ.next 0 (m + n) (m + n) false) u := fun hno => by
          have o1' : ∀ w' : World, w'.heap = w.heap → (Builtin.firstCells i.size m (.slice (some ⟨g, o, none⟩) m cc)).run P w' = .ok os.toArray w' := o1
          obtain ⟨c', w', rest, g1, g2, g3, g4, g5, g6, g7⟩ := append_grows (ty := ty) hA hlen o1' c1 hno hs2 hs1
          obtain ⟨ι', k1, k2, k3⟩ := hR.grown (need := m + n) hA.info g3 g4 g5 g6 hall hall1 hlenall g2 g1
          exact ⟨ι', _, _, g7, k1, k2, k3⟩
        cases hx' : ex with
        | true =>
          rw [hx'] at h
          simp only [cond_true] at h
          injection h with h; injection h with h h'; subst h; subst h'
          exact grows (by rw [hex hx']; exact hgt)
        | false =>
          rw [hx'] at h
          simp only [cond_false] at h
          cases hb3 : Nat.beq o 0 with
          | false => rw [hb3] at h; cases h
          | true =>
            rw [hb3] at h
            have ho := Nat.eq_of_beq_eq_true hb3; subst ho
            simp only [cond_true] at h
            split at h
            · rename_i ex2 e2 l hl
              cases hb4 : Nat.beq e e2 && !ex2 with
              | false => rw [hb4] at h; cases h
              | true =>
                rw [hb4] at h
                have hb4' := Bool.and_eq_true_iff.1 hb4
                have he := Nat.eq_of_beq_eq_true hb4'.1; subst he
                have hex2 : ex2 = false := by simpa using hb4'.2
                subst hex2
                simp only [cond_true] at h
                injection h with h; injection h with h h'; subst h; subst h'
                have hK := hR.kill b
                have hLK : Later ι σ w ι (σ.put b none) w := Later.kill b g hg
                by_cases hin : m + n ≤ cc
                · -- in place: the old block is the new one
                  obtain ⟨cs0, fr, q1, q2, q3, q4, q5, q6, q7⟩ := hR.cells hg hl
                  obtain rfl := q2 rfl
                  obtain ⟨s0, q8, q9⟩ := q7 rfl
                  have hs0 : s0 = i.size := by
                    obtain ⟨i2, hi2, hs2⟩ := sizeAt_ok q8
                    rw [hA.info] at hi2; injection hi2 with hi2; subst hi2; exact hs2.symm
                  subst hs0
                  have hroom : cc = ι.room b := hrm hx' rfl
                  have hcs0 : (m + n) * i.size ≤ cs0.size := by rw [q9, ← hroom]; exact Nat.mul_le_mul_right _ hin
                  have hcslen : cs.length = n * i.size := by rw [← hcl, c3]
                  have hoslen : os.length = m * i.size := by rw [← o2.len, o3]
                  have hsum : m * i.size + cs.length ≤ cs0.size := by rw [hcslen, ← Nat.add_mul]; exact hcs0
                  have hrun := run_storeCells_at (P := P) g (m * i.size) e cs 0 cs0 w q1 (by omega) (c2.one c4)
                  rw [Nat.add_zero] at hrun
                  -- the cells ahead are those that were read
                  have hos : cs0.toList.take (m * i.size) = os := by
                    have hrd := o1 w rfl
                    simp only [Builtin.firstCells] at hrd
                    have hl2 : ((cs0.toList.drop 0).take (m * i.size)).length = m * i.size := by simp; omega
                    have := run_range (P := P) (o := 0) q1 hl2
                    rw [this] at hrd
                    injection hrd with hrd
                    simpa using hrd
                  let w' := w.setRow g (cs0.toList.take (m * i.size) ++ cs ++ cs0.toList.drop (m * i.size + cs.length)).toArray
                  have hw'g : w'.heap[g]? = some (.cells (os ++ cs ++ cs0.toList.drop (m * i.size + cs.length)).toArray e (0, 0)) := by
                    rw [← hos]; exact setRow_heap w g cs0 _ e _ q1
                  have hw'o : ∀ d, d ≠ g → w'.heap[d]? = w.heap[d]? := fun d hd => setRow_other w g d _ hd
                  have hw's : w'.heap.size = w.heap.size := by simp [w']
                  have hlv : σ.live b := ⟨_, hl⟩
                  have hnext : ∀ x c, ι x = some c → x ≠ σ.next := fun x c hx => by have := (hR.lt x c hx).1; omega
                  have hExt : Ext ι ⟨fun y => if y = σ.next then some g else ι y, fun y => if y = σ.next then cc else ι.room y⟩ := fun x c hx => by
                    have := hnext x c hx
                    exact ⟨by simpa [this] using hx, by simp [this]⟩
                  have hnot : ∀ y c, σ.live y → ι y = some c → y ≠ b → c ≠ g := fun y c h1 h2 h3 h4 => by
                    subst h4
                    rcases hR.inj y b c h1 hlv h2 hg with h | ⟨_, ⟨x, y, z, h⟩⟩
                    · exact h3 h
                    · rw [hl] at h; cases h
                  refine ⟨⟨fun y => if y = σ.next then some g else ι y, fun y => if y = σ.next then cc else ι.room y⟩, w', _, append_fits (w' := w') hA hlen (c1 w rfl) hin (fun ad h => by injection h with h; subst h; rw [add_off, Nat.zero_add]; exact hrun) (fun h => by cases h), ?_, ?_, ?_⟩
                  · refine ⟨hExt, fun y c hy => ?_, Nat.le_succ _, fun y hy hn => ?_, fun y hy hn => ?_, by omega, fun c hc hf => hw'o c (fun e => by subst e; exact hf b hlv hg), rfl, rfl, rfl⟩
                    · by_cases e : y = σ.next
                      · subst e
                        have : (some g : Option Nat) = some c := by simpa using hy
                        injection this with this; subst this
                        exact .inr ⟨Nat.le_refl _, .inr ⟨b, hlv, hg⟩⟩
                      · exact .inl (by simpa [e] using hy)
                    · rw [get_alloc_put, if_neg (by omega), if_neg (by rintro rfl; rw [hg] at hn; cases hn)]
                    · rw [get_alloc_put, if_neg (by omega)]; split; rfl; exact hn
                  · refine ⟨fun y c hy => ?_, fun y hy => ?_, fun y y' c h1 h2 h3 h4 => ?_, fun y c z hy hz => ?_⟩
                    · rw [hw's, AS.next_alloc, AS.next_put]
                      by_cases e : y = σ.next
                      · subst e
                        have : (some g : Option Nat) = some c := by simpa using hy
                        injection this with this; subst this
                        exact ⟨Nat.lt_succ_self _, (hR.lt b g hg).2⟩
                      · have hy' : ι y = some c := by simpa [e] using hy
                        have := hR.lt y c hy'; omega
                    · rw [AS.next_alloc, AS.next_put] at hy
                      rw [get_alloc_put, if_neg (by omega)]
                      split
                      · rfl
                      · exact hR.fresh y (by omega)
                    · have lv : ∀ x, ((σ.put b none).alloc (.cells false false e (old ++ new))).live x → x ≠ σ.next → σ.live x ∧ x ≠ b := fun x ⟨q, hq⟩ hx => by
                        rw [get_alloc_put, if_neg hx] at hq
                        split at hq
                        · cases hq
                        · rename_i hxb; exact ⟨⟨q, hq⟩, hxb⟩
                      by_cases e1 : y = σ.next
                      · by_cases e2 : y' = σ.next
                        · exact .inl (e1.trans e2.symm)
                        · subst e1
                          have : (some g : Option Nat) = some c := by simpa using h3
                          injection this with this; subst this
                          have h4' : ι y' = some g := by simpa [e2] using h4
                          obtain ⟨l1, l2⟩ := lv y' h2 e2
                          exact absurd rfl (hnot y' g l1 h4' l2)
                      · by_cases e2 : y' = σ.next
                        · subst e2
                          have : (some g : Option Nat) = some c := by simpa using h4
                          injection this with this; subst this
                          have h3' : ι y = some g := by simpa [e1] using h3
                          obtain ⟨l1, l2⟩ := lv y h1 e1
                          exact absurd rfl (hnot y g l1 h3' l2)
                        · have h3' : ι y = some c := by simpa [e1] using h3
                          have h4' : ι y' = some c := by simpa [e2] using h4
                          obtain ⟨l1, l2⟩ := lv y h1 e1
                          obtain ⟨l3, l4⟩ := lv y' h2 e2
                          have up : ∀ x, σ.rob x → x ≠ b → x ≠ σ.next → ((σ.put b none).alloc (.cells false false e (old ++ new))).rob x := fun x ⟨p, q, r, hx⟩ n1 n2 => ⟨p, q, r, by rw [get_alloc_put, if_neg n2, if_neg n1]; exact hx⟩
                          rcases hR.inj y y' c l1 l3 h3' h4' with h | ⟨h5, h6⟩
                          · exact .inl h
                          · exact .inr ⟨up _ h5 l2 e1, up _ h6 l4 e2⟩
                    · rw [get_alloc_put] at hz
                      by_cases e1 : y = σ.next
                      · subst e1
                        rw [if_pos rfl] at hz
                        injection hz with hz; subst hz
                        have : (some g : Option Nat) = some c := by simpa using hy
                        injection this with this; subst this
                        refine ⟨_, hw'g, _, (0, 0), rfl, fun _ => rfl, ?_, (fun h => (by cases h)), ?_, hall1, fun _ => ⟨i.size, q8, ?_⟩⟩
                        · simp only [List.size_toArray, List.length_append, List.length_drop] at hlenall ⊢; omega
                        · have e2 : (os ++ cs ++ cs0.toList.drop (m * i.size + cs.length)).take (old ++ new).length = os ++ cs := by
                            rw [hall.len]; exact List.take_left' rfl
                          simp only [e2]
                          exact hall.ext hExt
                        · have : (os ++ cs ++ cs0.toList.drop (m * i.size + cs.length)).toArray.size = cs0.size := by
                            simp only [List.size_toArray, List.length_append, List.length_drop, Array.length_toList]; omega
                          rw [this, q9, ← hroom]; simp
                      · rw [if_neg e1] at hz
                        split at hz
                        · cases hz
                        · rename_i hyb
                          have hy' : ι y = some c := by simpa [e1] using hy
                          obtain ⟨q, hq, hr⟩ := hR.obj y c z hy' hz
                          exact ⟨q, by rw [hw'o c (hnot y c ⟨z, hz⟩ hy' hyb)]; exact hq, hr.ext hExt hy'⟩
                  · exact .sl (by simp) hin (fun h => by cases h) (Nat.le_refl _) (fun _ _ => by simp)
                · obtain ⟨ι', w', u, k1, k2, k3, k4⟩ := grows hin
                  have hne : b ≠ σ.next := by have := (hR.lt b g hg).1; omega
                  exact ⟨ι', w', u, k1, (k2.then_kill hg).congr rfl (kill_alloc σ b _ hne), (k3.kill b).congr rfl (kill_alloc σ b _ hne), k4⟩
            · cases h
  · cases h
end
end Go.Av

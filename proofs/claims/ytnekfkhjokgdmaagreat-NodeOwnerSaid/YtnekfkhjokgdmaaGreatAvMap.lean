/-
  Av: maps.
-/
import Derived.Test.YtnekfkhjokgdmaaGreatAvEq
set_option linter.unusedVariables false
set_option linter.unusedSimpArgs false
namespace Go.Av
section
variable {P : Program} {ι : Emb} {σ σ' : AS} {w : World} {ts : TM} {a : Act} {v : AV}

/-- A key of a flat type may be one. -/
def CkAt (P : Program) (em : Bool) (N : Nat) (t : TypeId) (n : Nat) : Prop := ∀ (w : World) (X : List Value), X.length = n → (Instr.checkKey em N t (mkv P t X)).run P w = .ok () w

theorem flat_ck (em : Bool) : ∀ (d : Nat) (t : TypeId) (ks : List Scal), flatAt P d t = some ks → ∀ N, CkAt P em (N + d) t ks.length
  | 0, t, ks, h, N => by simp [flatAt] at h
  | d + 1, t, ks, h, N => by
    intro w X hX
    rw [← Nat.add_assoc]
    have hplain : aggAt P t = some false → (∀ ms, P.underlying t ≠ some (.interface ms)) → (Instr.checkKey em (N + d + 1) t (mkv P t X)).run P w = .ok () w := fun hg hi => by
      unfold aggAt at hg
      cases hu : P.underlying t with
      | none => rw [hu] at hg; cases hg
      | some k =>
        rw [hu] at hg hi
        cases k <;> first | (simp at hg; done) | exact absurd rfl (hi _) | simp [Instr.checkKey, run_underlying hu]
    unfold flatAt at h
    split at h <;> rename_i hu
    · exact hplain (by simp [aggAt, hu]) (by simp [hu])
    · exact hplain (by simp [aggAt, hu]) (by simp [hu])
    · exact hplain (by simp [aggAt, hu]) (by simp [hu])
    · rename_i fs
      split at h
      · cases h
      · have hm : mkv P t X = .agg X.toArray := by simp [mkv, aggAt, hu]
        rw [hm]
        simp only [Instr.checkKey, Sem.run_bind, run_underlying hu, Result.andThen_ok]
        rw [← Array.forIn_toList]
        have key : ∀ (l : List Field) (off : Nat) (ks : List Scal), flatFields P (flatAt P d) l off = some ks → off + ks.length ≤ X.length →
            (forIn (m := Sem) l PUnit.unit fun f r => if f.name ≠ "_" then do
                Instr.checkKey em (N + d) f.type (← part f.type X.toArray f.offset)
                pure (ForInStep.yield PUnit.unit) else pure (ForInStep.yield PUnit.unit)).run P w = .ok PUnit.unit w := by
          intro l
          induction l with
          | nil => intro off ks hk ho; simp
          | cons f r ih =>
            intro off ks hk ho
            unfold flatFields at hk
            split at hk
            · rename_i l1 hl1
              split at hk
              · rename_i hc
                obtain ⟨hn, hof, hs⟩ := hc
                split at hk
                · rename_i l2 hl2
                  injection hk with hk; subst hk
                  obtain ⟨g, hg, hg1⟩ := flat_agg hl1
                  simp only [List.length_append] at ho
                  have p1 := run_part (w := w) (off := off) hg hs hg1 X.toArray (by simp; omega)
                  have p2 := flat_ck em d f.type l1 hl1 N w ((X.toArray.toList.drop off).take l1.length) (by simp; omega)
                  rw [List.forIn_cons, if_pos hn, hof]
                  simp only [Sem.run_bind, p1, Result.andThen_ok, p2, Sem.run_pure]
                  exact ih (off + l1.length) l2 hl2 (by omega)
                · cases hk
              · cases hk
            · cases hk
        have := key fs.toList 0 ks h (by omega)
        simp at this
        simp
        rw [this]
        rfl
    · rename_i n e
      split at h
      · rename_i l hl
        split at h
        · rename_i hs
          injection h with h; subst h
          obtain ⟨g, hg, hg1⟩ := flat_agg hl
          obtain ⟨i, hi, hsz⟩ := sizeAt_ok hs
          have hm : mkv P t X = .agg X.toArray := by simp [mkv, aggAt, hu]
          have hXl : X.length = n * l.length := by simpa using hX
          rw [hm]
          simp only [Instr.checkKey, Sem.run_bind, run_underlying hu, Result.andThen_ok]
          simp only [Std.Legacy.Range.forIn_eq_forIn_range', Std.Legacy.Range.size, Nat.sub_zero, Nat.add_one_sub_one, Nat.div_one]
          have key : ∀ (k s : Nat), (s + k) * l.length ≤ X.length →
              (forIn (m := Sem) (List.range' s k) PUnit.unit fun i r => do
                Instr.checkKey em (N + d) e (← part e X.toArray (i * (← sizeOf e)))
                pure (ForInStep.yield PUnit.unit)).run P w = .ok PUnit.unit w := by
            intro k
            induction k with
            | zero => intro s hs; simp
            | succ k ih =>
              intro s hle
              have m2 : (s + (k + 1)) * l.length = s * l.length + (l.length + k * l.length) := by rw [Nat.add_mul, Nat.succ_mul, Nat.add_comm (k * l.length)]
              rw [m2] at hle
              have p1 := run_part (w := w) (off := s * l.length) hg hs hg1 X.toArray (by simp; omega)
              have p2 := flat_ck em d e l hl N w ((X.toArray.toList.drop (s * l.length)).take l.length) (by simp; omega)
              rw [List.range'_succ, List.forIn_cons]
              simp only [Sem.run_bind, run_sizeOf hi, hsz, p1, Result.andThen_ok, p2, Sem.run_pure]
              exact ih (s + 1) (by rw [show s + 1 + k = s + (k + 1) from by omega, m2]; omega)
          have := key n 0 (by simp; omega)
          simp at this
          simp
          rw [this]
          rfl
        · cases h
      · cases h
    · cases h

theorem VR.agg_inv {l : List AV} {u : Value} (h : VR ι (.agg l) u) : ∃ cs, u = .agg cs.toArray ∧ VRL ι l cs ∧ ∀ v ∈ l, oneA v = true := by
  cases h with | agg h h1 => exact ⟨_, rfl, h, h1⟩
theorem eqA_flat {ks : List Scal} {x y : AV} {t : Bool} (h : eqA (.flat ks) x y = some t) : ∃ l m, x = .agg l ∧ y = .agg m ∧ cellsEq ks l m = some t := by
  unfold eqA at h
  split at h <;> first | (rename_i heq; cases heq; done) | cases h | skip
  rename_i ks' l m heq
  cases heq
  exact ⟨_, _, rfl, rfl, h⟩

/-- Two keys, looked at by their kind: equal or not; equal keys are one value. -/
structure KeyEq (P : Program) (t : TypeId) (u v : Value) (b : Bool) : Prop where
  equal : ∀ w, (Op.equal t u v).run P w = .ok b w
  now : ∀ d, P.underlying t = some d → Instr.sameNow d u v = some b ∨ Instr.sameNow d u v = none
  one : b = true → u = v
  bits : b = true → Instr.sameBits 10000 u u = true

theorem sameBits_list : ∀ (cs : List Value), (∀ c ∈ cs, ∀ n, Instr.sameBits n c c = true) → ∀ n, (cs.zip cs).all (fun (x, y) => Instr.sameBits n x y) = true
  | [], _, n => rfl
  | c :: cs, h, n => by
    simp only [List.zip_cons_cons, List.all_cons, Bool.and_eq_true]
    exact ⟨h c (by simp) n, sameBits_list cs (fun x hx => h x (by simp [hx])) n⟩
theorem bs_beq (b : ByteArray) : (b == b) = true := by rw [beq_toListBytes]; simp
theorem Sc.bits {s : Scal} {u v : Value} {b : Bool} (h : Sc s u v b) : ∀ n, Instr.sameBits n u u = true := by
  intro n
  cases h <;> simp [Instr.sameBits, bs_beq]
theorem Eqs.bits {ks : List Scal} {X Y : List Value} {b : Bool} (h : Eqs ks X Y b) : ∀ c ∈ X, ∀ n, Instr.sameBits n c c = true := by
  induction h with
  | nil => intro c hc; cases hc
  | cons h ht ih =>
    intro c hc n
    rcases List.mem_cons.1 hc with rfl | hc
    · exact h.bits n
    · exact ih c hc n
theorem keyEq_ok {t : TypeId} {k : EqK} {x y : AV} {u v : Value} {b : Bool} (hk : keyKind P t = some k) (h : eqA k x y = some b) (hx : VR ι x u) (hy : VR ι y v) : KeyEq P t u v b := by
  have flat : flatKind P t = some k → (∃ fs, P.underlying t = some (.struct fs)) ∨ (∃ n e, P.underlying t = some (.array n e)) → KeyEq P t u v b := fun hf hs => by
    unfold flatKind at hf
    split at hf
    · rename_i ks hks
      injection hf with hf; subst hf
      obtain ⟨l, m, rfl, rfl, hc⟩ := eqA_flat h
      obtain ⟨cs, rfl, h1, _⟩ := hx.agg_inv
      obtain ⟨ds, rfl, h2, _⟩ := hy.agg_inv
      have he := cellsEq_ok hc h1 h2
      have hm : ∀ Z : List Value, mkv P t Z = .agg Z.toArray := fun Z => by
        rcases hs with ⟨fs, hs⟩ | ⟨n, e, hs⟩ <;> simp [mkv, aggAt, hs]
      have hq := flat_eq 5 t ks hks 9995
      refine ⟨fun w => ?_, fun d hd => ?_, fun hb => ?_, fun hb => ?_⟩
      · have := hq w cs ds b he
        rw [hm, hm] at this
        exact this
      · rcases hs with ⟨fs, hs⟩ | ⟨n, e, hs⟩ <;> (rw [hs] at hd; injection hd with hd; subst hd; exact .inr rfl)
      · rw [he.eq hb]
      · unfold Instr.sameBits
        simp only [beq_self_eq_true, Bool.true_and]
        exact sameBits_list cs he.bits _
    · cases hf
  unfold keyKind at hk
  split at hk <;> rename_i hu
  · injection hk with hk; subst hk
    have hs := scalarEq_ok h hx hy
    cases hs
    exact ⟨fun w => run_equalIn_bool' w 9999 t _ _ hu, fun d hd => by rw [hu] at hd; injection hd with hd; subst hd; exact .inl rfl, fun hb => by simp at hb; rw [hb], fun _ => by simp [Instr.sameBits, bs_beq]⟩
  · injection hk with hk; subst hk
    have hs := scalarEq_ok h hx hy
    cases hs
    exact ⟨fun w => run_equalIn_int w 9999 t _ _ _ _ hu, fun d hd => by rw [hu] at hd; injection hd with hd; subst hd; exact .inl (by simp [Instr.sameNow]), fun hb => by simp at hb; rw [hb], fun _ => by simp [Instr.sameBits, bs_beq]⟩
  · injection hk with hk; subst hk
    have hs := scalarEq_ok h hx hy
    cases hs with
    | str p q =>
      refine ⟨fun w => (run_equalIn_string w 9999 t _ _ hu).trans (by rw [toList_mk, toList_mk]), fun d hd => ?_, fun hb => by simp at hb; rw [hb], fun _ => by simp [Instr.sameBits, bs_beq]⟩
      rw [hu] at hd; injection hd with hd; subst hd
      refine .inl ?_
      show some (ByteArray.mk p.toArray == ByteArray.mk q.toArray) = _
      rw [beq_toListBytes, toList_mk, toList_mk]
  · exact flat hk (.inl ⟨_, hu⟩)
  · exact flat hk (.inr ⟨_, _, hu⟩)
  · cases hk
theorem ck_plain {em : Bool} {t : TypeId} {u : Value} (n : Nat) (h : P.underlying t = some .bool ∨ (∃ k, P.underlying t = some (.int k)) ∨ P.underlying t = some .string) : (Instr.checkKey em (n + 1) t u).run P w = .ok () w := by
  rcases h with hu | ⟨k, hu⟩ | hu <;> simp [Instr.checkKey, run_underlying hu]
theorem keyCk_ok {t : TypeId} {k : EqK} {x y : AV} {u : Value} {b : Bool} (hk : keyKind P t = some k) (hx : VR ι x u) (hl : (∃ c, k = .sc c) ∨ (∃ ks l, k = .flat ks ∧ x = .agg l ∧ l.length = ks.length)) (em : Bool) (w : World) :
    (Instr.checkKey em 10000 t u).run P w = .ok () w := by
  have flat : flatKind P t = some k → (∃ fs, P.underlying t = some (.struct fs)) ∨ (∃ n e, P.underlying t = some (.array n e)) → (Instr.checkKey em 10000 t u).run P w = .ok () w := fun hf hs => by
    unfold flatKind at hf
    split at hf
    · rename_i ks hks
      injection hf with hf; subst hf
      rcases hl with ⟨c, hc⟩ | ⟨ks', l, h1, rfl, h2⟩
      · cases hc
      · injection h1 with h1; subst h1
        obtain ⟨cs, rfl, h3, _⟩ := hx.agg_inv
        have hm : ∀ Z : List Value, mkv P t Z = .agg Z.toArray := fun Z => by
          rcases hs with ⟨fs, hs⟩ | ⟨n, e, hs⟩ <;> simp [mkv, aggAt, hs]
        have := flat_ck em 5 t ks hks 9995 w cs (by rw [← h3.len, h2])
        rw [hm] at this
        exact this
    · cases hf
  unfold keyKind at hk
  split at hk <;> rename_i hu
  · exact ck_plain 9999 (.inl hu)
  · exact ck_plain 9999 (.inr (.inl ⟨_, hu⟩))
  · exact ck_plain 9999 (.inr (.inr hu))
  · exact flat hk (.inl ⟨_, hu⟩)
  · exact flat hk (.inr ⟨_, _, hu⟩)
  · cases hk

/-- Where a key stands. -/
noncomputable def mapIdx (k : EqK) (x : AV) : List (AV × AV) → Option (Option Nat)
  | [] => some none
  | (a, v) :: r => match eqA k x a with
    | some true => some (some 0)
    | some false => match mapIdx k x r with
      | some (some j) => some (some (j + 1))
      | some none => some none
      | none => none
    | none => none
theorem mapFind_idx {k : EqK} {x : AV} : ∀ {l : List (AV × AV)} {r : Option AV}, mapFind k x l = some r → ∃ j, mapIdx k x l = some j ∧ (match j with | none => r = none | some j => ∃ p, l[j]? = some p ∧ r = some p.2)
  | [], r, h => by injection h with h; subst h; exact ⟨none, rfl, rfl⟩
  | (a, v) :: l, r, h => by
    unfold mapFind at h
    unfold mapIdx
    split at h <;> rename_i he <;> (try rw [he])
    · injection h with h; subst h; exact ⟨some 0, rfl, (a, v), rfl, rfl⟩
    · obtain ⟨j, h1, h2⟩ := mapFind_idx h
      rw [h1]
      cases j with
      | none => exact ⟨none, rfl, h2⟩
      | some j => obtain ⟨p, h3, h4⟩ := h2; exact ⟨some (j + 1), rfl, p, by simpa using h3, h4⟩
    · cases h
theorem mapPut_idx {k : EqK} {x y : AV} : ∀ {l l' : List (AV × AV)}, mapPut k x y l = some l' → ∃ j, mapIdx k x l = some j ∧ (match j with | none => l' = l ++ [(x, y)] | some j => ∃ p, l[j]? = some p ∧ l' = l.set j (p.1, y))
  | [], l', h => by injection h with h; subst h; exact ⟨none, rfl, rfl⟩
  | (a, v) :: l, l', h => by
    unfold mapPut at h
    unfold mapIdx
    split at h <;> rename_i he <;> (try rw [he])
    · injection h with h; subst h; exact ⟨some 0, rfl, (a, v), rfl, rfl⟩
    · split at h
      · rename_i l1 hl1
        injection h with h; subst h
        obtain ⟨j, h1, h2⟩ := mapPut_idx hl1
        rw [h1]
        cases j with
        | none => exact ⟨none, rfl, by simp only at h2; rw [h2]; rfl⟩
        | some j => obtain ⟨p, h3, h4⟩ := h2; exact ⟨some (j + 1), rfl, p, by simpa using h3, by rw [h4]; rfl⟩
      · cases h
    · cases h
theorem mapDel_idx {k : EqK} {x : AV} : ∀ {l l' : List (AV × AV)}, mapDel k x l = some l' → ∃ j, mapIdx k x l = some j ∧ (match j with | none => l' = l | some j => j < l.length ∧ l' = l.eraseIdx j)
  | [], l', h => by injection h with h; subst h; exact ⟨none, rfl, rfl⟩
  | (a, v) :: l, l', h => by
    unfold mapDel at h
    unfold mapIdx
    split at h <;> rename_i he <;> (try rw [he])
    · injection h with h; subst h; exact ⟨some 0, rfl, by simp, rfl⟩
    · split at h
      · rename_i l1 hl1
        injection h with h; subst h
        obtain ⟨j, h1, h2⟩ := mapDel_idx hl1
        rw [h1]
        cases j with
        | none => exact ⟨none, rfl, by simp only at h2; rw [h2]⟩
        | some j => exact ⟨some (j + 1), rfl, by simpa using h2.1, by rw [h2.2]; rfl⟩
      · cases h
    · cases h

theorem MRL.len : ∀ {l : List (AV × AV)} {es : List MapEntry}, MRL ι l es → l.length = es.length
  | [], [], _ => rfl
  | _ :: _, _ :: _, ⟨_, _, h⟩ => by simp [MRL.len h]
theorem MRL.get : ∀ {l : List (AV × AV)} {es : List MapEntry} {j : Nat} {p : AV × AV}, MRL ι l es → l[j]? = some p → ∃ e, es[j]? = some e ∧ VR ι p.1 e.key ∧ VR ι p.2 e.val
  | [], [], j, p, _, h => by simp at h
  | (k, v) :: l, e :: es, 0, p, ⟨h1, h2, h3⟩, h => by simp at h; subst h; exact ⟨e, rfl, h1, h2⟩
  | (k, v) :: l, e :: es, j + 1, p, ⟨h1, h2, h3⟩, h => by simpa using MRL.get h3 (by simpa using h)
theorem MRL.append1 : ∀ {l : List (AV × AV)} {es : List MapEntry} {x y : AV} {e : MapEntry}, MRL ι l es → VR ι x e.key → VR ι y e.val → MRL ι (l ++ [(x, y)]) (es ++ [e])
  | [], [], x, y, e, _, h1, h2 => ⟨h1, h2, trivial⟩
  | (_, _) :: _, _ :: _, x, y, e, ⟨h1, h2, h3⟩, h4, h5 => ⟨h1, h2, MRL.append1 h3 h4 h5⟩
theorem MRL.set : ∀ {l : List (AV × AV)} {es : List MapEntry} {j : Nat} {x y : AV} {e : MapEntry}, MRL ι l es → VR ι x e.key → VR ι y e.val → MRL ι (l.set j (x, y)) (es.set j e)
  | [], [], j, x, y, e, _, _, _ => trivial
  | (_, _) :: _, _ :: _, 0, x, y, e, ⟨h1, h2, h3⟩, h4, h5 => ⟨h4, h5, h3⟩
  | (_, _) :: _, _ :: _, j + 1, x, y, e, ⟨h1, h2, h3⟩, h4, h5 => ⟨h1, h2, MRL.set h3 h4 h5⟩
theorem MRL.erase : ∀ {l : List (AV × AV)} {es : List MapEntry} {j : Nat}, MRL ι l es → MRL ι (l.eraseIdx j) (es.eraseIdx j)
  | [], [], j, _ => by simp [MRL]
  | (_, _) :: _, _ :: _, 0, ⟨h1, h2, h3⟩ => h3
  | (_, _) :: _, _ :: _, j + 1, ⟨h1, h2, h3⟩ => ⟨h1, h2, MRL.erase h3⟩

/-- What 'findKey' tells, by the place. -/
def foundAt (es : List MapEntry) (i : Nat) : Option Nat → Option (Nat × Value)
  | none => none
  | some j => (es[j]?).map fun e => (i + j, e.val)
theorem findNow_ok {t : TypeId} {k : EqK} {x : AV} {u : Value} {d : TypeDesc} (hk : keyKind P t = some k) (hd : P.underlying t = some d) (hx : VR ι x u) : ∀ (l : List (AV × AV)) (es : List MapEntry) (i : Nat) (j : Option Nat), MRL ι l es → mapIdx k x l = some j →
    Instr.findNow d u es i = none ∨ Instr.findNow d u es i = some (foundAt es i j)
  | [], [], i, j, _, h => by injection h with h; subst h; exact .inr rfl
  | (a, v) :: l, e :: es, i, j, ⟨h1, h2, h3⟩, h => by
    unfold mapIdx at h
    unfold Instr.findNow
    split at h <;> rename_i he
    · injection h with h; subst h
      rcases (keyEq_ok hk he hx h1).now d hd with h4 | h4 <;> rw [h4]
      · exact .inr (by simp [foundAt])
      · exact .inl rfl
    · have hn := (keyEq_ok hk he hx h1).now d hd
      split at h <;> rename_i j' hj <;> first | cases h | skip
      · rcases hn with h4 | h4 <;> rw [h4]
        · rcases findNow_ok hk hd hx l es (i + 1) _ h3 hj with h5 | h5
          · exact .inl h5
          · refine .inr ?_
            simp only
            rw [h5]; simp [foundAt, Nat.add_assoc, Nat.add_comm 1]
        · exact .inl rfl
      · rcases hn with h4 | h4 <;> rw [h4]
        · rcases findNow_ok hk hd hx l es (i + 1) _ h3 hj with h5 | h5
          · exact .inl h5
          · exact .inr h5
        · exact .inl rfl
    · cases h
theorem findAsking_ok {t : TypeId} {k : EqK} {x : AV} {u : Value} (hk : keyKind P t = some k) (hx : VR ι x u) (w : World) : ∀ (l : List (AV × AV)) (es : List MapEntry) (i : Nat) (j : Option Nat), MRL ι l es → mapIdx k x l = some j →
    (Instr.findAsking t u es i).run P w = .ok (foundAt es i j) w
  | [], [], i, j, _, h => by injection h with h; subst h; simp [Instr.findAsking, foundAt]
  | (a, v) :: l, e :: es, i, j, ⟨h1, h2, h3⟩, h => by
    unfold mapIdx at h
    unfold Instr.findAsking
    split at h <;> rename_i he
    · injection h with h; subst h
      simp [(keyEq_ok hk he hx h1).equal w, foundAt]
    · have hn := (keyEq_ok hk he hx h1).equal w
      split at h <;> rename_i j' hj <;> first | cases h | skip
      · have := findAsking_ok hk hx w l es (i + 1) _ h3 hj
        simp [hn, this, foundAt, Nat.add_assoc, Nat.add_comm 1]
      · have := findAsking_ok hk hx w l es (i + 1) _ h3 hj
        simp [hn, this, foundAt]
    · cases h
theorem findKey_ok {t : TypeId} {k : EqK} {x : AV} {u : Value} (hk : keyKind P t = some k) (hx : VR ι x u) (w : World) {l : List (AV × AV)} {es : List MapEntry} {j : Option Nat} (hm : MRL ι l es) (h : mapIdx k x l = some j) :
    (Instr.findKey t u es).run P w = .ok (foundAt es 0 j) w := by
  have hd : ∃ d, P.underlying t = some d := by
    unfold keyKind at hk
    cases hu : P.underlying t with
    | none => rw [hu] at hk; cases hk
    | some d => exact ⟨d, rfl⟩
  obtain ⟨d, hd⟩ := hd
  unfold Instr.findKey
  simp only [Sem.run_bind, run_underlying hd, Result.andThen_ok]
  rcases findNow_ok hk hd hx l es 0 j hm h with h1 | h1 <;> rw [h1]
  · exact findAsking_ok hk hx w l es 0 j hm h
  · simp
end
end Go.Av

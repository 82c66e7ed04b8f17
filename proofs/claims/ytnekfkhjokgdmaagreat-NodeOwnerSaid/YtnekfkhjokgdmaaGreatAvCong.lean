/-
  Av: which slots an operation looks at; which need no memory; which make a block.
-/
import Derived.Test.YtnekfkhjokgdmaaGreatAvExec
set_option linter.unusedVariables false
namespace Go.Av

section
variable {σ σ' : AS} {ts ts' : TM} {v : AV}

/-- The two frames agree there. -/
def Same (ts ts' : TM) (l : List Nat) : Prop := ∀ t ∈ l, ts.at t = ts'.at t
theorem Same.left {l m : List Nat} (h : Same ts ts' (l ++ m)) : Same ts ts' l := fun t ht => h t (List.mem_append_left _ ht)
theorem Same.right {l m : List Nat} (h : Same ts ts' (l ++ m)) : Same ts ts' m := fun t ht => h t (List.mem_append_right _ ht)
theorem evA_same {x : Opd} (h : Same ts ts' (sOpd x)) : evA ts x = evA ts' x := by
  cases x with
  | tmp t => exact h t (by simp [sOpd])
  | lit v => rfl
theorem evL_same : ∀ {xs : List Opd}, Same ts ts' (sOpds xs) → evL ts xs = evL ts' xs
  | [], _ => rfl
  | x :: r, h => by
    unfold evL
    rw [evA_same h.left, evL_same h.right]
theorem bound_same {x : Option Opd} (d y : Nat) (h : Same ts ts' (sOpt x)) : boundA ts x d y = boundA ts' x d y := by
  cases x with
  | none => rfl
  | some x => have := evA_same (x := x) h; unfold boundA; simp only [this]
theorem fill_same : ∀ {ps : List (Nat × Nat × Opd)} (z : List AV), Same ts ts' (sParts ps) → fillA ts ps z = fillA ts' ps z
  | [], z, _ => rfl
  | (off, size, x) :: r, z, h => by
    unfold fillA
    rw [evA_same (x := x) h.left]
    congr 1
    split
    · exact fill_same _ h.right
    · rfl
theorem sliceS_same {sz b o n c : Nat} {ex : Bool} {lo hi mx : Option Opd} (h1 : Same ts ts' (sOpt lo)) (h2 : Same ts ts' (sOpt hi)) (h3 : Same ts ts' (sOpt mx)) : sliceS ts sz b o n c ex lo hi mx = sliceS ts' sz b o n c ex lo hi mx := by
  unfold sliceS
  rw [bound_same _ _ h3]
  split
  · rfl
  · rw [bound_same _ _ h2]
    split
    · rfl
    · rw [bound_same _ _ h1]

theorem exec_same {o : AOp} (h : Same ts ts' (slotsOf o)) : execA σ ts o = execA σ ts' o := by
  cases o <;> simp only [slotsOf] at h <;> simp only [execA]
  case mv x => unfold exMv; rw [evA_same h]
  case pick c x y => unfold exPick; rw [evA_same h.left.left, evA_same h.left.right, evA_same h.right]
  case alloc => rfl
  case box => unfold exBox; rw [evA_same h]
  case build => unfold exBuild; rw [fill_same _ h]
  case bslice => unfold exBslice; rw [fill_same _ h]
  case load => unfold exLoad; rw [evA_same h]
  case store => unfold exStore; rw [evA_same h.left, evA_same h.right]
  case nilck => unfold exNilck; rw [evA_same h]
  case bin => unfold exBin; rw [evA_same h.left, evA_same h.right]
  case eq => unfold exEq; rw [evA_same h.left, evA_same h.right]
  case un => unfold exUn; rw [evA_same h]
  case convI => unfold exConvI; rw [evA_same h]
  case convS => unfold exConvS; rw [evA_same h]
  case b2s => unfold exB2s; rw [evA_same h]
  case mkfn => unfold exMkfn; rw [evL_same h.left, evL_same h.right]
  case mkmap r =>
    unfold exMkmap
    cases r with
    | none => rfl
    | some x => simp only [sOpt] at h; simp only [evA_same h]
  case mksl => unfold exMksl; rw [evA_same h.left, evA_same h.right]
  case slstr =>
    unfold exSlstr
    rw [evA_same h.left.left]
    split
    · rw [bound_same _ _ h.right]
      split
      · rfl
      · rw [bound_same _ _ h.left.right]
    · rfl
  case slsl =>
    unfold exSlsl
    rw [evA_same h.left.left.left]
    split
    · rw [bound_same _ _ h.right]
      split
      · rfl
      · rw [bound_same _ _ h.left.right]
        split
        · rfl
        · rw [bound_same _ _ h.left.left.right]
    · rw [sliceS_same h.left.left.right h.left.right h.right]
    · rfl
  case slarr =>
    unfold exSlarr
    rw [evA_same h.left.left.left]
    split
    · rw [bound_same _ _ h.right]
      split
      · rfl
      · rw [bound_same _ _ h.left.right]
        split
        · rfl
        · rw [bound_same _ _ h.left.left.right]
    · rfl
  case faddr => unfold exFaddr; rw [evA_same h]
  case field => unfold exField; rw [evA_same h]
  case idxA => unfold exIdxA; rw [evA_same h.left, evA_same h.right]
  case idxS => unfold exIdxS; rw [evA_same h.left, evA_same h.right]
  case idxStr => unfold exIdxStr; rw [evA_same h.left, evA_same h.right]
  case idxAgg => unfold exIdxAgg; rw [evA_same h.left, evA_same h.right]
  case lookup => unfold exLookup; rw [evA_same h.left, evA_same h.right]
  case mapup => unfold exMapup; rw [evA_same h.left.left, evA_same h.left.right, evA_same h.right]
  case del => unfold exDel; rw [evA_same h.left, evA_same h.right]
  case ext => unfold exExt; rw [evA_same h]
  case lenC => rfl
  case lenM => unfold exLenM; rw [evA_same h]
  case lenS => unfold exLenS; rw [evA_same h]
  case lenStr => unfold exLenStr; rw [evA_same h]
  case mn => unfold exMn; rw [evA_same h.left, evA_same h.right]
  case mx => unfold exMx; rw [evA_same h.left, evA_same h.right]
  case app => unfold exApp; rw [evA_same h.left, evA_same h.right]
  case copy => unfold exCopy; rw [evA_same h.left, evA_same h.right]
  case clrM => unfold exClrM; rw [evA_same h]
  case clrS => unfold exClrS; rw [evA_same h]
theorem opA_same {s : Lv} {o : AOp} (h : Same ts ts' (slotsOf o)) : opA s σ ts o = opA s σ ts' o := by
  cases o <;> first | exact exec_same h | skip
  simp only [slotsOf] at h
  simp only [opA]
  rw [evA_same h.left, evL_same h.right]
theorem opA_exec {s : Lv} {o : AOp} (h : classOf o ≠ 3) : opA s σ ts o = execA σ ts o := by
  cases o <;> first | rfl | exact absurd rfl h
theorem alloc_same {b : Nat} {o : AOp} (h : Same ts ts' (slotsOf o)) : allocA ts b o = allocA ts' b o := by
  cases o <;> simp only [slotsOf] at h <;> simp only [allocA]
  case box => rw [evA_same h]
  case bslice => rw [fill_same _ h]
  case mkmap r =>
    cases r with
    | none => rfl
    | some x => simp only [sOpt] at h; simp only [evA_same h]
  case mksl => rw [evA_same h.left, evA_same h.right]
theorem wanted_same {g : Option (Nat × Bool)} (h : ∀ t w, g = some (t, w) → ts.at t = ts'.at t) : wantedA ts g = wantedA ts' g := by
  cases g with
  | none => rfl
  | some p => obtain ⟨t, w⟩ := p; simp only [wantedA]; rw [h t w rfl]

/-- What reads no memory leaves it, and is what it is whatever lies there. -/
theorem exec_pure {o : AOp} (hc : classOf o = 0) (h : execA σ ts o = some (v, σ')) : σ' = σ ∧ ∀ σ1, execA σ1 ts o = some (v, σ1) := by
  cases o <;> first | (cases hc; done) | skip
  all_goals simp only [execA] at h ⊢
  case mv => unfold exMv at h ⊢; cases h; exact ⟨rfl, fun _ => rfl⟩
  case pick => unfold exPick at h ⊢; split at h <;> cases h; exact ⟨rfl, fun _ => rfl⟩
  case build => unfold exBuild at h ⊢; split at h <;> cases h; exact ⟨rfl, fun _ => rfl⟩
  case nilck => unfold exNilck at h ⊢; split at h <;> cases h <;> exact ⟨rfl, fun _ => rfl⟩
  case bin => unfold exBin at h ⊢; split at h <;> cases h; exact ⟨rfl, fun _ => rfl⟩
  case eq => unfold exEq at h ⊢; split at h <;> cases h; exact ⟨rfl, fun _ => rfl⟩
  case un => unfold exUn at h ⊢; split at h <;> cases h; exact ⟨rfl, fun _ => rfl⟩
  case convI => unfold exConvI at h ⊢; split at h <;> cases h; exact ⟨rfl, fun _ => rfl⟩
  case convS => unfold exConvS at h ⊢; split at h <;> cases h; exact ⟨rfl, fun _ => rfl⟩
  case mkfn => unfold exMkfn at h ⊢; cases h; exact ⟨rfl, fun _ => rfl⟩
  case slstr =>
    unfold exSlstr at h ⊢
    split at h <;> try (cases h; done)
    split at h <;> try (cases h; done)
    split at h <;> cases h
    exact ⟨rfl, fun _ => rfl⟩
  case slsl =>
    unfold exSlsl at h ⊢
    split at h <;> try (cases h; done)
    · split at h <;> try (cases h; done)
      split at h <;> try (cases h; done)
      split at h <;> cases h
      exact ⟨rfl, fun _ => rfl⟩
    · split at h <;> cases h; exact ⟨rfl, fun _ => rfl⟩
  case slarr =>
    unfold exSlarr at h ⊢
    split at h <;> try (cases h; done)
    split at h <;> try (cases h; done)
    split at h <;> try (cases h; done)
    split at h <;> cases h
    exact ⟨rfl, fun _ => rfl⟩
  case faddr => unfold exFaddr at h ⊢; split at h <;> cases h; exact ⟨rfl, fun _ => rfl⟩
  case field =>
    unfold exField at h ⊢
    split at h <;> try (cases h; done)
    split at h <;> try (cases h; done)
    split at h <;> cases h
    exact ⟨rfl, fun _ => rfl⟩
  case idxA n sz x i =>
    unfold exIdxA at h ⊢
    split at h <;> try (cases h; done)
    rename_i b q j _ _
    cases hb : Nat.blt j n <;> rw [hb] at h <;> cases h
    exact ⟨rfl, fun _ => rfl⟩
  case idxS sz x i =>
    unfold exIdxS at h ⊢
    split at h <;> try (cases h; done)
    rename_i b q n _ _ j _ _
    cases hb : Nat.blt j n <;> rw [hb] at h <;> cases h
    exact ⟨rfl, fun _ => rfl⟩
  case idxStr =>
    unfold exIdxStr at h ⊢
    split at h <;> try (cases h; done)
    split at h <;> cases h
    exact ⟨rfl, fun _ => rfl⟩
  case idxAgg n sz ag x i =>
    unfold exIdxAgg at h ⊢
    split at h <;> try (cases h; done)
    rename_i cs j _ _
    cases hb : Nat.blt j n <;> rw [hb] at h <;> simp only [cond_true, cond_false] at h <;> try (cases h; done)
    split at h <;> try (cases h; done)
    split at h <;> cases h
    exact ⟨rfl, fun _ => rfl⟩
  case ext =>
    unfold exExt at h ⊢
    split at h <;> try (cases h; done)
    split at h <;> cases h
    exact ⟨rfl, fun _ => rfl⟩
  case lenC => unfold exLenC at h ⊢; cases h; exact ⟨rfl, fun _ => rfl⟩
  case lenS => unfold exLenS at h ⊢; split at h <;> cases h <;> exact ⟨rfl, fun _ => rfl⟩
  case lenStr => unfold exLenStr at h ⊢; split at h <;> cases h; exact ⟨rfl, fun _ => rfl⟩
  case mn => unfold exMn at h ⊢; split at h <;> cases h; exact ⟨rfl, fun _ => rfl⟩
  case mx => unfold exMx at h ⊢; split at h <;> cases h; exact ⟨rfl, fun _ => rfl⟩
theorem exec_read {o : AOp} (hc : classOf o = 1) (h : execA σ ts o = some (v, σ')) : σ' = σ := by
  cases o <;> first | (cases hc; done) | skip
  all_goals simp only [execA] at h
  case load => unfold exLoad at h; split at h <;> cases h; rfl
  case b2s =>
    unfold exB2s at h
    split at h <;> try (cases h; done)
    · cases h; rfl
    · cases h; rfl
    · split at h <;> try (cases h; done)
      split at h <;> cases h
      rfl
  case lookup k z ok m x =>
    unfold exLookup at h
    cases hb : keyOk k (evA ts x) <;> rw [hb] at h <;> simp only [Bool.not_true, Bool.not_false, cond_true, cond_false] at h <;> try (cases h; done)
    split at h <;> try (cases h; done)
    split at h <;> cases h <;> rfl
  case lenM => unfold exLenM at h; split at h <;> cases h; rfl

/-! ### Whether two values are one -/
theorem eqAL_ok {e : AV → AV → Bool} (he : ∀ a b, e a b = true → a = b) : ∀ {l m : List AV}, eqAL e l m = true → l = m
  | [], [], _ => rfl
  | a :: l, b :: m, h => by
    unfold eqAL at h
    cases hb : e a b with
    | false => rw [hb] at h; cases h
    | true => rw [hb] at h; rw [he a b hb, eqAL_ok he h]
  | [], _ :: _, h => by cases h
  | _ :: _, [], h => by cases h
theorem eqAV_ok : ∀ (d : Nat) (x y : AV), eqAV d x y = true → x = y := by
  intro d
  induction d with
  | zero => intro x y h; cases h
  | succ d ih =>
    intro x y h
    unfold eqAV at h
    split at h <;> (try simp only [Bool.and_eq_true] at h) <;> first | rfl | (cases h; done) | skip
    · simp at h; rw [h]
    · rw [kEq_eq h.1]; have := h.2; rw [eqI_eq] at this; simp at this; rw [this]
    · rw [eqBytes_eq] at h; simp at h; rw [h]
    · rw [beq_true h.1, beq_true h.2]
    · obtain ⟨⟨⟨⟨h1, h2⟩, h3⟩, h4⟩, h5⟩ := h
      rw [beq_true h1, beq_true h2, beq_true h3, beq_true h4]
      simp at h5; rw [h5]
    · rw [beq_true h]
    · obtain ⟨⟨h1, h2⟩, h3⟩ := h
      rw [beq_true h1, eqAL_ok ih h2, eqAL_ok ih h3]
    · rw [eqAL_ok ih h]
    · rw [eqAL_ok ih h]
    · rw [beq_true h]
theorem readOk_ok {o : AOper} (hc : classOf o.op = 1) (h : readOk ts o v σ = true) : execA σ ts o.op = some (v, σ) := by
  unfold readOk at h
  split at h
  · rename_i v' σ1 he
    rw [he, eqAV_ok _ _ _ h, exec_read hc he]
  · cases h
theorem allOk_ok {o : AOper} : ∀ {l : List AS}, allOk ts o v l = true → ∀ σ ∈ l, readOk ts o v σ = true
  | [], _, σ, hσ => by cases hσ
  | x :: r, h, σ, hσ => by
    unfold allOk at h
    cases hb : readOk ts o v x with
    | false => rw [hb] at h; cases h
    | true =>
      rw [hb] at h
      rcases List.mem_cons.1 hσ with rfl | hσ
      · exact hb
      · exact allOk_ok h σ hσ
end

section
variable {P : Program} {ι : Emb} {σ σ' : AS} {w : World} {ts : TM} {a : Act} {v : AV}
theorem NewOK.of {b : Nat} {v1 : AV} {x x1 : AObj} {r : Result Next} (h : some (v1, x1) = some (v, x)) (hr : NewOK P ι w b v1 x1 r) : NewOK P ι w b v x r := by
  injection h with h; injection h with h1 h2; subst h1 h2; exact hr
theorem alloc_ok {o : Oper} {ao : AOp} {b : Nat} {x : AObj} (ht : Slots ι ts a) (hc : cOp P o.op = some ao) (h : allocA ts b ao = some (v, x)) : NewOK P ι w b v x ((execOp a.eval o).run P w) := by
  generalize ho : o.op = op at hc
  have hno : ∀ ao, classOf ao ≠ 2 → allocA ts b ao = none := fun ao hn => by cases ao <;> first | rfl | exact absurd rfl hn
  have h2 : classOf ao = 2 := by
    by_cases hn : classOf ao = 2
    · exact hn
    · rw [hno ao hn] at h; cases h
  cases op with
  | alloc e =>
    simp only [cOp] at hc
    split at hc <;> try (cases hc; done)
    rename_i z hz
    injection hc with hc; subst hc
    exact .of h (new_alloc _ ho hz)
  | box e x =>
    simp only [cOp] at hc
    split at hc <;> try (cases hc; done)
    rename_i y hx
    injection hc with hc; subst hc
    simp only [allocA] at h
    cases hb : isTup (evA ts y) with
    | true => rw [hb] at h; cases h
    | false => rw [hb] at h; exact .of h (new_box _ ht ho hx (not_tup hb))
  | buildSlice t n parts =>
    simp only [cOp] at hc
    split at hc <;> try (cases hc; done)
    rename_i e hu
    split at hc <;> try (cases hc; done)
    rename_i z hz
    split at hc <;> try (cases hc; done)
    rename_i hn
    split at hc <;> try (cases hc; done)
    rename_i l hl
    injection hc with hc; subst hc
    simp only [allocA] at h
    split at h <;> try (cases h; done)
    rename_i r hr
    exact .of h (new_buildSlice _ ht ho hu hz hn hl hr)
  | makeMap t r =>
    simp only [cOp] at hc
    split at hc <;> try (cases hc; done)
    rename_i k e r' hu hr
    injection hc with hc; subst hc
    cases r' with
    | none => exact .of h (new_mkmap _ ht ho hu hr (fun _ h => by cases h))
    | some y =>
      simp only [allocA] at h
      split at h <;> try (cases h; done)
      rename_i k' n he
      exact .of h (new_mkmap _ ht ho hu hr (fun _ h => by cases h; exact ⟨_, _, he⟩))
  | makeSlice t l c =>
    simp only [cOp] at hc
    split at hc <;> try (cases hc; done)
    rename_i e l' c' hu hl hc'
    split at hc <;> try (cases hc; done)
    rename_i z i hz hi
    injection hc with hc; subst hc
    simp only [allocA] at h
    split at h <;> try (cases h; done)
    rename_i n m hn hm
    cases hb : (Nat.ble n m && Nat.ble m (if i.bytes = 0 then 0 else 1000000000 / i.bytes)) with
    | false => rw [hb] at h; cases h
    | true =>
      rw [hb] at h
      rw [Bool.and_eq_true] at hb
      exact .of h (new_mksl _ ht ho hu hl hc' hz hi hn hm (ble_true hb.1) (ble_true hb.2))
  | call c =>
    obtain ⟨callee, args, ts'⟩ := c
    simp only [cOp] at hc
    split at hc <;> try (cases hc; done)
    · split at hc <;> try (cases hc; done)
      injection hc with hc; subst hc
      cases h2
    · unfold cBuiltin at hc
      (repeat' split at hc) <;> first | (cases hc; done) | (injection hc with hc; subst hc; cases h2)
  | makeFunc f p q =>
    cases f <;> simp only [cOp] at hc <;> first | (cases hc; done) | ((repeat' split at hc) <;> first | (cases hc; done) | (injection hc with hc; subst hc; cases h2))
  | _ =>
    simp only [cOp] at hc
    first | (cases hc; done) | ((repeat' split at hc) <;> first | (cases hc; done) | (injection hc with hc; subst hc; cases h2))
end
end Go.Av

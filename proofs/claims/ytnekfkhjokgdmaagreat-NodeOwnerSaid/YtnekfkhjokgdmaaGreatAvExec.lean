/-
  Av: one operation of the small machine is one of the model's.
-/
import Derived.Test.YtnekfkhjokgdmaaGreatAvOps8
set_option linter.unusedVariables false
namespace Go.Av

section
variable {P : Program} {ι : Emb} {σ σ' : AS} {w : World} {ts : TM} {a : Act} {v : AV}

theorem not_tup {x : AV} (h : isTup x = false) : ∀ l, x ≠ .tup l := fun l e => by subst e; cases h
theorem beq_true {m n : Nat} (h : Nat.beq m n = true) : m = n := Nat.eq_of_beq_eq_true h
theorem beq_false {m n : Nat} (h : Nat.beq m n = false) : m ≠ n := Nat.ne_of_beq_eq_false h
theorem ble_true {m n : Nat} (h : Nat.ble m n = true) : m ≤ n := Nat.le_of_ble_eq_true h
theorem Res.of {v1 : AV} {σ1 : AS} {r : Result Next} (h : some (v1, σ1) = some (v, σ')) (hr : Res P ι σ w σ1 v1 r) : Res P ι σ w σ' v r := by
  injection h with h; injection h with h1 h2; subst h1 h2; exact hr

theorem exec_builtin {o : Oper} {b : Builtin} {xs : Array Operand} {ts' : Array TypeId} {ao : AOp} (hR : R P ι σ w) (ht : Slots ι ts a) (ho : o.op = .call { callee := .builtin b, args := xs, argTypes := ts' }) (hc : cBuiltin P b ts' xs.toList = some ao) (h : execA σ ts ao = some (v, σ')) :
    Res P ι σ w σ' v ((execOp a.eval o).run P w) := by
  obtain ⟨l⟩ := xs
  unfold cBuiltin at hc
  split at hc
  · rename_i x e1
    simp only at e1; subst e1
    split at hc <;> try (cases hc; done)
    · rename_i y hx hu
      injection hc with hc; subst hc
      change exLenStr σ ts y = _ at h
      unfold exLenStr at h
      split at h <;> try (cases h; done)
      rename_i s he
      exact .of h (ok_lenStr hR ht ho hx hu he)
    · rename_i y e hx hu
      injection hc with hc; subst hc
      change exLenS σ ts y = _ at h
      unfold exLenS at h
      split at h <;> try (cases h; done)
      · rename_i he; exact .of h (ok_lenS hR ht ho hx hu (.inl ⟨he, rfl⟩))
      · rename_i he; exact .of h (ok_lenS hR ht ho hx hu (.inr (.inl ⟨he, rfl⟩)))
      · rename_i he; exact .of h (ok_lenS hR ht ho hx hu (.inr (.inr ⟨_, _, _, _, he⟩)))
    · rename_i y k e hx hu
      injection hc with hc; subst hc
      change exLenM σ ts y = _ at h
      unfold exLenM at h
      split at h <;> try (cases h; done)
      rename_i l he
      exact .of h (ok_lenM hR ht ho hx hu he)
    · rename_i y n e hx hu
      injection hc with hc; subst hc
      exact .of h (ok_lenC hR ho hu)
  · rename_i x y e1
    simp only at e1; subst e1
    split at hc <;> try (cases hc; done)
    rename_i x' y' hx hy
    injection hc with hc; subst hc
    change exMn σ ts x' y' = _ at h
    unfold exMn at h
    split at h <;> try (cases h; done)
    rename_i k m k' n h1 h2
    exact .of h (ok_mn hR ht ho hx hy h1 h2)
  · rename_i x y e1
    simp only at e1; subst e1
    split at hc <;> try (cases hc; done)
    rename_i x' y' hx hy
    injection hc with hc; subst hc
    change exMx σ ts x' y' = _ at h
    unfold exMx at h
    split at h <;> try (cases h; done)
    rename_i k m k' n h1 h2
    exact .of h (ok_mx hR ht ho hx hy h1 h2)
  · rename_i s x e1
    simp only at e1; subst e1
    split at hc <;> try (cases hc; done)
    rename_i s' x' e u hs hx h0 h1
    have key : ∀ i, P.info? e = some i → ((zeroOf P e).isSome && decide (i.bytes ≤ 100000000)) = true → (u = .string ∨ ∃ q, u = .slice q) → AppArgs P ts' e i := fun i hi hz hu => by
      simp only [Bool.and_eq_true, decide_eq_true_eq] at hz
      obtain ⟨z, hz1⟩ := Option.isSome_iff_exists.1 hz.1
      obtain ⟨i', zv, h2, h3, h4, h5, _⟩ := zeroOf_ok hz1
      rw [hi] at h2; injection h2 with h2; subst h2
      have h6 := (h5 ⟨fun _ => none, fun _ => 0⟩).len
      refine ⟨?_, hi, ⟨zv, h3, ?_⟩, hz.2, ?_⟩
      · cases e0 : ts'[0]? with
        | none => rw [e0] at h0; cases h0
        | some t0 => rw [e0] at h0; exact ⟨t0, rfl, h0⟩
      · rw [← h4, h6]; simp
      · cases e0 : ts'[1]? with
        | none => rw [e0] at h1; cases h1
        | some t0 => rw [e0] at h1; exact ⟨t0, u, rfl, h1, hu⟩
    split at hc <;> try (cases hc; done)
    · rename_i i q hi
      split at hc <;> try (cases hc; done)
      rename_i hz
      injection hc with hc; subst hc
      exact ok_app hR ht ho (key _ hi hz (.inr ⟨_, rfl⟩)) hs hx h
    · rename_i i hi
      split at hc <;> try (cases hc; done)
      rename_i hz
      injection hc with hc; subst hc
      exact ok_app hR ht ho (key _ hi hz (.inl rfl)) hs hx h
  · rename_i d x e1
    simp only at e1; subst e1
    split at hc <;> try (cases hc; done)
    rename_i d' x' e hd hx hu
    split at hc <;> try (cases hc; done)
    rename_i n hs
    injection hc with hc; subst hc
    change exCopy σ ts n d' x' = _ at h
    unfold exCopy at h
    split at h <;> try (cases h; done)
    rename_i m k hm hk
    split at h <;> try (cases h; done)
    rename_i new hf
    split at h <;> try (cases h; done)
    · rename_i g off q c ex he
      cases hb : Nat.beq (min m k) 0
      case true =>
        rw [hb] at h
        have h0 := beq_true hb
        have := ok_copy (σ' := σ) hR ht ho hu hs hd hx hm hk hf (.inr ⟨_, _, _, _, _, he, .inl ⟨h0, rfl⟩⟩)
        rw [h0] at this
        exact .of h this
      case false =>
        rw [hb] at h
        simp only [cond_false] at h
        split at h <;> try (cases h; done)
        rename_i σ1 hw
        exact .of h (ok_copy hR ht ho hu hs hd hx hm hk hf (.inr ⟨_, _, _, _, _, he, .inr hw⟩))
    · rename_i he
      have h0 : min m k = 0 := by
        have : k = 0 := by rw [he] at hk; injection hk with hk; exact hk.symm
        omega
      have := ok_copy (σ' := σ) hR ht ho hu hs hd hx hm hk hf (.inl ⟨he, rfl⟩)
      rw [h0] at this
      exact .of h this
  · rename_i x e1
    simp only at e1; subst e1
    split at hc <;> try (cases hc; done)
    · rename_i y k e hx hu
      injection hc with hc; subst hc
      change exClrM σ ts y = _ at h
      unfold exClrM at h
      split at h <;> try (cases h; done)
      rename_i b he
      split at h <;> try (cases h; done)
      rename_i l hg
      exact .of h (ok_clrM hR ht ho hu hx he hg)
    · rename_i y e hx hu
      split at hc <;> try (cases hc; done)
      rename_i z hz
      injection hc with hc; subst hc
      change exClrS σ ts z y = _ at h
      unfold exClrS at h
      split at h <;> try (cases h; done)
      · rename_i he; exact .of h (ok_clrS hR ht ho hu hz hx (.inl ⟨.inl he, rfl⟩))
      · rename_i he; exact .of h (ok_clrS hR ht ho hu hz hx (.inl ⟨.inr (.inl he), rfl⟩))
      · rename_i b off n c ex he
        cases hb : Nat.beq n 0
        case true =>
          rw [hb] at h
          have h0 := beq_true hb
          subst h0
          exact .of h (ok_clrS hR ht ho hu hz hx (.inl ⟨.inr (.inr ⟨_, _, _, _, he⟩), rfl⟩))
        case false =>
          rw [hb] at h
          simp only [cond_false] at h
          split at h <;> try (cases h; done)
          rename_i σ1 hw
          exact .of h (ok_clrS hR ht ho hu hz hx (.inr ⟨_, _, _, _, _, beq_false hb, he, hw⟩))
  · rename_i m k e1
    simp only at e1; subst e1
    split at hc <;> try (cases hc; done)
    rename_i m' k' kt e hm hk hu
    split at hc <;> try (cases hc; done)
    rename_i q hq
    injection hc with hc; subst hc
    change exDel σ ts q m' k' = _ at h
    unfold exDel at h
    cases hok : keyOk q (evA ts k') with
    | false => rw [hok] at h; cases h
    | true =>
      rw [hok] at h
      simp only [Bool.not_true, cond_false] at h
      split at h <;> try (cases h; done)
      rename_i b he
      split at h <;> try (cases h; done)
      rename_i l hg
      split at h <;> try (cases h; done)
      rename_i l' hp
      exact .of h (ok_del hR ht ho hu hm hk hq hok he hg hp)
  · cases hc

theorem exec_slice {o : Oper} {t : TypeId} {x : Operand} {lo hi mx : Option Operand} {ao : AOp} (hR : R P ι σ w) (ht : Slots ι ts a) (ho : o.op = .slice t x lo hi mx) (hc : cOp P (.slice t x lo hi mx) = some ao) (h : execA σ ts ao = some (v, σ')) :
    Res P ι σ w σ' v ((execOp a.eval o).run P w) := by
  have hmh : ∀ {mx' hi' : Option Opd}, ¬ ((mx'.isSome && hi'.isNone) = true) → mx'.isSome = true → hi'.isSome = true := fun {mx' hi'} hn hm => by
    cases hi' with
    | none => rw [hm] at hn; exact absurd rfl hn
    | some _ => rfl
  simp only [cOp] at hc
  split at hc <;> try (cases hc; done)
  · rename_i x' lo' hi' hu hx hl hh hm
    injection hc with hc; subst hc
    obtain rfl : mx = none := by
      cases mx with
      | none => rfl
      | some y => simp only [cOpt] at hm; split at hm <;> simp at hm
    change exSlstr σ ts x' lo' hi' = _ at h
    unfold exSlstr at h
    split at h <;> try (cases h; done)
    rename_i s he
    split at h <;> try (cases h; done)
    rename_i q hq
    split at h <;> try (cases h; done)
    rename_i l hl'
    exact .of h (ok_slstr hR ht ho hu hx hl hh he hq hl')
  · rename_i e x' lo' hi' mx' hu hx hl hh hm
    split at hc <;> try (cases hc; done)
    rename_i n hs
    split at hc <;> try (cases hc; done)
    rename_i hn
    injection hc with hc; subst hc
    change exSlsl σ ts n x' lo' hi' mx' = _ at h
    unfold exSlsl at h
    split at h <;> try (cases h; done)
    · rename_i he
      split at h <;> try (cases h; done)
      rename_i m hm'
      split at h <;> try (cases h; done)
      rename_i q hq
      split at h <;> try (cases h; done)
      rename_i l hl'
      exact .of h (ok_slnil hR ht ho hu hs hx hl hh hm (hmh hn) he hm' hq hl')
    · rename_i b off k c ex he
      split at h <;> try (cases h; done)
      rename_i v1 hv
      exact .of h (ok_slsl hR ht ho hu hs hx hl hh hm (hmh hn) he hv)
  · rename_i k e x' lo' hi' mx' hu hx hl hh hm
    split at hc <;> try (cases hc; done)
    rename_i n hs
    split at hc <;> try (cases hc; done)
    rename_i hn
    injection hc with hc; subst hc
    change exSlarr σ ts k n x' lo' hi' mx' = _ at h
    unfold exSlarr at h
    split at h <;> try (cases h; done)
    rename_i b off he
    split at h <;> try (cases h; done)
    rename_i m hm'
    split at h <;> try (cases h; done)
    rename_i q hq
    split at h <;> try (cases h; done)
    rename_i l hl'
    exact .of h (ok_slarr hR ht ho hu hs hx hl hh hm (hmh hn) he hm' hq hl')

theorem exec_ok {o : Oper} {ao : AOp} (hR : R P ι σ w) (ht : Slots ι ts a) (hc : cOp P o.op = some ao) (h : execA σ ts ao = some (v, σ')) : Res P ι σ w σ' v ((execOp a.eval o).run P w) := by
  generalize ho : o.op = op at hc
  cases op with
  | move x =>
    simp only [cOp] at hc
    split at hc <;> try (cases hc; done)
    rename_i y hx
    injection hc with hc; subst hc
    exact .of h (ok_move hR ht (.inl ho) hx)
  | assign x =>
    simp only [cOp] at hc
    split at hc <;> try (cases hc; done)
    rename_i y hx
    injection hc with hc; subst hc
    exact .of h (ok_move hR ht (.inr ho) hx)
  | pick c x y =>
    simp only [cOp] at hc
    split at hc <;> try (cases hc; done)
    rename_i c' x' y' h1 h2 h3
    injection hc with hc; subst hc
    change exPick σ ts c' x' y' = _ at h
    unfold exPick at h
    split at h <;> try (cases h; done)
    rename_i t ht'
    exact .of h (ok_pick hR ht ho h1 h2 h3 ht')
  | alloc e =>
    simp only [cOp] at hc
    split at hc <;> try (cases hc; done)
    rename_i z hz
    injection hc with hc; subst hc
    exact .of h (ok_alloc hR ho hz)
  | box e x =>
    simp only [cOp] at hc
    split at hc <;> try (cases hc; done)
    rename_i y hx
    injection hc with hc; subst hc
    change exBox σ ts e y = _ at h
    unfold exBox at h
    cases hb : isTup (evA ts y) with
    | true => rw [hb] at h; cases h
    | false => rw [hb] at h; exact .of h (ok_box hR ht ho hx (not_tup hb))
  | build t parts =>
    simp only [cOp] at hc
    split at hc <;> try (cases hc; done)
    · rename_i z fs hz hu
      split at hc <;> try (cases hc; done)
      rename_i hs
      split at hc <;> try (cases hc; done)
      rename_i l hl
      injection hc with hc; subst hc
      change exBuild σ ts z l = _ at h
      unfold exBuild at h
      split at h <;> try (cases h; done)
      rename_i r hr
      exact .of h (ok_buildS hR ht ho hz hu hs hl hr)
    · rename_i z k e hz hu
      split at hc <;> try (cases hc; done)
      rename_i n hs
      split at hc <;> try (cases hc; done)
      rename_i l hl
      injection hc with hc; subst hc
      change exBuild σ ts z l = _ at h
      unfold exBuild at h
      split at h <;> try (cases h; done)
      rename_i r hr
      exact .of h (ok_buildA hR ht ho hz hu hs hl hr)
  | buildSlice t n parts =>
    simp only [cOp] at hc
    split at hc <;> try (cases hc; done)
    rename_i e hu
    split at hc <;> try (cases hc; done)
    rename_i z hz
    split at hc <;> try (cases hc; done)
    rename_i hn
    split at hc <;> try (cases hc; done)
    rename_i l hl
    injection hc with hc; subst hc
    change exBslice σ ts e n (repl z n) l = _ at h
    unfold exBslice at h
    split at h <;> try (cases h; done)
    rename_i r hr
    exact .of h (ok_buildSlice hR ht ho hu hz hn hl hr)
  | load t x =>
    simp only [cOp] at hc
    split at hc <;> try (cases hc; done)
    rename_i y n g hx hs hg
    injection hc with hc; subst hc
    change exLoad σ ts (if g then n else 1) g y = _ at h
    unfold exLoad at h
    split at h <;> try (cases h; done)
    rename_i v1 hv
    exact .of h (ok_load hR ht ho hx hs hg hv)
  | store t x y =>
    simp only [cOp] at hc
    split at hc <;> try (cases hc; done)
    rename_i x' y' n hx hy hs
    injection hc with hc; subst hc
    change exStore σ ts n x' y' = _ at h
    unfold exStore at h
    split at h <;> try (cases h; done)
    rename_i σ1 hv
    exact .of h (ok_store hR ht ho hx hy hs hv)
  | nilCheck x =>
    simp only [cOp] at hc
    split at hc <;> try (cases hc; done)
    rename_i y hx
    injection hc with hc; subst hc
    change exNilck σ ts y = _ at h
    unfold exNilck at h
    split at h <;> try (cases h; done)
    · rename_i b off he
      have := ok_nilck hR ht ho hx (.inl ⟨_, _, he⟩)
      rw [he] at this
      exact .of h this
    · rename_i f p q he
      have := ok_nilck hR ht ho hx (.inr ⟨_, _, _, he⟩)
      rw [he] at this
      exact .of h this
  | binOp op t x y u =>
    simp only [cOp] at hc
    split at hc <;> try (cases hc; done)
    rename_i x' y' hx hy
    have hbin : ∀ {σ1 v1}, exBin σ ts op x' y' = some (v1, σ1) → Res P ι σ w σ1 v1 ((execOp a.eval o).run P w) := fun {σ1 v1} h => by
      unfold exBin at h
      split at h <;> try (cases h; done)
      rename_i v2 hv
      exact .of h (ok_bin hR ht ho hx hy hv)
    split at hc <;> try (cases hc; done)
    · injection hc with hc; subst hc
      exact hbin h
    · injection hc with hc; subst hc
      exact hbin h
    · split at hc <;> try (cases hc; done)
      rename_i k hk
      injection hc with hc; subst hc
      change exEq σ ts k false x' y' = _ at h
      unfold exEq at h
      split at h <;> try (cases h; done)
      rename_i b hb
      exact .of h (ok_eq hR ht ho (.inl rfl) hx hy hk hb)
    · split at hc <;> try (cases hc; done)
      rename_i k hk
      injection hc with hc; subst hc
      change exEq σ ts k true x' y' = _ at h
      unfold exEq at h
      split at h <;> try (cases h; done)
      rename_i b hb
      exact .of h (ok_eq hR ht ho (.inr rfl) hx hy hk hb)
  | unOp op t x =>
    simp only [cOp] at hc
    split at hc <;> try (cases hc; done)
    rename_i y hx
    injection hc with hc; subst hc
    change exUn σ ts op y = _ at h
    unfold exUn at h
    split at h <;> try (cases h; done)
    rename_i v1 hv
    exact .of h (ok_un hR ht ho hx hv)
  | convert s d x =>
    simp only [cOp] at hc
    split at hc <;> try (cases hc; done)
    · rename_i y j k hx hs hd
      injection hc with hc; subst hc
      change exConvI σ ts k y = _ at h
      unfold exConvI at h
      split at h <;> try (cases h; done)
      rename_i k' n he
      exact .of h (ok_convI hR ht ho hx hs hd he)
    · rename_i y hx hs hd
      injection hc with hc; subst hc
      change exConvS σ ts y = _ at h
      unfold exConvS at h
      split at h <;> try (cases h; done)
      rename_i s' he
      have := ok_convS hR ht ho hx hs hd ⟨_, he⟩
      rw [he] at this
      exact .of h this
    · rename_i y e hx hs hd
      split at hc <;> try (cases hc; done)
      rename_i he
      injection hc with hc; subst hc
      change exB2s σ ts y = _ at h
      unfold exB2s at h
      split at h <;> try (cases h; done)
      · rename_i he'; exact .of h (ok_b2s hR ht ho hs he hd hx (.inl ⟨he', rfl⟩))
      · rename_i he'; exact .of h (ok_b2s hR ht ho hs he hd hx (.inr (.inl ⟨he', rfl⟩)))
      · rename_i b off n c ex he'
        split at h <;> try (cases h; done)
        rename_i l hl
        split at h <;> try (cases h; done)
        rename_i r hr
        exact .of h (ok_b2s hR ht ho hs he hd hx (.inr (.inr ⟨_, _, _, _, _, _, he', hl, hr⟩)))
  | makeFunc f p q =>
    simp only [cOp] at hc
    split at hc <;> try (cases hc; done)
    all_goals first | (rename_i hop; cases hop; done) | skip
    rename_i hop
    injection hop with h1 h2 h3
    subst h1 h2 h3
    split at hc <;> try (cases hc; done)
    rename_i p' q' hp hq
    injection hc with hc; subst hc
    exact .of h (ok_mkfn hR ht ho hp hq)
  | makeMap t r =>
    simp only [cOp] at hc
    split at hc <;> try (cases hc; done)
    rename_i k e r' hu hr
    injection hc with hc; subst hc
    change exMkmap σ ts r' = _ at h
    unfold exMkmap at h
    split at h
    · exact .of h (ok_mkmap hR ht ho hu hr (fun _ h => by cases h))
    · split at h <;> try (cases h; done)
      rename_i y k' n he
      exact .of h (ok_mkmap hR ht ho hu hr (fun _ h => by cases h; exact ⟨_, _, he⟩))
  | makeSlice t l c =>
    simp only [cOp] at hc
    split at hc <;> try (cases hc; done)
    rename_i e l' c' hu hl hc'
    split at hc <;> try (cases hc; done)
    rename_i z i hz hi
    injection hc with hc; subst hc
    change exMksl σ ts e z _ l' c' = _ at h
    unfold exMksl at h
    split at h <;> try (cases h; done)
    rename_i n m hn hm
    cases hb : (Nat.ble n m && Nat.ble m (if i.bytes = 0 then 0 else 1000000000 / i.bytes)) with
    | false => rw [hb] at h; cases h
    | true =>
      rw [hb] at h
      rw [Bool.and_eq_true] at hb
      exact .of h (ok_mksl hR ht ho hu hl hc' hz hi hn hm (ble_true hb.1) (ble_true hb.2))
  | slice t x lo hi mx => exact exec_slice hR ht ho hc h
  | fieldAddr s x f =>
    simp only [cOp] at hc
    split at hc <;> try (cases hc; done)
    rename_i fs y hu hx
    split at hc <;> try (cases hc; done)
    rename_i g hg
    split at hc <;> try (cases hc; done)
    rename_i n hn
    split at hc <;> try (cases hc; done)
    rename_i hnz
    injection hc with hc; subst hc
    change exFaddr σ ts g.offset y = _ at h
    unfold exFaddr at h
    split at h <;> try (cases h; done)
    rename_i b off he
    exact .of h (ok_faddr hR ht ho hu hx hg hn hnz he)
  | field s x f =>
    simp only [cOp] at hc
    split at hc <;> try (cases hc; done)
    rename_i fs y hu hx
    split at hc <;> try (cases hc; done)
    rename_i g hg
    split at hc <;> try (cases hc; done)
    rename_i n ag hn hag
    injection hc with hc; subst hc
    change exField σ ts g.offset (if ag then n else 1) ag y = _ at h
    unfold exField at h
    split at h <;> try (cases h; done)
    rename_i cs he
    split at h <;> try (cases h; done)
    rename_i r hr
    split at h <;> try (cases h; done)
    rename_i v1 hv
    exact .of h (ok_field hR ht ho hu hx hg hn hag he hr hv)
  | indexAddr t x i =>
    simp only [cOp] at hc
    split at hc <;> try (cases hc; done)
    · rename_i n e x' j' hu hx hi
      split at hc <;> try (cases hc; done)
      rename_i k hs
      injection hc with hc; subst hc
      change exIdxA σ ts n k x' j' = _ at h
      unfold exIdxA at h
      split at h <;> try (cases h; done)
      rename_i b off j he hj
      cases hb : Nat.blt j n with
      | false => rw [hb] at h; cases h
      | true => rw [hb] at h; exact .of h (ok_idxA hR ht ho hu hs hx hi he hj (Nat.le_of_ble_eq_true hb))
    · rename_i e x' j' hu hx hi
      split at hc <;> try (cases hc; done)
      rename_i k hs
      injection hc with hc; subst hc
      change exIdxS σ ts k x' j' = _ at h
      unfold exIdxS at h
      split at h <;> try (cases h; done)
      rename_i b off n c ex j he hj
      cases hb : Nat.blt j n with
      | false => rw [hb] at h; cases h
      | true => rw [hb] at h; exact .of h (ok_idxS hR ht ho hu hs hx hi he hj (Nat.le_of_ble_eq_true hb))
  | index t x i =>
    simp only [cOp] at hc
    split at hc <;> try (cases hc; done)
    · rename_i x' j' hu hx hi
      injection hc with hc; subst hc
      change exIdxStr σ ts x' j' = _ at h
      unfold exIdxStr at h
      split at h <;> try (cases h; done)
      rename_i s j he hj
      split at h <;> try (cases h; done)
      rename_i b hb
      exact .of h (ok_idxStr hR ht ho hu hx hi he hj hb)
    · rename_i n e x' j' hu hx hi
      split at hc <;> try (cases hc; done)
      rename_i k ag hs hg
      split at hc <;> try (cases hc; done)
      rename_i hk
      injection hc with hc; subst hc
      change exIdxAgg σ ts n k ag x' j' = _ at h
      unfold exIdxAgg at h
      split at h <;> try (cases h; done)
      rename_i cs j he hj
      cases hb : Nat.blt j n with
      | false => rw [hb] at h; cases h
      | true =>
        rw [hb] at h
        simp only [cond_true] at h
        split at h <;> try (cases h; done)
        rename_i r hr
        split at h <;> try (cases h; done)
        rename_i v1 hv
        refine .of h (ok_idxAgg hR ht ho hu hs hg ?_ hx hi he hj (Nat.le_of_ble_eq_true hb) hr hv)
        rintro rfl
        simpa using hk
  | lookup t m k ok =>
    simp only [cOp] at hc
    split at hc <;> try (cases hc; done)
    rename_i kt e m' k' hu hm hk
    split at hc <;> try (cases hc; done)
    rename_i q i hq hi
    split at hc <;> try (cases hc; done)
    rename_i zv hz
    split at hc <;> try (cases hc; done)
    rename_i z hzv
    injection hc with hc; subst hc
    change exLookup σ ts q z ok m' k' = _ at h
    unfold exLookup at h
    cases hok : keyOk q (evA ts k') with
    | false => rw [hok] at h; cases h
    | true =>
      rw [hok] at h
      simp only [Bool.not_true, cond_false] at h
      split at h <;> try (cases h; done)
      rename_i l hl
      split at h <;> try (cases h; done)
      · rename_i hf; exact .of h (ok_lookup hR ht ho hu hm hk hq hi hz hzv hok hl hf)
      · rename_i v1 hf; exact .of h (ok_lookup hR ht ho hu hm hk hq hi hz hzv hok hl hf)
  | mapUpdate t m k x =>
    simp only [cOp] at hc
    split at hc <;> try (cases hc; done)
    rename_i kt e m' k' x' hu hm hk hx
    split at hc <;> try (cases hc; done)
    rename_i q hq
    injection hc with hc; subst hc
    change exMapup σ ts q m' k' x' = _ at h
    unfold exMapup at h
    cases hok : keyOk q (evA ts k') with
    | false => rw [hok] at h; cases h
    | true =>
      rw [hok] at h
      simp only [Bool.not_true, cond_false] at h
      split at h <;> try (cases h; done)
      rename_i b he
      split at h <;> try (cases h; done)
      rename_i l hg
      split at h <;> try (cases h; done)
      rename_i l' hp
      exact .of h (ok_mapup hR ht ho hu hm hk hx hq hok he hg hp)
  | extract x i =>
    simp only [cOp] at hc
    split at hc <;> try (cases hc; done)
    rename_i y hx
    injection hc with hc; subst hc
    change exExt σ ts y i = _ at h
    unfold exExt at h
    split at h <;> try (cases h; done)
    rename_i l he
    split at h <;> try (cases h; done)
    rename_i v1 hv
    exact .of h (ok_ext hR ht ho hx he hv)
  | call c =>
    obtain ⟨callee, args, ts'⟩ := c
    simp only [cOp] at hc
    split at hc <;> try (cases hc; done)
    · split at hc <;> try (cases hc; done)
      injection hc with hc; subst hc
      cases h
    · exact exec_builtin hR ht ho hc h
  | _ => simp [cOp] at hc
end
end Go.Av

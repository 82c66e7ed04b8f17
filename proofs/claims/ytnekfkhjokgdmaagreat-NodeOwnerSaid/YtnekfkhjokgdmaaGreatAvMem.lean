/-
  Av: the small machine's lists and memory against the model's.
-/
import Derived.Test.YtnekfkhjokgdmaaGreatAvRel
set_option linter.unusedVariables false
namespace Go.Av

/-! ### Lists -/
theorem len_eq (l : List AV) : len l = l.length := by
  induction l with
  | nil => rfl
  | cons a l ih => show Nat.succ (len l) = _; rw [ih]; rfl
theorem takeA_eq (l : List AV) : ∀ n, takeA l n = l.take n := by
  induction l with
  | nil => intro n; cases n <;> rfl
  | cons a l ih =>
    intro n
    cases n with
    | zero => rfl
    | succ n => show a :: takeA l n = _; rw [ih]; rfl
theorem dropA_eq (l : List AV) : ∀ n, dropA l n = l.drop n := by
  induction l with
  | nil => intro n; cases n <;> rfl
  | cons a l ih =>
    intro n
    cases n with
    | zero => rfl
    | succ n => show dropA l n = _; rw [ih]; rfl
theorem getRange_eq {l r : List AV} {o n : Nat} (h : getRange l o n = some r) : r = (l.drop o).take n ∧ r.length = n := by
  unfold getRange at h
  simp only [len_eq, takeA_eq, dropA_eq] at h
  cases hb : Nat.beq ((l.drop o).take n).length n with
  | false => rw [hb] at h; cases h
  | true =>
    rw [hb] at h
    injection h with h
    exact ⟨h.symm, h ▸ Nat.eq_of_beq_eq_true hb⟩
theorem over_eq : ∀ (vs l r : List AV), over vs l = some r → vs.length ≤ l.length ∧ r = vs ++ l.drop vs.length := by
  intro vs
  induction vs with
  | nil => intro l r h; injection h with h; exact ⟨by simp, by simp [h]⟩
  | cons v vs ih =>
    intro l r h
    cases l with
    | nil => cases h
    | cons a l =>
      have h' : Option.casesOn (motive := fun _ => Option (List AV)) (over vs l) none (fun r' => some (v :: r')) = some r := h
      cases ho : over vs l with
      | none => rw [ho] at h'; cases h'
      | some r' =>
        rw [ho] at h'
        injection h' with h'
        obtain ⟨h1, h2⟩ := ih l r' ho
        exact ⟨by simpa using h1, by rw [← h', h2]; rfl⟩
theorem putRange_eq : ∀ (l vs : List AV) (o : Nat) (r : List AV), putRange l vs o = some r → o + vs.length ≤ l.length ∧ r = l.take o ++ vs ++ l.drop (o + vs.length) := by
  intro l vs
  induction l with
  | nil =>
    intro o r h
    cases o with
    | zero =>
      obtain ⟨h1, h2⟩ := over_eq vs [] r h
      exact ⟨by simpa using h1, by simpa using h2⟩
    | succ o => cases h
  | cons a l ih =>
    intro o r h
    cases o with
    | zero =>
      obtain ⟨h1, h2⟩ := over_eq vs (a :: l) r h
      exact ⟨by simpa using h1, by simpa using h2⟩
    | succ o =>
      have h' : Option.casesOn (motive := fun _ => Option (List AV)) (putRange l vs o) none (fun r' => some (a :: r')) = some r := h
      cases ho : putRange l vs o with
      | none => rw [ho] at h'; cases h'
      | some r' =>
        rw [ho] at h'
        injection h' with h'
        obtain ⟨h1, h2⟩ := ih o r' ho
        refine ⟨by simp; omega, ?_⟩
        rw [← h', h2, show o + 1 + vs.length = (o + vs.length) + 1 from by omega]
        rfl

theorem repl_length (z : List AV) (n : Nat) : (repl z n).length = n * z.length := by
  induction n with
  | zero => simp [repl]
  | succ n ih => simp [repl, ih, Nat.succ_mul]; omega
theorem repl_one {z : List AV} (h : ∀ v ∈ z, oneA v = true) (n : Nat) : ∀ v ∈ repl z n, oneA v = true := by
  induction n with
  | zero => simp [repl]
  | succ n ih => intro v hv; simp [repl] at hv; exact hv.elim (h v) (ih v)

/-! ### Constants -/
theorem ofCell_ok {v : Value} {a : AV} (h : ofCell v = some a) (ι : Emb) : VR ι a v ∧ oneA a = true := by
  unfold ofCell at h
  split at h <;> first | (injection h with h; subst h) | cases h
  · exact ⟨.bool _, rfl⟩
  · exact ⟨.int _ _, rfl⟩
  · rename_i s
    refine ⟨?_, rfl⟩
    have := VR.str (ι := ι) s.data.toList
    simpa using this
  · exact ⟨.nilptr, rfl⟩
  · exact ⟨.nilsl, rfl⟩
  · exact ⟨.nilmap, rfl⟩
  · exact ⟨.nilfn, rfl⟩
theorem ofCells_ok : ∀ {vs : List Value} {l : List AV}, ofCells vs = some l → ∀ (ι : Emb), VRL ι l vs ∧ ∀ a ∈ l, oneA a = true
  | [], l, h, ι => by injection h with h; subst h; exact ⟨.nil, by simp⟩
  | v :: r, l, h, ι => by
    unfold ofCells at h
    split at h
    · rename_i a l' h1 h2
      injection h with h
      subst h
      obtain ⟨h3, h4⟩ := ofCell_ok h1 ι
      obtain ⟨h5, h6⟩ := ofCells_ok h2 ι
      refine ⟨.cons h3 h5, fun x hx => ?_⟩
      rcases List.mem_cons.1 hx with rfl | hx
      · exact h4
      · exact h6 x hx
    · cases h
theorem ofV_ok {v : Value} {a : AV} (h : ofV v = some a) (ι : Emb) : VR ι a v := by
  unfold ofV at h
  split at h
  · rename_i cs
    split at h
    · rename_i l hl
      injection h with h
      subst h
      obtain ⟨h1, h2⟩ := ofCells_ok hl ι
      simpa using VR.agg h1 h2
    · cases h
  · exact (ofCell_ok h ι).1
theorem cOpd_ok {x : Operand} {y : Opd} (h : cOpd x = some y) {ι : Emb} {ts : TM} {a : Act} (ht : ∀ t, VR ι (ts.at t) (a.tmps.getD t undef)) : VR ι (evA ts y) (a.eval x) := by
  unfold cOpd at h
  split at h
  · injection h with h; subst h; exact ht _
  · split at h
    · rename_i hv; injection h with h; subst h; exact ofV_ok hv ι
    · cases h
  · injection h with h; subst h; exact .fn .nil .nil
  · cases h
theorem cOpds_ok : ∀ {xs : List Operand} {ys : List Opd}, cOpds xs = some ys → ∀ {ι : Emb} {ts : TM} {a : Act} (ht : ∀ t, VR ι (ts.at t) (a.tmps.getD t undef)), VRL ι (evL ts ys) (xs.map a.eval)
  | [], ys, h, ι, ts, a, ht => by injection h with h; subst h; exact .nil
  | x :: xs, ys, h, ι, ts, a, ht => by
    unfold cOpds at h
    split at h
    · rename_i y l h1 h2
      injection h with h
      subst h
      exact .cons (cOpd_ok h1 ht) (cOpds_ok h2 ht)
    · cases h

theorem VR.cells {ι : Emb} {a : AV} {v : Value} (h : VR ι a v) : VRL ι (cellsOf a) v.cells.toList := by
  cases h
  case agg h h1 => simpa [cellsOf, Value.cells] using h
  all_goals exact .cons (by constructor <;> assumption) .nil
theorem VR.cells_one {ι : Emb} {a : AV} {v : Value} (h : VR ι a v) (ht : ∀ l, a ≠ .tup l) : ∀ x ∈ cellsOf a, oneA x = true := by
  cases h
  case agg h h1 => exact h1
  case tup => exact absurd rfl (ht _)
  all_goals simp [cellsOf, oneA]
theorem VRL.one {ι : Emb} {l : List AV} {vs : List Value} (h : VRL ι l vs) (h1 : ∀ a ∈ l, oneA a = true) : ∀ v ∈ vs, v.oneCell' = true := by
  induction l generalizing vs with
  | nil => cases h; simp
  | cons a l ih =>
    cases h with
    | cons h ht =>
      intro v hv
      rcases List.mem_cons.1 hv with rfl | hv
      · exact h.one (h1 a (by simp))
      · exact ih ht (fun x hx => h1 x (by simp [hx])) v hv

/-! ### Memory -/
section
variable {P : Program} {ι : Emb} {σ : AS} {w : World}
def at_ (ι : Emb) (b c k : Nat) : Emb := ⟨fun x => if x = b then some c else ι x, fun x => if x = b then k else ι.room x⟩
theorem at_blk (ι : Emb) (b c k x : Nat) : at_ ι b c k x = if x = b then some c else ι x := rfl
theorem at_room (ι : Emb) (b c k x : Nat) : (at_ ι b c k).room x = if x = b then k else ι.room x := rfl

theorem R.none_next (h : R P ι σ w) {b : Nat} (hb : σ.next ≤ b) : ι b = none := by
  cases hi : ι b with
  | none => rfl
  | some c => have := (h.lt b c hi).1; omega
theorem R.ext_at (h : R P ι σ w) (c k : Nat) : Ext ι (at_ ι σ.next c k) := fun b d hb => by
  have hne : b ≠ σ.next := by
    rintro rfl
    rw [h.none_next (Nat.le_refl _)] at hb
    cases hb
  rw [at_blk, at_room, if_neg hne, if_neg hne]
  exact ⟨hb, rfl⟩

/-- A new block. -/
theorem R.alloc (h : R P ι σ w) {o : AObj} {o' : Obj} (k : Nat) (ho : OR P (at_ ι σ.next w.heap.size k) σ.next o o') :
    R P (at_ ι σ.next w.heap.size k) (σ.alloc o) (w.alloc o') ∧ Later ι σ w (at_ ι σ.next w.heap.size k) (σ.alloc o) (w.alloc o') := by
  have hx := h.ext_at w.heap.size k
  have hold : ∀ c, c < w.heap.size → (w.alloc o').heap[c]? = w.heap[c]? := fun c hc => by
    show (w.heap.push o')[c]? = _
    rw [Array.getElem?_push, if_neg (by omega)]
  have hsz : (w.alloc o').heap.size = w.heap.size + 1 := by show (w.heap.push o').size = _; simp
  have hnew : (w.alloc o').heap[w.heap.size]? = some o' := by show (w.heap.push o')[w.heap.size]? = _; simp
  constructor
  · refine ⟨fun b c hb => ?_, fun b hb => ?_, fun b b' c hl hl' hb hb' => ?_, fun b c x hb hg => ?_⟩
    · rw [hsz, AS.next_alloc]
      rw [at_blk] at hb
      split at hb
      · rename_i e; injection hb with hb; omega
      · have := h.lt b c hb; omega
    · rw [AS.get_alloc, if_neg (by simp at hb; omega)]
      exact h.fresh b (by simp at hb; omega)
    · rw [at_blk] at hb hb'
      split at hb
      · rename_i e
        split at hb'
        · rename_i e'; exact .inl (e.trans e'.symm)
        · injection hb with hb; have := (h.lt b' c hb').2; omega
      · split at hb'
        · injection hb' with hb'; have := (h.lt b c hb).2; omega
        · rename_i e e'
          have l1 : σ.live b := by obtain ⟨x, hx⟩ := hl; rw [AS.get_alloc, if_neg e] at hx; exact ⟨x, hx⟩
          have l2 : σ.live b' := by obtain ⟨x, hx⟩ := hl'; rw [AS.get_alloc, if_neg e'] at hx; exact ⟨x, hx⟩
          rcases h.inj b b' c l1 l2 hb hb' with h1 | ⟨⟨x, y, z, h1⟩, ⟨x', y', z', h2⟩⟩
          · exact .inl h1
          · exact .inr ⟨⟨x, y, z, by rw [AS.get_alloc, if_neg e]; exact h1⟩, ⟨x', y', z', by rw [AS.get_alloc, if_neg e']; exact h2⟩⟩
    · rw [at_blk] at hb
      rw [AS.get_alloc] at hg
      split at hb
      · rename_i e
        rw [if_pos e] at hg
        injection hb with hb
        injection hg with hg
        subst hb hg
        subst e
        exact ⟨o', hnew, ho⟩
      · rename_i e
        rw [if_neg e] at hg
        obtain ⟨y, hy, hr⟩ := h.obj b c x hb hg
        exact ⟨y, by rw [hold c (h.lt b c hb).2]; exact hy, hr.ext hx hb⟩
  · refine ⟨hx, fun b c hb => ?_, by simp, fun b hb hn => ?_, fun b hb hn => ?_, by omega, fun c hc _ => hold c hc, rfl, rfl, rfl⟩
    · rw [at_blk] at hb
      split at hb
      · rename_i e; injection hb with hb; subst e hb; exact .inr ⟨Nat.le_refl _, .inl (Nat.le_refl _)⟩
      · exact .inl hb
    · rw [AS.get_alloc, if_neg (by omega)]
    · rw [AS.get_alloc, if_neg (by omega)]; exact hn

/-- An object is written. -/
theorem R.set (h : R P ι σ w) {b c : Nat} {o o1 : AObj} {o1' : Obj} (hb : ι b = some c) (hg : σ.get b = some o) (hro : ¬ σ.rob b) (ho : OR P ι b o1 o1')
    {w1 : World} (hw : w1.heap[c]? = some o1') (hsz : w1.heap.size = w.heap.size) (hot : ∀ d, d ≠ c → w1.heap[d]? = w.heap[d]?) (hs1 : w1.os = w.os) (hs2 : w1.tape = w.tape) (hs3 : w1.output = w.output) :
    R P ι (σ.put b (some o1)) w1 ∧ Later ι σ w ι (σ.put b (some o1)) w1 := by
  have hlv : σ.live b := ⟨o, hg⟩
  have hne : ∀ b' c', σ.live b' → ι b' = some c' → b' ≠ b → c' ≠ c := fun b' c' hl' hc' e ec => by
    subst ec
    rcases h.inj b' b c' hl' hlv hc' hb with h1 | ⟨_, h1⟩
    · exact e h1
    · exact hro h1
  have lv : ∀ x, (σ.put b (some o1)).live x → σ.live x := fun x ⟨y, hy⟩ => by
    rw [AS.get_put] at hy
    split at hy
    · rename_i e; subst e; exact hlv
    · exact ⟨y, hy⟩
  constructor
  · refine ⟨fun x y hx => by have := h.lt x y hx; rw [hsz]; exact this, fun x hx => ?_, fun x x' y hl hl' hy hy' => ?_, fun x y z hx hz => ?_⟩
    · rw [AS.get_put, if_neg (by rintro rfl; have := (h.lt _ _ hb).1; simp at hx; omega)]; exact h.fresh x hx
    · by_cases e : x = b
      · by_cases e' : x' = b
        · exact .inl (e.trans e'.symm)
        · subst e; rw [hb] at hy; injection hy with hy; exact absurd hy.symm (hne x' y (lv _ hl') hy' e')
      · by_cases e' : x' = b
        · subst e'; rw [hb] at hy'; injection hy' with hy'; exact absurd hy'.symm (hne x y (lv _ hl) hy e)
        · rcases h.inj x x' y (lv _ hl) (lv _ hl') hy hy' with h1 | ⟨⟨p, q, r, h1⟩, ⟨p', q', r', h2⟩⟩
          · exact .inl h1
          · exact .inr ⟨⟨p, q, r, by rw [AS.get_put, if_neg e]; exact h1⟩, ⟨p', q', r', by rw [AS.get_put, if_neg e']; exact h2⟩⟩
    · rw [AS.get_put] at hz
      split at hz
      · rename_i e
        subst e
        rw [hb] at hx
        injection hx with hx
        injection hz with hz
        subst hx hz
        exact ⟨o1', hw, ho⟩
      · rename_i e
        obtain ⟨u, hu, hr⟩ := h.obj x y z hx hz
        exact ⟨u, by rw [hot y (hne x y ⟨z, hz⟩ hx e)]; exact hu, hr⟩
  · refine ⟨Ext.refl _, fun _ _ hx => .inl hx, Nat.le_refl _, fun x hx hn => ?_, fun x hx hn => ?_, by omega, fun d hd hf => hot d ?_, hs1, hs2, hs3⟩
    · rw [AS.get_put, if_neg (by rintro rfl; rw [hb] at hn; cases hn)]
    · rw [AS.get_put, if_neg (by rintro rfl; rw [hg] at hn; cases hn)]; exact hn
    · rintro rfl; exact hf b hlv hb

/-- A block that is looked at no more. -/
theorem R.kill (h : R P ι σ w) (b : Nat) : R P ι (σ.put b none) w := by
  have lv : ∀ x, (σ.put b none).live x → σ.live x ∧ x ≠ b := fun x ⟨y, hy⟩ => by
    rw [AS.get_put] at hy
    split at hy
    · cases hy
    · rename_i e; exact ⟨⟨y, hy⟩, e⟩
  refine ⟨h.lt, fun x hx => ?_, fun x x' y hl hl' hy hy' => ?_, fun x y z hx hz => ?_⟩
  · rw [AS.get_put]; split; rfl; exact h.fresh x hx
  · rcases h.inj x x' y (lv _ hl).1 (lv _ hl').1 hy hy' with h1 | ⟨⟨p, q, r, h1⟩, ⟨p', q', r', h2⟩⟩
    · exact .inl h1
    · exact .inr ⟨⟨p, q, r, by rw [AS.get_put, if_neg (lv _ hl).2]; exact h1⟩, ⟨p', q', r', by rw [AS.get_put, if_neg (lv _ hl').2]; exact h2⟩⟩
  · rw [AS.get_put] at hz
    split at hz
    · cases hz
    · exact h.obj x y z hx hz
theorem Later.kill (b c : Nat) (hb : ι b = some c) : Later ι σ w ι (σ.put b none) w := by
  refine ⟨Ext.refl _, fun _ _ hx => .inl hx, Nat.le_refl _, fun x hx hn => ?_, fun x hx hn => ?_, Nat.le_refl _, fun _ _ _ => rfl, rfl, rfl, rfl⟩
  · rw [AS.get_put, if_neg (by rintro rfl; rw [hb] at hn; cases hn)]
  · rw [AS.get_put]; split; rfl; exact hn
end
end Go.Av

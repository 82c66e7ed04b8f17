/-
  Av: a region that draws its order comes to what its one walked order comes to.
-/
import Derived.Test.YtnekfkhjokgdmaaGreatAvTrace
set_option linter.unusedVariables false
namespace Go.Av

structure Wide (F : Fence) : Prop where
  fn : ∀ f, F.fn f
  depth : F.depth = none

/-- An operation that acts (or looks) as the small machine's does. -/
def OpOK (F : Fence) (P : Program) (s : Lv) (o : Oper) (ao : AOp) : Prop :=
  ∀ (ι : Emb) (σ : AS) (ts : TM) (a : Act) (w : World) (v : AV) (σ' : AS), R P ι σ w → Slots ι ts a → opA s σ ts ao = some (v, σ') →
    ∀ (K : Act → World → Prop) (Q : Exit → Act → World → Prop), (∀ ι' w' v', Later ι σ w ι' σ' w' → R P ι' σ' w' → VR ι' v v' → K (a.put o.dst v') w') → o.wpIn F 0 P a w K Q

theorem cOp_defer {P : Program} {o : Op} {ao : AOp} (h : cOp P o = some ao) : ∀ c, o ≠ .defer c := by
  rintro c rfl
  simp [cOp] at h

/-! ### Worlds -/
section
variable {P : Program} {ι ι' : Emb} {σ σ' : AS} {w w' : World}
/-- An object is told of that lies there already (or does not lie yet). -/
theorem R.tell (h : R P ι σ w) {b : Nat} {x : AObj} (hb : b < σ.next) (hn : σ.get b = none) (hx : ∀ c, ι b = some c → (∃ o', w.heap[c]? = some o' ∧ OR P ι b x o') ∧ ∀ b', σ.live b' → ι b' = some c → b' = b) : R P ι (σ.put b (some x)) w := by
  have lv : ∀ y, (σ.put b (some x)).live y → y = b ∨ σ.live y := fun y ⟨z, hz⟩ => by
    rw [AS.get_put] at hz
    split at hz
    · exact .inl (by assumption)
    · exact .inr ⟨z, hz⟩
  refine ⟨h.lt, fun y hy => ?_, fun y y' c hl hl' hc hc' => ?_, fun y c z hy hz => ?_⟩
  · rw [AS.get_put, if_neg (by simp at hy; omega)]; exact h.fresh y hy
  · rcases lv y hl with rfl | h1
    · rcases lv y' hl' with rfl | h2
      · exact .inl rfl
      · exact .inl ((hx c hc).2 y' h2 hc').symm
    · rcases lv y' hl' with rfl | h2
      · exact .inl ((hx c hc').2 y h1 hc)
      · rcases h.inj y y' c h1 h2 hc hc' with h3 | ⟨⟨p, q, r, h4⟩, ⟨p', q', r', h5⟩⟩
        · exact .inl h3
        · refine .inr ⟨⟨p, q, r, ?_⟩, ⟨p', q', r', ?_⟩⟩
          · rw [AS.get_put, if_neg (by rintro rfl; rw [hn] at h4; cases h4)]; exact h4
          · rw [AS.get_put, if_neg (by rintro rfl; rw [hn] at h5; cases h5)]; exact h5
  · rw [AS.get_put] at hz
    split at hz
    · rename_i e
      subst e
      injection hz with hz; subst hz
      exact (hx c hy).1
    · exact h.obj y c z hy hz
/-- A block is laid that was told of (or will be). -/
theorem R.place (h : R P ι σ w) {b : Nat} {o' : Obj} (hb : b < σ.next) (hn : ι b = none) (hx : ∀ x, σ.get b = some x → OR P (at_ ι b w.heap.size 0) b x o') : Ext ι (at_ ι b w.heap.size 0) ∧ R P (at_ ι b w.heap.size 0) σ (w.alloc o') := by
  have hext : Ext ι (at_ ι b w.heap.size 0) := fun y c hy => by
    have hne : y ≠ b := by rintro rfl; rw [hn] at hy; cases hy
    rw [at_blk, at_room, if_neg hne, if_neg hne]; exact ⟨hy, rfl⟩
  have hsz : (w.alloc o').heap.size = w.heap.size + 1 := by show (w.heap.push o').size = _; simp
  have hold : ∀ c, c < w.heap.size → (w.alloc o').heap[c]? = w.heap[c]? := fun c hc => by
    show (w.heap.push o')[c]? = _
    rw [Array.getElem?_push, if_neg (by omega)]
  have hnew : (w.alloc o').heap[w.heap.size]? = some o' := by show (w.heap.push o')[w.heap.size]? = _; simp
  refine ⟨hext, fun y c hy => ?_, h.fresh, fun y y' c hl hl' hy hy' => ?_, fun y c x hy hg => ?_⟩
  · rw [at_blk] at hy
    rw [hsz]
    split at hy
    · rename_i e; injection hy with hy; subst e; omega
    · have := h.lt y c hy; omega
  · rw [at_blk] at hy hy'
    split at hy
    · rename_i e
      split at hy'
      · rename_i e'; exact .inl (e.trans e'.symm)
      · injection hy with hy; have := (h.lt y' c hy').2; omega
    · split at hy'
      · injection hy' with hy'; have := (h.lt y c hy).2; omega
      · exact h.inj y y' c hl hl' hy hy'
  · rw [at_blk] at hy
    split at hy
    · rename_i e
      injection hy with hy
      subst hy e
      exact ⟨o', hnew, hx x hg⟩
    · obtain ⟨z, hz, hr⟩ := h.obj y c x hy hg
      exact ⟨z, by rw [hold c (h.lt y c hy).2]; exact hz, hr.ext hext hy⟩
end

/-! ### Where the region stands -/
section
variable {F : Fence} {P : Program} {s : Lv} {N : Nat} {ops : Array Oper} {l : List AOper} {bef : Nat → Nat → Bool} {E : List Nat} {base : Nat} {T : Nat → TM} {S : Nat → AS} {V : Nat → AV}
variable {ι0 : Emb} {σ0 : AS} {w0 : World}

/-- What holds of the world when the walked order would stand at 'q', in the state σ; 'L' is listed. -/
structure Mid (P : Program) (l : List AOper) (base : Nat) (T : Nat → TM) (V : Nat → AV) (ι0 : Emb) (σ0 : AS) (w0 : World) (L : Nat → Bool) (q : Nat) (σ : AS) (ι : Emb) (w : World) : Prop where
  r : R P ι σ w
  la : Later ι0 σ0 w0 ι σ w
  nx : base + l.length ≤ σ.next
  un : ∀ (i : Nat) (ao : AOper), l[i]? = some ao → classOf ao.op = 2 → L i = false → ι (base + i) = none
  pend : ∀ (i : Nat) (ao : AOper) x, i < q → l[i]? = some ao → classOf ao.op = 2 → wantedA (T i) ao.guard = true → L i = false → allocA (T i) (base + i) ao.op = some (V i, x) → σ.get (base + i) = some x
  early : ∀ (i : Nat) (ao : AOper), q ≤ i → l[i]? = some ao → classOf ao.op = 2 → σ.get (base + i) = none ∧
    (L i = true → wantedA (T i) ao.guard = true → ∀ x, allocA (T i) (base + i) ao.op = some (V i, x) → ∃ c o', ι (base + i) = some c ∧ w.heap[c]? = some o' ∧ OR P ι (base + i) x o' ∧ ∀ b, ι b = some c → b = base + i)

variable {L : Nat → Bool} {q : Nat} {σ σ' : AS} {ι ι' : Emb} {w w' : World}

theorem Mid.later (h : Mid P l base T V ι0 σ0 w0 L q σ ι w) (h0 : R P ι0 σ0 w0) (hl : Later ι σ w ι' σ' w') (hr : R P ι' σ' w') : Mid P l base T V ι0 σ0 w0 L q σ' ι' w' := by
  have hlen : ∀ (i : Nat) (ao : AOper), l[i]? = some ao → i < l.length := fun i ao h => (List.getElem?_eq_some_iff.1 h).1
  refine ⟨hr, h.la.trans (fun b c hb => (h0.lt b c hb).1) hl, Nat.le_trans h.nx hl.next, fun i ao hi hc hL => ?_, fun i ao x hq hi hc hw hL hx => ?_, fun i ao hq hi hc => ?_⟩
  · cases hb : ι' (base + i) with
    | none => rfl
    | some c =>
      rcases hl.new _ _ hb with h1 | ⟨h1, _⟩
      · rw [h.un i ao hi hc hL] at h1; cases h1
      · have := h.nx; have := hlen i ao hi; omega
  · have := h.nx; have := hlen i ao hi
    rw [hl.ghost _ (by omega) (h.un i ao hi hc hL)]
    exact h.pend i ao x hq hi hc hw hL hx
  · have hnx := h.nx; have hil := hlen i ao hi
    obtain ⟨h1, h2⟩ := h.early i ao hq hi hc
    refine ⟨hl.dead _ (by omega) h1, fun hL hw x hx => ?_⟩
    obtain ⟨c, o', h3, h4, h5, h6⟩ := h2 hL hw x hx
    have hdead : ¬ σ.live (base + i) := fun ⟨y, hy⟩ => by rw [h1] at hy; cases hy
    refine ⟨c, o', (hl.ext _ _ h3).1, ?_, h5.ext hl.ext h3, fun b hb => ?_⟩
    · rw [hl.frame c (h.r.lt _ _ h3).2 (fun b hlv hb => hdead (h6 b hb ▸ hlv))]; exact h4
    · rcases hl.new _ _ hb with h7 | ⟨h7, h8 | ⟨b', h8, h9⟩⟩
      · exact h6 b h7
      · have := (h.r.lt _ _ h3).2; omega
      · exact absurd (h6 b' h9 ▸ h8) hdead

theorem Mid.step (h : Mid P l base T V ι0 σ0 w0 L q (S q) ι w) (hD : Dr P s N ops l bef E base T S V) (hbase : σ0.next = base) {ao : AOper} (hq : l[q]? = some ao) (hn : classOf ao.op ≠ 3 ∨ wantedA (T q) ao.guard = false) : Mid P l base T V ι0 σ0 w0 L (q + 1) (S (q + 1)) ι w := by
  have hlen : ∀ (i : Nat) (ao : AOper), l[i]? = some ao → i < l.length := fun i ao h => (List.getElem?_eq_some_iff.1 h).1
  by_cases hcl : classOf ao.op = 2 ∧ wantedA (T q) ao.guard = true
  · obtain ⟨hc, hw⟩ := hcl
    obtain ⟨x, hx, hS⟩ := hD.al q ao hq hw hc
    rw [hS]
    have hnx := h.nx; have hql := hlen q ao hq
    obtain ⟨e1, e2⟩ := h.early q ao (Nat.le_refl _) hq hc
    have hne : ∀ i, i ≠ q → base + i ≠ base + q := fun i hi => by omega
    refine ⟨h.r.tell (by omega) e1 (fun c hcc => ?_), ⟨h.la.ext, h.la.new, h.la.next, fun b hb hn' => ?_, fun b hb hn' => ?_, h.la.size, h.la.frame, h.la.os, h.la.tape, h.la.output⟩, h.nx, h.un, fun i a1 y hi hil hic hiw hL hy => ?_, fun i a1 hi hil hic => ?_⟩
    · cases hL : L q with
      | false => rw [h.un q ao hq hc hL] at hcc; cases hcc
      | true =>
        obtain ⟨c', o', e3, e4, e5, e6⟩ := e2 hL hw x hx
        rw [hcc] at e3; injection e3 with e3; subst e3
        exact ⟨⟨o', e4, e5⟩, fun b' _ hb' => e6 b' hb'⟩
    · rw [AS.get_put, if_neg (by omega)]; exact h.la.ghost b hb hn'
    · rw [AS.get_put, if_neg (by omega)]; exact h.la.dead b hb hn'
    · rw [AS.get_put]
      by_cases e : i = q
      · subst e
        rw [hq] at hil; injection hil with hil; subst hil
        rw [hx] at hy; injection hy with hy; injection hy with _ hy
        rw [if_pos rfl, hy]
      · rw [if_neg (hne i e)]
        exact h.pend i a1 y (by omega) hil hic hiw hL hy
    · rw [AS.get_put, if_neg (hne i (by omega))]
      exact h.early i a1 (by omega) hil hic
  · have hS : S (q + 1) = S q := by
      cases hw : wantedA (T q) ao.guard with
      | false => exact (hD.unw q ao hq hw).2
      | true =>
        rcases classOf_le ao.op with hc | hc | hc | hc
        · exact (hD.pur q ao hq hw hc).1
        · exact (hD.rd q ao hq hw hc).1
        · exact absurd ⟨hc, hw⟩ hcl
        · rcases hn with hn | hn
          · exact absurd hc hn
          · rw [hw] at hn; cases hn
    rw [hS]
    refine ⟨h.r, h.la, h.nx, h.un, fun i a1 y hi hil hic hiw hL hy => ?_, fun i a1 hi hil hic => h.early i a1 (by omega) hil hic⟩
    by_cases e : i = q
    · subst e
      rw [hq] at hil; injection hil with hil; subst hil
      exact absurd ⟨hic, hiw⟩ hcl
    · exact h.pend i a1 y (by omega) hil hic hiw hL hy

theorem Mid.walk (hD : Dr P s N ops l bef E base T S V) (hbase : σ0.next = base) {q1 : Nat} (hle : q ≤ q1) (hq1 : q1 ≤ l.length) (hn : ∀ i ao, q ≤ i → i < q1 → l[i]? = some ao → classOf ao.op ≠ 3 ∨ wantedA (T i) ao.guard = false)
    (h : Mid P l base T V ι0 σ0 w0 L q (S q) ι w) : Mid P l base T V ι0 σ0 w0 L q1 (S q1) ι w := by
  obtain ⟨d, rfl⟩ : ∃ d, q1 = q + d := ⟨q1 - q, by omega⟩
  induction d with
  | zero => exact h
  | succ d ih =>
    have h1 := ih (by omega) (by omega) (fun i ao hi hlt => hn i ao hi (by omega))
    have hlt : q + d < l.length := by omega
    have hg : l[q + d]? = some l[q + d] := List.getElem?_eq_getElem hlt
    exact h1.step hD hbase hg (hn (q + d) _ (by omega) (by omega) hg)

/-- One more is listed, that makes no block. -/
theorem Mid.list (h : Mid P l base T V ι0 σ0 w0 L q σ ι w) {i : Nat} {ao : AOper} (hi : l[i]? = some ao) (hn : classOf ao.op ≠ 2 ∨ wantedA (T i) ao.guard = false) {L' : Nat → Bool} (hL : ∀ j, L' j = if j = i then true else L j) : Mid P l base T V ι0 σ0 w0 L' q σ ι w := by
  have old : ∀ j, L' j = false → L j = false := fun j hj => by
    rw [hL] at hj
    split at hj
    · cases hj
    · exact hj
  refine ⟨h.r, h.la, h.nx, fun j a1 hj hc hLj => h.un j a1 hj hc (old j hLj), fun j a1 x hq hj hc hw hLj hx => h.pend j a1 x hq hj hc hw (old j hLj) hx, fun j a1 hq hj hc => ?_⟩
  obtain ⟨h1, h2⟩ := h.early j a1 hq hj hc
  refine ⟨h1, fun hLj hw x hx => ?_⟩
  by_cases e : j = i
  · subst e
    rw [hi] at hj; injection hj with hj; subst hj
    rcases hn with hn | hn
    · exact absurd hc hn
    · rw [hw] at hn; cases hn
  · rw [hL, if_neg e] at hLj
    exact h2 hLj hw x hx

/-- A block is made. -/
theorem Mid.make (h : Mid P l base T V ι0 σ0 w0 L q σ ι w) (hbase : σ0.next = base) {i : Nat} {ao : AOper} {x : AObj} {o' : Obj} (hi : l[i]? = some ao) (hc : classOf ao.op = 2) (hw : wantedA (T i) ao.guard = true) (hx : allocA (T i) (base + i) ao.op = some (V i, x)) (hLi : L i = false)
    (hO : ∀ ι', Ext ι ι' → ι' (base + i) = some w.heap.size → OR P ι' (base + i) x o') {L' : Nat → Bool} (hL : ∀ j, L' j = if j = i then true else L j) :
    Ext ι (at_ ι (base + i) w.heap.size 0) ∧ at_ ι (base + i) w.heap.size 0 (base + i) = some w.heap.size ∧ Mid P l base T V ι0 σ0 w0 L' q σ (at_ ι (base + i) w.heap.size 0) (w.alloc o') := by
  have hlen : ∀ (i : Nat) (ao : AOper), l[i]? = some ao → i < l.length := fun i ao h => (List.getElem?_eq_some_iff.1 h).1
  have hnx := h.nx; have hil := hlen i ao hi
  have hself : at_ ι (base + i) w.heap.size 0 (base + i) = some w.heap.size := at_self _ _ _ _
  have hun := h.un i ao hi hc hLi
  have hext0 : Ext ι (at_ ι (base + i) w.heap.size 0) := fun y c hy => by
    have hne : y ≠ base + i := by rintro rfl; rw [hun] at hy; cases hy
    rw [at_blk, at_room, if_neg hne, if_neg hne]; exact ⟨hy, rfl⟩
  have hOR := hO _ hext0 hself
  obtain ⟨hext, hR⟩ := h.r.place (o' := o') (show base + i < σ.next by omega) hun (fun y hy => by
    rcases Nat.lt_or_ge i q with hlt | hge
    · have := h.pend i ao x hlt hi hc hw hLi hx
      rw [this] at hy; injection hy with hy; subst hy
      exact hOR
    · rw [(h.early i ao hge hi hc).1] at hy; cases hy)
  have hsz : (w.alloc o').heap.size = w.heap.size + 1 := by show (w.heap.push o').size = _; simp
  have hold : ∀ c, c < w.heap.size → (w.alloc o').heap[c]? = w.heap[c]? := fun c hc => by
    show (w.heap.push o')[c]? = _
    rw [Array.getElem?_push, if_neg (by omega)]
  have hnew : (w.alloc o').heap[w.heap.size]? = some o' := by show (w.heap.push o')[w.heap.size]? = _; simp
  refine ⟨hext, hself, hR, ⟨h.la.ext.trans hext, fun b c hb => ?_, h.la.next, h.la.ghost, h.la.dead, by rw [hsz]; have := h.la.size; omega, fun c hc' hf => ?_, h.la.os, h.la.tape, h.la.output⟩, h.nx, fun j a1 hj hjc hLj => ?_, fun j a1 y hq hj hjc hjw hLj hy => ?_, fun j a1 hq hj hjc => ?_⟩
  · rw [at_blk] at hb
    split at hb
    · rename_i e
      injection hb with hb
      subst hb e
      exact .inr ⟨by omega, .inl h.la.size⟩
    · exact h.la.new b c hb
  · rw [hold c (Nat.lt_of_lt_of_le hc' h.la.size)]; exact h.la.frame c hc' hf
  · rw [hL] at hLj
    split at hLj
    · cases hLj
    · rename_i e
      rw [at_blk, if_neg (by omega)]
      exact h.un j a1 hj hjc hLj
  · rw [hL] at hLj
    split at hLj
    · cases hLj
    · exact h.pend j a1 y hq hj hjc hjw hLj hy
  · obtain ⟨h1, h2⟩ := h.early j a1 hq hj hjc
    refine ⟨h1, fun hLj hjw y hy => ?_⟩
    by_cases e : j = i
    · subst e
      rw [hi] at hj; injection hj with hj; subst hj
      rw [hx] at hy; injection hy with hy; injection hy with _ hy; subst hy
      refine ⟨_, o', hself, hnew, hOR, fun b hb => ?_⟩
      rw [at_blk] at hb
      split at hb
      · assumption
      · have := (h.r.lt b _ hb).2; omega
    · rw [hL, if_neg e] at hLj
      obtain ⟨c, o1, h3, h4, h5, h6⟩ := h2 hLj hjw y hy
      have hclt := (h.r.lt _ _ h3).2
      refine ⟨c, o1, (hext _ _ h3).1, by rw [hold c hclt]; exact h4, h5.ext hext h3, fun b hb => ?_⟩
      rw [at_blk] at hb
      split at hb
      · injection hb with hb; omega
      · exact h6 b hb
end
end Go.Av

/-
  Av: a region that draws its order comes to what its one walked order comes to: the walk.
-/
import Derived.Test.YtnekfkhjokgdmaaGreatAvDraw
set_option linter.unusedVariables false
namespace Go.Av

/-- What is listed of a chain is its head. -/
theorem chain_prefix {p : Nat → Bool} : ∀ {E : List Nat}, (∀ (j e e' : Nat), E[j]? = some e → E[j + 1]? = some e' → p e' = true → p e = true) → ∀ (j e : Nat), E[j]? = some e → (p e = true ↔ j < E.countP p)
  | [], _, j, e, h => by simp at h
  | a :: r, hc, j, e, h => by
    have hc' : ∀ (j e e' : Nat), r[j]? = some e → r[j + 1]? = some e' → p e' = true → p e = true := fun j e e' h1 h2 => hc (j + 1) e e' (by simpa using h1) (by simpa using h2)
    have ih := chain_prefix hc'
    cases ha : p a with
    | true =>
      rw [List.countP_cons_of_pos ha]
      cases j with
      | zero => simp at h; subst h; simp [ha]
      | succ j =>
        rw [ih j e (by simpa using h)]; omega
    | false =>
      have hall : ∀ (j e : Nat), r[j]? = some e → p e = false := by
        intro j
        induction j with
        | zero =>
          intro e he
          cases hp : p e with
          | false => rfl
          | true => have := hc 0 a e rfl (by simpa using he) hp; rw [ha] at this; cases this
        | succ j ihj =>
          intro e he
          cases hp : p e with
          | false => rfl
          | true =>
            have hlt : j < r.length := by have := (List.getElem?_eq_some_iff.1 he).1; omega
            have := hc' j _ e (List.getElem?_eq_getElem hlt) he hp
            rw [ihj _ (List.getElem?_eq_getElem hlt)] at this; cases this
      have h0 : (a :: r).countP p = 0 := by
        rw [List.countP_eq_zero]
        intro x hx
        rcases List.mem_cons.1 hx with rfl | hx
        · rw [ha]; simp
        · obtain ⟨j, hj⟩ := List.mem_iff_getElem?.1 hx
          rw [hall j x hj]; simp
      rw [h0]
      cases j with
      | zero => simp at h; subst h; simp [ha]
      | succ j => have := hall j e (by simpa using h); simp [this]

section
variable {F : Fence} {P : Program} {s : Lv} {N : Nat} {ops : Array Oper} {l : List AOper} {bef : Nat → Nat → Bool} {E : List Nat} {base : Nat} {T : Nat → TM} {S : Nat → AS} {V : Nat → AV}
variable {ι0 : Emb} {σ0 : AS} {w0 : World}

/-- The place of the next act. -/
def posD (E : List Nat) (n k : Nat) : Nat := E.getD k n

/-- Slots on the way of the walked order. -/
theorem Dr.slots (hD : Dr P s N ops l bef E base T S V) (t : Nat) : ∀ i, i ≤ l.length →
    (∀ j aj, l[j]? = some aj → aj.dst = some t → j < i → (T i).at t = V j) ∧ ((∀ j aj, l[j]? = some aj → aj.dst = some t → ¬ j < i) → (T i).at t = (T 0).at t) := by
  intro i
  induction i with
  | zero => intro _; exact ⟨fun j aj _ _ h => absurd h (Nat.not_lt_zero _), fun _ => rfl⟩
  | succ i ih =>
    intro hi
    obtain ⟨h1, h2⟩ := ih (by omega)
    have hg : l[i]? = some l[i] := List.getElem?_eq_getElem (by omega)
    have hn := hD.next i _ hg
    have hput : ∀ d v, (putA (T i) d v).at t = if d = some t then v else (T i).at t := fun d v => by
      cases d with
      | none => rfl
      | some d =>
        show ((T i).put d v).at t = _
        rw [TM.at_put]
        by_cases e : t = d
        · subst e; simp
        · rw [if_neg e, if_neg (by simpa using Ne.symm e)]
    rw [hn, hput]
    refine ⟨fun j aj hj hd hlt => ?_, fun hno => ?_⟩
    · by_cases e : l[i].dst = some t
      · have := hD.once i j _ aj t hg hj e hd
        subst this
        rw [if_pos e]
      · rw [if_neg e]
        have hne : j ≠ i := by rintro rfl; rw [hg] at hj; injection hj with hj; subst hj; exact e hd
        exact h1 j aj hj hd (by omega)
    · have e : ¬ l[i].dst = some t := fun e => hno i _ hg e (by omega)
      rw [if_neg e]
      exact h2 fun j aj hj hd hlt => hno j aj hj hd (by omega)

structure InvD (P : Program) (N : Nat) (ops : Array Oper) (l : List AOper) (E : List Nat) (base : Nat) (T : Nat → TM) (S : Nat → AS) (V : Nat → AV) (ι0 : Emb) (σ0 : AS) (w0 : World) (ds : List Deferred)
    (listed : Array Bool) (ι : Emb) (ts : TM) (a : Act) (w : World) : Prop where
  sz : listed.size = ops.size
  cl : Closed ops (fun i => listed.getD i false = true)
  mid : Mid P l base T V ι0 σ0 w0 (fun i => listed.getD i false) (posD E l.length (E.countP fun i => listed.getD i false)) (S (posD E l.length (E.countP fun i => listed.getD i false))) ι w
  tr : TR N ι ts a.tmps
  sl : ∀ t, (∀ (j : Nat) (aj : AOper), l[j]? = some aj → aj.dst = some t → listed.getD j false = false) → ts.at t = (T 0).at t
  sl' : ∀ (t j : Nat) (aj : AOper), l[j]? = some aj → aj.dst = some t → listed.getD j false = true → ts.at t = V j
  df : a.defers = ds

theorem put_tmps (a : Act) (d : Option Tmp) (v : Value) : (a.put d v).defers = a.defers := by cases d <;> rfl
theorem TR.putD {ι : Emb} {ts : TM} {a : Act} {d : Option Nat} {v : AV} {v' : Value} (h : TR N ι ts a.tmps) (hd : dstOk N d = true) (hv : VR ι v v') : TR N ι (putA ts d v) (a.put d v').tmps := by
  cases d with
  | none => exact h
  | some d => exact h.put (of_decide_eq_true hd) hv

variable {ds : List Deferred} {listed : Array Bool} {ι : Emb} {ts : TM} {a : Act} {w : World}

/-- Of one that is ready. -/
structure Rdy (ops : Array Oper) (listed : Array Bool) (i : Nat) (o : Oper) : Prop where
  op : ops[i]? = some o
  un : listed.getD i false = false
  af : ∀ e ∈ o.after, Region.binds .any e = true → listed.getD e.on false = true

theorem InvD.chain (h : InvD P N ops l E base T S V ι0 σ0 w0 ds listed ι ts a w) (hD : Dr P s N ops l bef E base T S V) : ∀ (j e : Nat), E[j]? = some e → (listed.getD e false = true ↔ j < E.countP fun i => listed.getD i false) :=
  chain_prefix (p := fun i => listed.getD i false) fun j e e' h1 h2 h3 => by
    have hb := hD.chain j e e' h1 h2
    have he' : e' ∈ E := List.mem_of_getElem? h2
    obtain ⟨ao, hao, _⟩ := (hD.eff e').1 he'
    have hlt : e' < ops.size := by rw [← hD.len]; exact (List.getElem?_eq_some_iff.1 hao).1
    have ho := Array.getElem?_eq_getElem hlt
    exact hD.dn e' e _ ho hb _ h.cl (h.cl e' _ ho h3)

theorem getD_list (listed : Array Bool) (i : Nat) (hi : i < listed.size) (j : Nat) : (listed.setIfInBounds i true).getD j false = if j = i then true else listed.getD j false := by
  by_cases e : j = i
  · subst e
    rw [if_pos rfl]
    simp [hi]
  · rw [if_neg e]
    simp [Array.getD_eq_getD_getElem?, Ne.symm e]

theorem InvD.same (h : InvD P N ops l E base T S V ι0 σ0 w0 ds listed ι ts a w) (hD : Dr P s N ops l bef E base T S V) {i : Nat} {o : Oper} {ao : AOper} (hr : Rdy ops listed i o) (hi : l[i]? = some ao) : ∀ t ∈ slotsO ao, ts.at t = (T i).at t := by
  intro t ht
  have hil : i < l.length := (List.getElem?_eq_some_iff.1 hi).1
  obtain ⟨s1, s2⟩ := hD.slots t i (by omega)
  by_cases hex : ∃ (j : Nat) (aj : AOper), l[j]? = some aj ∧ aj.dst = some t
  · obtain ⟨j, aj, hj, hd⟩ := hex
    have only : ∀ (k : Nat) (ak : AOper), l[k]? = some ak → ak.dst = some t → k = j := fun k ak hk hdk => hD.once k j ak aj t hk hj hdk hd
    rcases hD.slot i j ao aj t hi hj ht hd with hb | hb | rfl
    · have hL : listed.getD j false = true := hD.dn i j o hr.op hb _ h.cl hr.af
      rw [h.sl' t j aj hj hd hL, s1 j aj hj hd (hD.lt i j (by rw [← hD.len]; exact hil) hb)]
    · have hjl : j < ops.size := by rw [← hD.len]; exact (List.getElem?_eq_some_iff.1 hj).1
      have hlt := hD.lt j i hjl hb
      have hL : listed.getD j false = false := by
        cases hL : listed.getD j false with
        | false => rfl
        | true =>
          have ho := Array.getElem?_eq_getElem hjl
          have := hD.dn j i _ ho hb _ h.cl (h.cl j _ ho hL)
          rw [hr.un] at this; cases this
      rw [h.sl t (fun k ak hk hdk => by rw [only k ak hk hdk]; exact hL), s2 (fun k ak hk hdk => by rw [only k ak hk hdk]; omega)]
    · rw [h.sl t (fun k ak hk hdk => by rw [only k ak hk hdk]; exact hr.un), s2 (fun k ak hk hdk => by rw [only k ak hk hdk]; omega)]
  · rw [h.sl t (fun k ak hk hdk => absurd ⟨k, ak, hk, hdk⟩ hex), s2 (fun k ak hk hdk => absurd ⟨k, ak, hk, hdk⟩ hex)]

/-- One more is listed. -/
theorem InvD.next (h : InvD P N ops l E base T S V ι0 σ0 w0 ds listed ι ts a w) (hD : Dr P s N ops l bef E base T S V) {i : Nat} {o : Oper} {ao : AOper} (hr : Rdy ops listed i o) (hi : l[i]? = some ao) (hdst : ao.dst = o.dst) (hok : dstOk N o.dst = true)
    {ι' : Emb} {w' : World} {v' : Value} (hx : Ext ι ι') (hv : VR ι' (V i) v')
    (hm : Mid P l base T V ι0 σ0 w0 (fun j => (listed.setIfInBounds i true).getD j false) (posD E l.length (E.countP fun j => (listed.setIfInBounds i true).getD j false)) (S (posD E l.length (E.countP fun j => (listed.setIfInBounds i true).getD j false))) ι' w') :
    InvD P N ops l E base T S V ι0 σ0 w0 ds (listed.setIfInBounds i true) ι' (putA ts o.dst (V i)) (a.put o.dst v') w' := by
  have hil : i < l.length := (List.getElem?_eq_some_iff.1 hi).1
  have his : i < listed.size := by rw [h.sz, ← hD.len]; exact hil
  have hg := getD_list listed i his
  have hput : ∀ t, (putA ts o.dst (V i)).at t = if o.dst = some t then V i else ts.at t := fun t => by
    cases o.dst with
    | none => rfl
    | some d =>
      show (ts.put d (V i)).at t = _
      rw [TM.at_put]
      by_cases e : t = d
      · subst e; simp
      · rw [if_neg e, if_neg (by simpa using Ne.symm e)]
  refine ⟨by simpa using h.sz, fun j oj hj hL e he hb => ?_, hm, (h.tr.ext hx).putD hok hv, fun t hno => ?_, fun t j aj hj hd hL => ?_, by rw [put_tmps]; exact h.df⟩
  · change (listed.setIfInBounds i true).getD j false = true at hL
    change (listed.setIfInBounds i true).getD e.on false = true
    rw [hg] at hL ⊢
    split
    · rfl
    · by_cases e' : j = i
      · subst e'
        rw [hr.op] at hj; injection hj with hj; subst hj
        exact hr.af e he hb
      · rw [if_neg e'] at hL
        exact h.cl j oj hj hL e he hb
  · rw [hput]
    have hne : ¬ o.dst = some t := fun e => by
      have := hno i ao hi (by rw [hdst]; exact e)
      rw [hg, if_pos rfl] at this; cases this
    rw [if_neg hne]
    refine h.sl t fun j aj hj hd => ?_
    have := hno j aj hj hd
    rw [hg] at this
    split at this
    · cases this
    · exact this
  · rw [hput]
    by_cases e : o.dst = some t
    · have := hD.once i j ao aj t hi hj (by rw [hdst]; exact e) hd
      subst this
      rw [if_pos e]
    · rw [if_neg e]
      rw [hg] at hL
      by_cases e' : j = i
      · subst e'
        rw [hi] at hj; injection hj with hj; subst hj
        exact absurd (by rw [← hdst]; exact hd) e
      · rw [if_neg e'] at hL
        exact h.sl' t j aj hj hd hL

/-- Where the next act stands, when one is listed that is none. -/
theorem count_no (listed : Array Bool) {i : Nat} (his : i < listed.size) (hi : i ∉ E) : (E.countP fun j => (listed.setIfInBounds i true).getD j false) = E.countP fun j => listed.getD j false := by
  refine List.countP_congr fun e he => ?_
  rw [getD_list listed i his, if_neg (by rintro rfl; exact hi he)]

/-- An act that is ready is the next one. -/
theorem InvD.act (h : InvD P N ops l E base T S V ι0 σ0 w0 ds listed ι ts a w) (hD : Dr P s N ops l bef E base T S V) {i : Nat} {o : Oper} (hr : Rdy ops listed i o) (hi : i ∈ E) :
    E[E.countP fun j => listed.getD j false]? = some i := by
  obtain ⟨j, hj⟩ := List.mem_iff_getElem?.1 hi
  have h1 := h.chain hD j i hj
  have hk : ¬ j < E.countP fun j => listed.getD j false := fun hlt => by
    have := h1.2 hlt
    rw [hr.un] at this; cases this
  rcases Nat.lt_or_ge (E.countP fun j => listed.getD j false) j with hlt | hge
  · obtain ⟨j', rfl⟩ : ∃ j', j = j' + 1 := ⟨j - 1, by omega⟩
    have hlt' : j' < E.length := by have := (List.getElem?_eq_some_iff.1 hj).1; omega
    have he := List.getElem?_eq_getElem hlt'
    have hb := hD.chain j' _ i he hj
    have hL := hD.dn i _ o hr.op hb _ h.cl hr.af
    have := (h.chain hD j' _ he).1 hL
    omega
  · have : j = E.countP fun j => listed.getD j false := by omega
    rw [← this]; exact hj

/-- And behind it, the one behind it. -/
theorem count_act (listed : Array Bool) {i : Nat} (his : i < listed.size) (hun : listed.getD i false = false) (hs : E.Pairwise (· < ·)) (hi : i ∈ E) : (E.countP fun j => (listed.setIfInBounds i true).getD j false) = (E.countP fun j => listed.getD j false) + 1 := by
  induction E with
  | nil => cases hi
  | cons a r ih =>
    rw [List.pairwise_cons] at hs
    rcases List.mem_cons.1 hi with rfl | hi'
    · have hni : i ∉ r := fun hm => Nat.lt_irrefl _ (hs.1 i hm)
      rw [List.countP_cons_of_pos (by rw [getD_list listed i his, if_pos rfl]), List.countP_cons_of_neg (by rw [hun]; simp), count_no listed his hni]
    · have hne : a ≠ i := fun e => by have := hs.1 i hi'; omega
      have ih' := ih hs.2 hi'
      have ha : (listed.setIfInBounds i true).getD a false = listed.getD a false := by rw [getD_list listed i his, if_neg hne]
      cases hp : listed.getD a false with
      | true => rw [List.countP_cons_of_pos (by rw [ha, hp]), List.countP_cons_of_pos (by rw [hp]), ih']
      | false => rw [List.countP_cons_of_neg (by rw [ha, hp]; simp), List.countP_cons_of_neg (by rw [hp]; simp), ih']
theorem between {E : List Nat} (hs : E.Pairwise (· < ·)) {k i q n : Nat} (hk : E[k]? = some i) (h1 : i < q) (h2 : q < posD E n (k + 1)) : q ∉ E := by
  intro hq
  obtain ⟨j, hj⟩ := List.mem_iff_getElem?.1 hq
  have mono : ∀ (x y u v : Nat), E[x]? = some u → E[y]? = some v → u < v → x < y := fun x y u v hu hv huv => by
    rcases Nat.lt_trichotomy x y with h | h | h
    · exact h
    · subst h; rw [hu] at hv; injection hv with hv; omega
    · obtain ⟨hx, rfl⟩ := List.getElem?_eq_some_iff.1 hu
      obtain ⟨hy, rfl⟩ := List.getElem?_eq_some_iff.1 hv
      have := List.pairwise_iff_getElem.1 hs y x hy hx h
      omega
  have hkj := mono k j i q hk hj h1
  unfold posD at h2
  rw [List.getD_eq_getElem?_getD] at h2
  cases he : E[k + 1]? with
  | none => have := (List.getElem?_eq_some_iff.1 hj).1; rw [List.getElem?_eq_none_iff] at he; omega
  | some e =>
    rw [he] at h2
    simp at h2
    have := mono j (k + 1) q e hj he h2
    omega
theorem pos_le {E : List Nat} {l : List AOper} {k : Nat} (he : ∀ e ∈ E, e < l.length) : posD E l.length k ≤ l.length := by
  unfold posD
  rw [List.getD_eq_getElem?_getD]
  cases h : E[k]? with
  | none => simp
  | some e => simp; exact Nat.le_of_lt (he e (List.mem_of_getElem? h))
theorem pos_mono {E : List Nat} (hs : E.Pairwise (· < ·)) {k i n : Nat} (hk : E[k]? = some i) (hi : i < n) : i + 1 ≤ posD E n (k + 1) := by
  unfold posD
  rw [List.getD_eq_getElem?_getD]
  cases he : E[k + 1]? with
  | none => simp; omega
  | some e =>
    simp
    obtain ⟨hx, rfl⟩ := List.getElem?_eq_some_iff.1 hk
    obtain ⟨hy, rfl⟩ := List.getElem?_eq_some_iff.1 he
    exact List.pairwise_iff_getElem.1 hs k (k + 1) hx hy (by omega)

theorem slots_of (h : TR N ι ts a.tmps) : Slots ι ts a := h.at_
theorem wp_new (hF : Wide F) {o : Oper} {ao : AOp} (hc : cOp P o.op = some ao) {v' : Value} {w' : World} (hr : (execOp a.eval o).run P w = .ok (.value v') w') {K : Act → World → Prop} {Q : Exit → Act → World → Prop} (hK : K (a.put o.dst v') w') : o.wpIn F 0 P a w K Q := by
  refine ⟨fun f _ => hF.fn f, ?_⟩
  rw [Oper.semAt_eq _ _ _ (cOp_defer hc), hr]
  exact hK

theorem draw_step (hF : Wide F) (hD : Dr P s N ops l bef E base T S V) (hops : ∀ (i : Nat) o (ao : AOper), ops[i]? = some o → l[i]? = some ao → OpOK F P s o ao.op) (h0 : R P ι0 σ0 w0) (hbase : σ0.next = base) {Q : Exit → Act → World → Prop}
    (h : InvD P N ops l E base T S V ι0 σ0 w0 ds listed ι ts a w) {i : Nat} {o : Oper} (hr : Rdy ops listed i o) {K : Act → World → Prop}
    (hK : ∀ ι' ts' a' w', InvD P N ops l E base T S V ι0 σ0 w0 ds (listed.setIfInBounds i true) ι' ts' a' w' → K a' w') : wpOpIn F 0 P ops Q i K a w := by
  obtain ⟨ao, hi, hco⟩ := hD.op i o hr.op
  obtain ⟨hc, hdst, hg, hok⟩ := oper_ok hco
  have hil : i < l.length := (List.getElem?_eq_some_iff.1 hi).1
  have his : i < listed.size := by rw [h.sz, ← hD.len]; exact hil
  have hE : ∀ e ∈ E, e < l.length := fun e he => by obtain ⟨x, hx, _⟩ := (hD.eff e).1 he; exact (List.getElem?_eq_some_iff.1 hx).1
  have hsame := h.same hD hr hi
  have hslots : Slots ι ts a := h.tr.at_
  have hops' : Same ts (T i) (slotsOf ao.op) := fun t ht => hsame t (by
    unfold slotsO
    cases ao.guard with
    | none => exact ht
    | some p => exact List.mem_cons_of_mem _ ht)
  have hwant : Region.wanted o (yielded ops a.tmps) = wantedA (T i) ao.guard := by
    rw [guard_ok hg hslots]
    refine wanted_same fun t w' hgw => hsame t ?_
    unfold slotsO
    rw [hgw]
    simp
  have hLset : ∀ j, (listed.setIfInBounds i true).getD j false = if j = i then true else listed.getD j false := getD_list listed i his
  -- what is left to show of the stages, when no block is made
  have fin : ∀ {ι' : Emb} {w' : World} {v' : Value}, Ext ι ι' → VR ι' (V i) v' → (classOf ao.op ≠ 2 ∨ wantedA (T i) ao.guard = false) →
      Mid P l base T V ι0 σ0 w0 (fun j => listed.getD j false) (posD E l.length (E.countP fun j => listed.getD j false)) (S (if classOf ao.op = 3 then i + 1 else posD E l.length (E.countP fun j => listed.getD j false))) ι' w' →
      K (a.put o.dst v') w' := fun {ι' w' v'} hx hv hnb hm => by
    refine hK ι' _ _ w' (h.next hD hr hi hdst hok hx hv ?_)
    have hm' := hm.list hi hnb hLset
    by_cases h3 : classOf ao.op = 3
    · have hiE : i ∈ E := (hD.eff i).2 ⟨ao, hi, h3⟩
      have hk := h.act hD hr hiE
      rw [count_act listed his hr.un hD.sorted hiE]
      rw [if_pos h3] at hm'
      have hp : posD E l.length (E.countP fun j => listed.getD j false) = i := by unfold posD; rw [List.getD_eq_getElem?_getD, hk]; rfl
      rw [hp] at hm'
      have hm1 : Mid P l base T V ι0 σ0 w0 (fun j => (listed.setIfInBounds i true).getD j false) (i + 1) (S (i + 1)) ι' w' := by
        refine ⟨hm'.r, hm'.la, hm'.nx, hm'.un, fun j aj x hj hjl hjc hjw hL hx => ?_, fun j aj hj hjl hjc => hm'.early j aj (by omega) hjl hjc⟩
        by_cases e : j = i
        · subst e
          rw [hi] at hjl; injection hjl with hjl; subst hjl
          rw [h3] at hjc; cases hjc
        · exact hm'.pend j aj x (by omega) hjl hjc hjw hL hx
      refine Mid.walk hD hbase (pos_mono hD.sorted hk hil) (pos_le hE) (fun q aq hq1 hq2 hql => .inl fun hq3 => ?_) hm1
      exact between hD.sorted hk (by omega) hq2 ((hD.eff q).2 ⟨aq, hql, hq3⟩)
    · have hiE : i ∉ E := fun hm => by obtain ⟨x, hx, hx3⟩ := (hD.eff i).1 hm; rw [hi] at hx; injection hx with hx; subst hx; exact h3 hx3
      rw [count_no listed his hiE]
      rw [if_neg h3] at hm'
      exact hm'
  unfold wpOpIn
  rw [hr.op]
  simp only
  rw [hwant]
  cases hw : wantedA (T i) ao.guard with
  | false =>
    simp only [Bool.false_eq_true, if_false]
    refine ⟨fun f _ => hF.fn f, ?_⟩
    obtain ⟨hV, hS⟩ := hD.unw i ao hi hw
    refine fin (Ext.refl _) (by rw [hV]; exact VR.undef _) (.inr hw) ?_
    by_cases h3 : classOf ao.op = 3
    · rw [if_pos h3]
      have hiE : i ∈ E := (hD.eff i).2 ⟨ao, hi, h3⟩
      have hk := h.act hD hr hiE
      have hp : posD E l.length (E.countP fun j => listed.getD j false) = i := by unfold posD; rw [List.getD_eq_getElem?_getD, hk]; rfl
      have := h.mid
      rw [hp] at this
      rw [hp, hS]; exact this
    · rw [if_neg h3]; exact h.mid
  | true =>
    simp only [if_true]
    by_cases h2 : classOf ao.op = 2
    · obtain ⟨x, hx, _⟩ := hD.al i ao hi hw h2
      have hx' : allocA ts (base + i) ao.op = some (V i, x) := by rw [alloc_same hops']; exact hx
      obtain ⟨o', v', hO, hrun⟩ := alloc_ok (w := w) hslots hc hx'
      obtain ⟨e1, e2, e3⟩ := h.mid.make hbase hi h2 hw hx hr.un (fun ι' h1 h2 => (hO ι' h1 h2).1) hLset
      refine wp_new hF hc hrun ?_
      refine hK _ _ _ _ (h.next hD hr hi hdst hok e1 (hO _ e1 e2).2 ?_)
      have hiE : i ∉ E := fun hm => by obtain ⟨y, hy, hy3⟩ := (hD.eff i).1 hm; rw [hi] at hy; injection hy with hy; subst hy; rw [h2] at hy3; cases hy3
      rw [count_no listed his hiE]
      exact e3
    · -- looks, or acts
      have hop : opA s (S (posD E l.length (E.countP fun j => listed.getD j false))) ts ao.op = some (V i, S (if classOf ao.op = 3 then i + 1 else posD E l.length (E.countP fun j => listed.getD j false))) := by
        rw [opA_same hops']
        rcases classOf_le ao.op with h' | h' | h' | h'
        · rw [if_neg (by omega), opA_exec (by omega)]
          exact (hD.pur i ao hi hw h').2 _
        · rw [if_neg (by omega), opA_exec (by omega)]
          refine (hD.rd i ao hi hw h').2 (E.countP fun j => listed.getD j false) ?_ ?_ _ ?_
          · refine List.countP_mono_left fun e he hb => ?_
            exact hD.dn i e o hr.op hb _ h.cl hr.af
          · refine List.countP_mono_left fun e he hL => ?_
            cases hb : bef e i with
            | false => rfl
            | true =>
              have hlt : e < ops.size := by rw [← hD.len]; exact hE e he
              have ho := Array.getElem?_eq_getElem hlt
              have := hD.dn e i _ ho hb _ h.cl (h.cl e _ ho hL)
              rw [hr.un] at this; cases this
          · unfold posD
            rw [List.getD_eq_getElem?_getD]
            have hle : (E.countP fun j => listed.getD j false) ≤ E.length := List.countP_le_length
            rcases Nat.lt_or_ge (E.countP fun j => listed.getD j false) E.length with hlt | hge
            · rw [List.getElem?_append_left (by simpa using hlt), List.getElem?_map, List.getElem?_eq_getElem hlt]
              rfl
            · have : (E.countP fun j => listed.getD j false) = E.length := by omega
              rw [this, List.getElem?_append_right (by simp)]
              simp
        · exact absurd h' h2
        · rw [if_pos h']
          have hiE : i ∈ E := (hD.eff i).2 ⟨ao, hi, h'⟩
          have hk := h.act hD hr hiE
          have hp : posD E l.length (E.countP fun j => listed.getD j false) = i := by unfold posD; rw [List.getD_eq_getElem?_getD, hk]; rfl
          rw [hp]
          exact hD.ef i ao hi hw h'
      refine hops i o ao hr.op hi ι _ ts a w (V i) _ h.mid.r hslots hop K Q fun ι' w' v' hla hR hv => ?_
      exact fin hla.ext hv (.inl h2) (h.mid.later h0 hla hR)

theorem draw_any (hF : Wide F) (hD : Dr P s N ops l bef E base T S V) (hops : ∀ (i : Nat) o (ao : AOper), ops[i]? = some o → l[i]? = some ao → OpOK F P s o ao.op) (h0 : R P ι0 σ0 w0) (hbase : σ0.next = base) {Q : Exit → Act → World → Prop}
    (hQ : ∀ ι' a' w', Later ι0 σ0 w0 ι' (S l.length) w' → R P ι' (S l.length) w' → TR N ι' (T l.length) a'.tmps → a'.defers = ds → Q .normal a' w') :
    ∀ (fuel : Nat) (listed : Array Bool) (ι : Emb) (ts : TM) (a : Act) (w : World), listed.toList.countP (fun b => !b) ≤ fuel → InvD P N ops l E base T S V ι0 σ0 w0 ds listed ι ts a w → wpAnyIn F 0 P .any ops Q fuel listed a w := by
  have hE : ∀ e ∈ E, e < l.length := fun e he => by obtain ⟨x, hx, _⟩ := (hD.eff e).1 he; exact (List.getElem?_eq_some_iff.1 hx).1
  have done : ∀ (listed : Array Bool) (ι : Emb) (ts : TM) (a : Act) (w : World), Region.ready .any ops listed = [] → InvD P N ops l E base T S V ι0 σ0 w0 ds listed ι ts a w → Q .normal a w := by
    intro listed ι ts a w hr h
    have all : ∀ i, i < ops.size → listed.getD i false = true := by
      intro i
      induction i using Nat.strongRecOn with
      | ind i ih =>
        intro hi
        cases hL : listed.getD i false with
        | true => rfl
        | false =>
          exfalso
          have ho := Array.getElem?_eq_getElem hi
          have hlt : i < listed.size := by rw [h.sz]; exact hi
          have hL' : listed.getD i true = false := by
            rw [Array.getD_eq_getD_getElem?, Array.getElem?_eq_getElem hlt] at hL ⊢
            exact hL
          obtain ⟨ao, hao, _⟩ := hD.op i _ ho
          have : i ∈ Region.ready .any ops listed := mem_ready.2 ⟨hL', _, ho, fun e he hb => by
            have hbe := hD.edge i _ ho e he hb
            exact ih e.on hbe (by omega)⟩
          rw [hr] at this; cases this
    have hcount : (E.countP fun j => listed.getD j false) = E.length := List.countP_eq_length.2 fun e he => all e (by rw [← hD.len]; exact hE e he)
    have hp : posD E l.length (E.countP fun j => listed.getD j false) = l.length := by unfold posD; rw [List.getD_eq_getElem?_getD, hcount]; simp
    have hm := h.mid
    rw [hp] at hm
    refine hQ ι a w hm.la hm.r ⟨h.tr.size, fun t => ?_⟩ h.df
    have : ts.at t = (T l.length).at t := by
      obtain ⟨s1, s2⟩ := hD.slots t l.length (Nat.le_refl _)
      by_cases hex : ∃ (j : Nat) (aj : AOper), l[j]? = some aj ∧ aj.dst = some t
      · obtain ⟨j, aj, hj, hd⟩ := hex
        have hjl := (List.getElem?_eq_some_iff.1 hj).1
        rw [h.sl' t j aj hj hd (all j (by rw [← hD.len]; exact hjl)), s1 j aj hj hd hjl]
      · rw [h.sl t (fun k ak hk hdk => absurd ⟨k, ak, hk, hdk⟩ hex), s2 (fun k ak hk hdk => absurd ⟨k, ak, hk, hdk⟩ hex)]
    rw [← this]
    exact h.tr.at_ t
  intro fuel
  induction fuel with
  | zero =>
    intro listed ι ts a w hf h
    have hnone : Region.ready .any ops listed = [] := by
      cases hr : Region.ready .any ops listed with
      | nil => rfl
      | cons x xs =>
        exfalso
        have hx : x ∈ Region.ready .any ops listed := by rw [hr]; simp
        obtain ⟨h1, o, ho, _⟩ := mem_ready.1 hx
        have hlt : x < listed.size := by rw [h.sz]; exact (Array.getElem?_eq_some_iff.1 ho).1
        have hm : listed[x] ∈ listed.toList := by simp
        have h0' : listed.toList.countP (fun b => !b) = 0 := by omega
        rw [List.countP_eq_zero] at h0'
        have := h0' _ hm
        rw [Array.getD_eq_getD_getElem?, Array.getElem?_eq_getElem hlt] at h1
        simp at h1
        rw [h1] at this
        exact this rfl
    exact ⟨hnone, done listed ι ts a w hnone h⟩
  | succ fuel ih =>
    intro listed ι ts a w hf h
    refine ⟨fun hr => done listed ι ts a w hr h, fun i hi => ?_⟩
    obtain ⟨h1, o, ho, haf⟩ := mem_ready.1 hi
    have hlt : i < listed.size := by rw [h.sz]; exact (Array.getElem?_eq_some_iff.1 ho).1
    have h1' : listed[i] = false := by
      rw [Array.getD_eq_getD_getElem?, Array.getElem?_eq_getElem hlt] at h1; exact h1
    have hr : Rdy ops listed i o := ⟨ho, by rw [Array.getD_eq_getD_getElem?, Array.getElem?_eq_getElem hlt]; exact h1', haf⟩
    refine draw_step hF hD hops h0 hbase h hr fun ι' ts' a' w' h' => ih _ ι' ts' a' w' ?_ h'
    have : (listed.setIfInBounds i true).toList.countP (fun b => !b) + 1 = listed.toList.countP (fun b => !b) := by
      rw [Array.toList_setIfInBounds, List.countP_set (by simpa using hlt)]
      have hp : 0 < listed.toList.countP (fun b => !b) := List.countP_pos_iff.2 ⟨false, by rw [← h1']; simp, rfl⟩
      have hb : (fun b : Bool => !b) (listed.toList[i]'(by simpa using hlt)) = true := by simp [h1']
      rw [if_pos hb, if_neg (by simp)]
      omega
    omega
end
end Go.Av

/-
  Av: how abstract values, memory and frames stand for the model's, and what holds of that.
-/
import Derived.Test.YtnekfkhjokgdmaaGreatAvDefs
import Derived.CallsIn
import Derived.Laws.CopyRow
import Derived.Laws.Cells
import Derived.Laws.Entries
set_option linter.unusedVariables false
namespace Go.Av

/-! ### Tables -/
@[simp] theorem Tr.get_nil {α : Type} (n : Nat) : (Tr.nil : Tr α).get n = none := rfl
@[simp] theorem Tr.get_node_zero {α : Type} (v : Option α) (l r : Tr α) : (Tr.node v l r).get 0 = v := rfl
theorem cond_mod {β : Type} (m : Nat) (x y : β) : @Bool.rec (fun _ => β) y x (Nat.beq (Nat.mod m 2) 0) = if m % 2 = 0 then x else y := by
  by_cases h : m % 2 = 0
  · have : Nat.beq (Nat.mod m 2) 0 = true := by rw [Nat.beq_eq]; exact h
    rw [this, if_pos h]
  · have : Nat.beq (Nat.mod m 2) 0 = false := by
      cases hb : Nat.beq (Nat.mod m 2) 0 with
      | false => rfl
      | true => exact absurd (Nat.eq_of_beq_eq_true hb) h
    rw [this, if_neg h]
theorem Tr.get_node_succ {α : Type} (v : Option α) (l r : Tr α) (m : Nat) : (Tr.node v l r).get (m + 1) = if m % 2 = 0 then l.get (m / 2) else r.get (m / 2) :=
  cond_mod m (l.get (m / 2)) (r.get (m / 2))
theorem Tr.setF_nil_zero {α : Type} (k : Nat) (x : Option α) : Tr.setF (k + 1) .nil 0 x = .node x .nil .nil := rfl
theorem Tr.setF_node_zero {α : Type} (k : Nat) (v : Option α) (l r : Tr α) (x : Option α) : Tr.setF (k + 1) (.node v l r) 0 x = .node x l r := rfl
theorem Tr.setF_nil_succ {α : Type} (k m : Nat) (x : Option α) : Tr.setF (k + 1) .nil (m + 1) x = if m % 2 = 0 then .node none (setF k .nil (m / 2) x) .nil else .node none .nil (setF k .nil (m / 2) x) :=
  cond_mod m (Tr.node none (setF k .nil (m / 2) x) .nil) (Tr.node none .nil (setF k .nil (m / 2) x))
theorem Tr.setF_node_succ {α : Type} (k m : Nat) (v : Option α) (l r : Tr α) (x : Option α) : Tr.setF (k + 1) (.node v l r) (m + 1) x = if m % 2 = 0 then .node v (setF k l (m / 2) x) r else .node v l (setF k r (m / 2) x) :=
  cond_mod m (Tr.node v (setF k l (m / 2) x) r) (Tr.node v l (setF k r (m / 2) x))
theorem Tr.get_setF {α : Type} (k : Nat) : ∀ (t : Tr α) (n : Nat) (x : Option α) (m : Nat), n < k → (setF k t n x).get m = if m = n then x else t.get m := by
  induction k with
  | zero => intro t n x m h; omega
  | succ k ih =>
    intro t n x m h
    cases n with
    | zero =>
      cases t with
      | nil =>
        rw [setF_nil_zero]
        cases m with
        | zero => simp
        | succ m => rw [get_node_succ]; simp
      | node v l r =>
        rw [setF_node_zero]
        cases m with
        | zero => simp
        | succ m => rw [get_node_succ, get_node_succ, if_neg (Nat.succ_ne_zero m)]
    | succ n =>
      have hd : n / 2 < k := by omega
      cases t with
      | nil =>
        rw [setF_nil_succ]
        cases m with
        | zero => split <;> simp
        | succ m =>
          by_cases hn : n % 2 = 0
          · rw [if_pos hn, get_node_succ]
            by_cases hm : m % 2 = 0
            · rw [if_pos hm, ih _ _ _ _ hd]
              by_cases e : m = n
              · subst e; simp
              · rw [if_neg (by omega), if_neg (by omega)]; simp
            · rw [if_neg hm, if_neg (by omega)]; simp
          · rw [if_neg hn, get_node_succ]
            by_cases hm : m % 2 = 0
            · rw [if_pos hm, if_neg (by omega)]; simp
            · rw [if_neg hm, ih _ _ _ _ hd]
              by_cases e : m = n
              · subst e; simp
              · rw [if_neg (by omega), if_neg (by omega)]; simp
      | node v l r =>
        rw [setF_node_succ]
        cases m with
        | zero => split <;> simp
        | succ m =>
          by_cases hn : n % 2 = 0
          · rw [if_pos hn, get_node_succ, get_node_succ]
            by_cases hm : m % 2 = 0
            · rw [if_pos hm, if_pos hm, ih _ _ _ _ hd]
              by_cases e : m = n
              · subst e; simp
              · rw [if_neg (by omega), if_neg (by omega)]
            · rw [if_neg hm, if_neg hm, if_neg (by omega)]
          · rw [if_neg hn, get_node_succ, get_node_succ]
            by_cases hm : m % 2 = 0
            · rw [if_pos hm, if_pos hm, if_neg (by omega)]
            · rw [if_neg hm, if_neg hm, ih _ _ _ _ hd]
              by_cases e : m = n
              · subst e; simp
              · rw [if_neg (by omega), if_neg (by omega)]
theorem Tr.get_set {α : Type} (t : Tr α) (n : Nat) (x : Option α) (m : Nat) : (t.set n x).get m = if m = n then x else t.get m := get_setF _ t n x m (Nat.lt_succ_self n)

theorem TM.at_def (ts : TM) (t : Nat) : ts.at t = (ts.get t).getD undefA := by
  unfold TM.at
  cases ts.get t <;> rfl
theorem TM.at_put (ts : TM) (d : Nat) (v : AV) (t : Nat) : (ts.put d v).at t = if t = d then v else ts.at t := by
  rw [TM.at_def, TM.at_def]
  unfold TM.put
  rw [Tr.get_set]
  split <;> rfl
@[simp] theorem TM.at_nil (t : Nat) : TM.at .nil t = undefA := rfl

theorem AS.get_put (σ : AS) (b : Nat) (o : Option AObj) (m : Nat) : (σ.put b o).get m = if m = b then o else σ.get m := Tr.get_set _ _ _ _
theorem AS.get_alloc (σ : AS) (o : AObj) (m : Nat) : (σ.alloc o).get m = if m = σ.next then some o else σ.get m := Tr.get_set _ _ _ _
@[simp] theorem AS.next_put (σ : AS) (b : Nat) (o : Option AObj) : (σ.put b o).next = σ.next := rfl
@[simp] theorem AS.next_alloc (σ : AS) (o : AObj) : (σ.alloc o).next = σ.next + 1 := rfl

/-! ### Values -/
/-- One cell: no struct, no row of values. -/
def oneA : AV → Bool
  | .agg _ => false
  | .tup _ => false
  | _ => true

/-- Where the blocks lie, and (of a block that may have more cells than are known) for how many elements there is room. -/
structure Emb where
  blk : Nat → Option Nat
  room : Nat → Nat
instance : CoeFun Emb (fun _ => Nat → Option Nat) := ⟨Emb.blk⟩
def Ext (ι ι' : Emb) : Prop := ∀ b c, ι b = some c → ι' b = some c ∧ ι'.room b = ι.room b
theorem Ext.refl (ι : Emb) : Ext ι ι := fun _ _ h => ⟨h, rfl⟩
theorem Ext.trans {ι ι' ι'' : Emb} (h : Ext ι ι') (k : Ext ι' ι'') : Ext ι ι'' := fun b c hb => ⟨(k b c (h b c hb).1).1, ((k b c (h b c hb).1).2).trans (h b c hb).2⟩

mutual
inductive VR (ι : Emb) : AV → Value → Prop
  | bool (b : Bool) : VR ι (.bool b) (.bool b)
  | int (k : IntKind) (n : Int) : VR ι (.int k n) (.int k n)
  | str (s : List UInt8) : VR ι (.str s) (.string ⟨s.toArray⟩)
  | nilptr : VR ι .nilptr (.pointer none)
  | ptr {b c o : Nat} (h : ι b = some c) : VR ι (.ptr b o) (.pointer (some ⟨c, o, none⟩))
  | nilsl : VR ι .nilsl (.slice none 0 0)
  | empsl (a : Option Addr) (c : Nat) : VR ι .empsl (.slice a 0 c)
  | sl {b g o n c c' : Nat} {ex : Bool} (h : ι b = some g) (hc : c ≤ c') (he : ex = true → c' = c) (hn : n ≤ c) (hr : ex = false → o = 0 → c' = ι.room b) : VR ι (.sl b o n c ex) (.slice (some ⟨g, o, none⟩) n c')
  | nilmap : VR ι .nilmap (.map none)
  | map {b c : Nat} (h : ι b = some c) : VR ι (.map b) (.map (some c))
  | nilfn : VR ι .nilfn .nilFunc
  | fn {f : FuncId} {first cap : List AV} {fs cs : List Value} (h1 : VRL ι first fs) (h2 : VRL ι cap cs) : VR ι (.fn f first cap) (.func (.func f) fs.toArray cs.toArray)
  | agg {l : List AV} {cs : List Value} (h : VRL ι l cs) (h1 : ∀ v ∈ l, oneA v = true) : VR ι (.agg l) (.agg cs.toArray)
  | tup {l : List AV} {cs : List Value} (h : VRL ι l cs) : VR ι (.tup l) (.tuple cs.toArray)
  | yld {b c : Nat} (h : ι b = some c) : VR ι (.yld b) (.func (.yield c) #[] #[])
inductive VRL (ι : Emb) : List AV → List Value → Prop
  | nil : VRL ι [] []
  | cons {a : AV} {v : Value} {l : List AV} {vs : List Value} (h : VR ι a v) (ht : VRL ι l vs) : VRL ι (a :: l) (v :: vs)
end

mutual
theorem VR.ext {ι ι' : Emb} (hx : Ext ι ι') {a : AV} {v : Value} : VR ι a v → VR ι' a v
  | .bool b => .bool b
  | .int k n => .int k n
  | .str s => .str s
  | .nilptr => .nilptr
  | .ptr h => .ptr (hx _ _ h).1
  | .nilsl => .nilsl
  | .empsl a c => .empsl a c
  | .sl h hc he hn hr => .sl (hx _ _ h).1 hc he hn (fun h1 h2 => (hr h1 h2).trans (hx _ _ h).2.symm)
  | .nilmap => .nilmap
  | .map h => .map (hx _ _ h).1
  | .nilfn => .nilfn
  | .fn h1 h2 => .fn (VRL.ext hx h1) (VRL.ext hx h2)
  | .agg h h1 => .agg (VRL.ext hx h) h1
  | .tup h => .tup (VRL.ext hx h)
  | .yld h => .yld (hx _ _ h).1
theorem VRL.ext {ι ι' : Emb} (hx : Ext ι ι') {l : List AV} {vs : List Value} : VRL ι l vs → VRL ι' l vs
  | .nil => .nil
  | .cons h ht => .cons (VR.ext hx h) (VRL.ext hx ht)
end

theorem VR.undef (ι : Emb) : VR ι undefA Go.undef := .tup .nil

theorem VRL.len {ι : Emb} {l : List AV} {vs : List Value} (h : VRL ι l vs) : l.length = vs.length := by
  induction l generalizing vs with
  | nil => cases h; rfl
  | cons a l ih => cases h with | cons h ht => simp [ih ht]
theorem VRL.append {ι : Emb} {l l' : List AV} {vs vs' : List Value} (h : VRL ι l vs) (h' : VRL ι l' vs') : VRL ι (l ++ l') (vs ++ vs') := by
  induction l generalizing vs with
  | nil => cases h; exact h'
  | cons a l ih => cases h with | cons h ht => exact .cons h (ih ht)
theorem VRL.take {ι : Emb} {l : List AV} {vs : List Value} (h : VRL ι l vs) (n : Nat) : VRL ι (l.take n) (vs.take n) := by
  induction l generalizing vs n with
  | nil => cases h; cases n <;> exact .nil
  | cons a l ih =>
    cases h with
    | cons h ht =>
      cases n with
      | zero => exact .nil
      | succ n => exact .cons h (ih ht n)
theorem VRL.drop {ι : Emb} {l : List AV} {vs : List Value} (h : VRL ι l vs) (n : Nat) : VRL ι (l.drop n) (vs.drop n) := by
  induction l generalizing vs n with
  | nil => cases h; cases n <;> exact .nil
  | cons a l ih =>
    cases h with
    | cons h ht =>
      cases n with
      | zero => exact .cons h ht
      | succ n => exact ih ht n
theorem VRL.get {ι : Emb} {l : List AV} {vs : List Value} (h : VRL ι l vs) {i : Nat} {a : AV} (hi : l[i]? = some a) : ∃ v, vs[i]? = some v ∧ VR ι a v := by
  induction l generalizing vs i with
  | nil => simp at hi
  | cons b l ih =>
    cases h with
    | cons h ht =>
      cases i with
      | zero => simp at hi; subst hi; exact ⟨_, rfl, h⟩
      | succ i => simp at hi; simpa using ih ht hi
theorem VRL.of_get {ι : Emb} {l : List AV} {vs : List Value} (hl : l.length = vs.length) (h : ∀ (i : Nat) (a : AV), l[i]? = some a → ∃ v, vs[i]? = some v ∧ VR ι a v) : VRL ι l vs := by
  induction l generalizing vs with
  | nil => cases vs with | nil => exact .nil | cons => simp at hl
  | cons b l ih =>
    cases vs with
    | nil => simp at hl
    | cons v vs =>
      obtain ⟨u, hu, hr⟩ := h 0 b rfl
      simp at hu; subst hu
      exact .cons hr (ih (by simpa using hl) fun i a hi => by simpa using h (i + 1) a (by simpa using hi))

theorem VR.one {ι : Emb} {a : AV} {v : Value} (h : VR ι a v) (h1 : oneA a = true) : v.oneCell' = true := by
  cases h <;> first | rfl | simp [oneA] at h1

/-! ### Memory -/
def MRL (ι : Emb) : List (AV × AV) → List MapEntry → Prop
  | [], [] => True
  | (k, v) :: l, e :: es => VR ι k e.key ∧ VR ι v e.val ∧ MRL ι l es
  | _, _ => False
theorem MRL.ext {ι ι' : Emb} (hx : Ext ι ι') : ∀ {l : List (AV × AV)} {es : List MapEntry}, MRL ι l es → MRL ι' l es
  | [], [], _ => trivial
  | (_, _) :: _, _ :: _, ⟨h1, h2, h3⟩ => ⟨h1.ext hx, h2.ext hx, MRL.ext hx h3⟩

/-- Slots: 'N' of them. -/
structure TR (N : Nat) (ι : Emb) (ts : TM) (tmps : Array Value) : Prop where
  size : tmps.size = N
  at_ : ∀ t, VR ι (ts.at t) (tmps.getD t undef)
theorem TR.ext {N : Nat} {ι ι' : Emb} (hx : Ext ι ι') {ts : TM} {tmps : Array Value} (h : TR N ι ts tmps) : TR N ι' ts tmps :=
  ⟨h.size, fun t => (h.at_ t).ext hx⟩
theorem TR.put {N : Nat} {ι : Emb} {ts : TM} {tmps : Array Value} (h : TR N ι ts tmps) {d : Nat} (hd : d < N) {a : AV} {v : Value} (hv : VR ι a v) : TR N ι (ts.put d a) (tmps.setIfInBounds d v) := by
  refine ⟨by simpa using h.size, fun t => ?_⟩
  rw [TM.at_put]
  have hs := h.size
  by_cases e : t = d
  · subst e
    rw [if_pos rfl]
    simpa [Array.getD, hs, hd] using hv
  · rw [if_neg e]
    have := h.at_ t
    by_cases ht : t < tmps.size
    · simpa [Array.getD, ht, Array.getElem_setIfInBounds, Ne.symm e] using this
    · simpa [Array.getD, ht] using this

/-- How a jump out of a round is told. -/
def AX.code : AX → Code
  | .normal => .skip
  | .exit id => .exit id
  | .ret => .ret

/-- The record of a loop over a function. -/
structure LR (P : Program) (ι : Emb) (p : Option AX) (ts : TM) (ps : List Nat) (asg body : ACode) (N : Nat) (r : Loop) : Prop where
  tmps : TR N ι ts r.tmps
  inN : ∀ d ∈ ps, d < N
  params : r.params.toList = ps
  asg_ : cCode P N r.assign = some asg
  body_ : cCode P N r.body = some body
  nest : noRf asg = true ∧ noRf body = true
  live : p = none → r.state = .ready ∧ r.pending = none
  left : ∀ ax, p = some ax → r.state = .done ∧ r.pending = some ax.code

/-- No two entries were laid at one time, nor at any time to come. -/
def Born (es : List MapEntry) (clock : Nat) : Prop := (∀ x ∈ es, x.born < clock) ∧ (es.map (·.born)).Nodup
theorem Born.nil (clock : Nat) : Born [] clock := ⟨fun x hx => by (cases hx), List.nodup_nil⟩
theorem Born.push {es : List MapEntry} {clock : Nat} (h : Born es clock) (k v : Value) : Born (es ++ [{ key := k, val := v, born := clock }]) (clock + 1) := by
  refine ⟨fun x hx => ?_, ?_⟩
  · rcases List.mem_append.1 hx with hx | hx
    · exact Nat.lt_succ_of_lt (h.1 x hx)
    · simp at hx; subst hx; exact Nat.lt_succ_self _
  · rw [List.map_append, List.nodup_append]
    refine ⟨h.2, by simp, fun x hx y hy => ?_⟩
    obtain ⟨e, he, rfl⟩ := List.mem_map.1 hx
    simp at hy; subst hy
    exact Nat.ne_of_lt (h.1 e he)
theorem Born.sub {es es' : List MapEntry} {clock : Nat} (h : Born es clock) (hs : List.Sublist es' es) : Born es' clock :=
  ⟨fun x hx => h.1 x (hs.subset hx), h.2.sublist (hs.map _)⟩
theorem Born.same {es es' : List MapEntry} {clock : Nat} (h : Born es clock) (hs : es'.map (·.born) = es.map (·.born)) : Born es' clock := by
  refine ⟨fun x hx => ?_, by rw [hs]; exact h.2⟩
  have : x.born ∈ es'.map (·.born) := List.mem_map.2 ⟨x, hx, rfl⟩
  rw [hs] at this
  obtain ⟨y, hy, e⟩ := List.mem_map.1 this
  rw [← e]; exact h.1 y hy

def OR (P : Program) (ι : Emb) (b : Nat) : AObj → Obj → Prop
  | .cells ro ex e l, o => ∃ cs fr, o = .cells cs e fr ∧ (ro = false → fr = (0, 0)) ∧ l.length ≤ cs.size ∧ (ex = true → cs.size = l.length) ∧ VRL ι l (cs.toList.take l.length) ∧ (∀ v ∈ l, oneA v = true) ∧ (ex = false → ∃ s, sizeAt P e = some s ∧ cs.size = ι.room b * s)
  | .amap l, o => ∃ es clock, o = .map es clock ∧ MRL ι l es.toList ∧ Born es.toList clock
  | .aloop p ts ps asg body, o => ∃ N r, o = .loop r ∧ LR P ι p ts ps asg body N r
theorem OR.ext {P : Program} {ι ι' : Emb} {b c : Nat} (hx : Ext ι ι') (hb : ι b = some c) : ∀ {a : AObj} {o : Obj}, OR P ι b a o → OR P ι' b a o
  | .cells _ _ _ _, _, ⟨cs, fr, h1, h2, h3, h4, h5, h6, h7⟩ => ⟨cs, fr, h1, h2, h3, h4, h5.ext hx, h6, fun he => let ⟨s, h8, h9⟩ := h7 he; ⟨s, h8, by rw [(hx b c hb).2]; exact h9⟩⟩
  | .amap _, _, ⟨es, clock, h1, h2, h3⟩ => ⟨es, clock, h1, h2.ext hx, h3⟩
  | .aloop _ _ _ _ _, _, ⟨N, r, h1, h2⟩ => ⟨N, r, h1, ⟨h2.tmps.ext hx, h2.inN, h2.params, h2.asg_, h2.body_, h2.nest, h2.live, h2.left⟩⟩

def AS.live (σ : AS) (b : Nat) : Prop := ∃ o, σ.get b = some o
def AS.rob (σ : AS) (b : Nat) : Prop := ∃ ex e l, σ.get b = some (.cells true ex e l)

/-- The world w is as σ says, each block b that 'ι' knows lying at 'ι b'. -/
structure R (P : Program) (ι : Emb) (σ : AS) (w : World) : Prop where
  lt : ∀ b c, ι b = some c → b < σ.next ∧ c < w.heap.size
  fresh : ∀ b, σ.next ≤ b → σ.get b = none
  inj : ∀ b b' c, σ.live b → σ.live b' → ι b = some c → ι b' = some c → b = b' ∨ (σ.rob b ∧ σ.rob b')
  obj : ∀ b c o, ι b = some c → σ.get b = some o → ∃ o', w.heap[c]? = some o' ∧ OR P ι b o o'

/-- From one state to a later one. -/
structure Later (ι : Emb) (σ : AS) (w : World) (ι' : Emb) (σ' : AS) (w' : World) : Prop where
  ext : Ext ι ι'
  new : ∀ b c, ι' b = some c → ι b = some c ∨ (σ.next ≤ b ∧ (w.heap.size ≤ c ∨ ∃ b', σ.live b' ∧ ι b' = some c))
  next : σ.next ≤ σ'.next
  ghost : ∀ b, b < σ.next → ι b = none → σ'.get b = σ.get b
  dead : ∀ b, b < σ.next → σ.get b = none → σ'.get b = none
  size : w.heap.size ≤ w'.heap.size
  frame : ∀ c, c < w.heap.size → (∀ b, σ.live b → ι b ≠ some c) → w'.heap[c]? = w.heap[c]?
  os : w'.os = w.os
  tape : w'.tape = w.tape
  output : w'.output = w.output
theorem Later.refl (ι : Emb) (σ : AS) (w : World) : Later ι σ w ι σ w :=
  ⟨Ext.refl _, fun _ _ h => .inl h, Nat.le_refl _, fun _ _ _ => rfl, fun _ _ h => h, Nat.le_refl _, fun _ _ _ => rfl, rfl, rfl, rfl⟩
theorem Later.trans {ι ι' ι'' : Emb} {σ σ' σ'' : AS} {w w' w'' : World} (hl : ∀ b c, ι b = some c → b < σ.next) (h : Later ι σ w ι' σ' w') (k : Later ι' σ' w' ι'' σ'' w'') : Later ι σ w ι'' σ'' w'' := by
  have back : ∀ b, b < σ.next → σ'.live b → σ.live b := fun b hb hlv => by
    cases hg : σ.get b with
    | none => obtain ⟨o, ho⟩ := hlv; rw [h.dead b hb hg] at ho; cases ho
    | some o => exact ⟨o, hg⟩
  have owned : ∀ b c, σ'.live b → ι' b = some c → w.heap.size ≤ c ∨ ∃ b', σ.live b' ∧ ι b' = some c := fun b c hlv hc => by
    rcases h.new b c hc with h1 | ⟨_, h1⟩
    · exact .inr ⟨b, back b (hl _ _ h1) hlv, h1⟩
    · exact h1
  refine ⟨h.ext.trans k.ext, fun b c hc => ?_, Nat.le_trans h.next k.next, fun b hb hn => ?_, fun b hb hn => ?_, Nat.le_trans h.size k.size, fun c hc hf => ?_, k.os.trans h.os, k.tape.trans h.tape, k.output.trans h.output⟩
  · rcases k.new b c hc with h1 | ⟨h1, h2⟩
    · exact h.new b c h1
    · refine .inr ⟨Nat.le_trans h.next h1, ?_⟩
      rcases h2 with h2 | ⟨b', h3, h4⟩
      · exact .inl (Nat.le_trans h.size h2)
      · exact owned b' c h3 h4
  · have : ι' b = none := by
      cases hi : ι' b with
      | none => rfl
      | some c =>
        rcases h.new b c hi with h1 | ⟨h1, _⟩
        · rw [hn] at h1; cases h1
        · omega
    rw [k.ghost b (Nat.lt_of_lt_of_le hb h.next) this, h.ghost b hb hn]
  · exact k.dead b (Nat.lt_of_lt_of_le hb h.next) (h.dead b hb hn)
  · rw [k.frame c (Nat.lt_of_lt_of_le hc h.size) (fun b hlv he => ?_), h.frame c hc hf]
    rcases owned b c hlv he with h1 | ⟨b', h1, h2⟩
    · omega
    · exact hf b' h1 h2
theorem Later.drew {ι ι' : Emb} {σ σ' : AS} {w w' : World} (h : Later ι σ w ι' σ' w') : Later ι σ w ι' σ' w'.drew := ⟨h.ext, h.new, h.next, h.ghost, h.dead, h.size, h.frame, h.os, h.tape, h.output⟩
theorem R.drew {P : Program} {ι : Emb} {σ : AS} {w : World} (h : R P ι σ w) : R P ι σ w.drew := ⟨h.lt, h.fresh, h.inj, h.obj⟩
end Go.Av

/-
  Av: the small machine's steps as rules, for open terms.
-/
import Derived.Test.YtnekfkhjokgdmaaGreatAvRange2
set_option linter.unusedVariables false
namespace Go.Av
section
variable {s : Lv} {ts : TM} {σ : AS}
theorem opsA_nil : opsA s [] ts σ = some (ts, σ) := rfl
theorem opsA_put {d : Nat} {op : AOp} {l : List AOper} : opsA s (⟨some d, op, none⟩ :: l) ts σ = (opA s σ ts op).bind fun p => opsA s l (ts.put d p.1) p.2 := by
  show (match opA s σ ts op with | some (v, σ') => opsA s l (putA ts (some d) v) σ' | none => none) = _
  cases opA s σ ts op <;> rfl
theorem opsA_do {op : AOp} {l : List AOper} : opsA s (⟨none, op, none⟩ :: l) ts σ = (opA s σ ts op).bind fun p => opsA s l ts p.2 := by
  show (match opA s σ ts op with | some (v, σ') => opsA s l (putA ts none v) σ' | none => none) = _
  cases opA s σ ts op <;> rfl
theorem opsA_if {d t : Nat} {b : Bool} {op : AOp} {l : List AOper} (h : ts.at t = .bool b) (want : Bool) :
    opsA s (⟨some d, op, some (t, want)⟩ :: l) ts σ = if b == want then (opA s σ ts op).bind (fun p => opsA s l (ts.put d p.1) p.2) else opsA s l (ts.put d undefA) σ := by
  show (match wantedA ts (some (t, want)) with | true => (match opA s σ ts op with | some (v, σ') => opsA s l (putA ts (some d) v) σ' | none => none) | false => opsA s l (putA ts (some d) undefA) σ) = _
  unfold wantedA
  simp only [h]
  cases hb : (b == want)
  · rfl
  · simp only [if_true]
    cases opA s σ ts op <;> rfl
theorem opA_mv {x : Opd} : opA s σ ts (.mv x) = some (evA ts x, σ) := rfl
theorem opA_ext {x : Opd} {i : Nat} {l : List AV} (h : evA ts x = .tup l) : opA s σ ts (.ext x i) = (l[i]?).map fun v => (v, σ) := by
  show exExt σ ts x i = _
  unfold exExt
  rw [h]
  cases hl : l[i]? <;> simp [hl]
theorem opA_alloc {e : TypeId} {z : List AV} : opA s σ ts (.alloc e z) = some (.ptr σ.next 0, σ.alloc (.cells false true e z)) := rfl
theorem opA_box {e : TypeId} {x : Opd} {l : List AV} (h : evA ts x = .agg l) : opA s σ ts (.box e x) = some (.ptr σ.next 0, σ.alloc (.cells false true e l)) := by
  show exBox σ ts e x = _
  unfold exBox
  rw [h]; rfl
theorem opA_faddr {off : Nat} {x : Opd} {b o : Nat} (h : evA ts x = .ptr b o) : opA s σ ts (.faddr off x) = some (.ptr b (Nat.add o off), σ) := by
  show exFaddr σ ts off x = _
  unfold exFaddr
  rw [h]
theorem opA_load {n : Nat} {ag ro ex : Bool} {x : Opd} {b o : Nat} {e : TypeId} {l r : List AV} {v : AV} (h : evA ts x = .ptr b o) (hg : σ.get b = some (.cells ro ex e l)) (hr : getRange l o n = some r) (hu : wrapUp ag r = some v) : opA s σ ts (.load n ag x) = some (v, σ) := by
  show exLoad σ ts n ag x = _
  unfold exLoad
  rw [h]
  unfold loadA
  simp only [hg, hr, hu]
theorem opA_store {n : Nat} {a x : Opd} {b o : Nat} {ex : Bool} {e : TypeId} {l l' : List AV} {v : AV} (h : evA ts a = .ptr b o) (hx : evA ts x = v) (hn : (Nat.beq (len (cellsOf v)) n && !isTup v) = true) (hg : σ.get b = some (.cells false ex e l)) (hp : putRange l (cellsOf v) o = some l') :
    opA s σ ts (.store n a x) = some (undefA, σ.put b (some (.cells false ex e l'))) := by
  show exStore σ ts n a x = _
  unfold exStore
  rw [h, hx]
  unfold storeA
  simp only [hn, cond_true]
  unfold writeA
  simp only [hg, hp]
theorem opA_call {f : Opd} {args : List Opd} {g : FuncId} {first cap : List AV} (h : evA ts f = .fn g first cap) : opA s σ ts (.call f args) = s.call g (first ++ evL ts args ++ cap) σ := by
  show (match evA ts f with | .fn g first cap => s.call g (first ++ evL ts args ++ cap) σ | .yld b => roundA s b (evL ts args) σ | _ => none) = _
  rw [h]
theorem opA_lit {f : FuncId} {args : List Opd} : opA s σ ts (.call (.lit (.fn f [] [])) args) = s.call f (evL ts args) σ := by
  rw [opA_call (first := []) (cap := []) rfl]; simp
theorem opA_bin {op : BinOp} {x y : Opd} {v : AV} (h : binA op (evA ts x) (evA ts y) = some v) : opA s σ ts (.bin op x y) = some (v, σ) := by
  show exBin σ ts op x y = _
  unfold exBin
  rw [h]
theorem opA_pick {c x y : Opd} {b : Bool} (h : evA ts c = .bool b) : opA s σ ts (.pick c x y) = some (bif b then evA ts x else evA ts y, σ) := by
  show exPick σ ts c x y = _
  unfold exPick
  rw [h]
theorem opA_nilck {x : Opd} {b o : Nat} (h : evA ts x = .ptr b o) : opA s σ ts (.nilck x) = some (.ptr b o, σ) := by
  show exNilck σ ts x = _
  unfold exNilck
  rw [h]

theorem code_reg {n : Nat} {ops : List AOper} : codeA s n (.reg ops none) ts σ = (opsA s ops ts σ).map fun p => (AX.normal, p.1, p.2) := by
  show (match opsA s ops ts σ with | some (ts', σ') => some (AX.normal, ts', σ') | none => none) = _
  cases opsA s ops ts σ <;> rfl
theorem code_seq {n : Nat} {a b : ACode} {ts' : TM} {σ' : AS} (h : codeA s n a ts σ = some (.normal, ts', σ')) : codeA s n (.seq a b) ts σ = codeA s n b ts' σ' := by
  show (match codeA s n a ts σ with | some (.normal, ts', σ') => codeA s n b ts' σ' | r => r) = _
  rw [h]
theorem code_cond {n : Nat} {c : Opd} {a b : ACode} {t : Bool} (h : evA ts c = .bool t) : codeA s n (.cond c a b) ts σ = if t then codeA s n a ts σ else codeA s n b ts σ := by
  show (match evA ts c with | .bool true => codeA s n a ts σ | .bool false => codeA s n b ts σ | _ => none) = _
  rw [h]
  cases t <;> rfl
theorem code_skip {n : Nat} : codeA s n .skip ts σ = some (.normal, ts, σ) := rfl
theorem code_ret {n : Nat} : codeA s n .ret ts σ = some (.ret, ts, σ) := rfl

/-- A call of a function that is told by its code. -/
theorem call_code {F : FuncId → Option FSpec} {n d : Nat} {f : FuncId} {fn : AFun} {args : List AV} {ax : AX} {ts' : TM} {σ' : AS} {l : List AV} (hF : F f = some (.code fn)) (ha : Nat.ble args.length fn.ntmps = true) (hc : codeA (lvA F n d) n fn.body (argsTM args 0 .nil) σ = some (ax, ts', σ')) (hax : ax = .normal ∨ ax = .ret)
    (hr : resV ts' σ' fn.results = some l) : (lvA F n (d + 1)).call f args σ = some (resUp l, σ') := by
  show callB F (lvA F n d) n f args σ = _
  unfold callB
  rw [hF]
  simp only [ha, Bool.not_true, cond_false, hc]
  rcases hax with rfl | rfl <;> simp only [hr]
end

/-! ### Sorted lists -/
noncomputable def insZ (x : Int) (l : List Int) : List Int := l.rec [x] (fun a r ih => bif leB x a then x :: a :: r else a :: ih)
noncomputable def isortZ (l : List Int) : List Int := l.rec [] (fun a _ ih => insZ a ih)
theorem leB_iff (a b : Int) : leB a b = true ↔ a ≤ b := by
  rw [leB_eq]; exact decide_eq_true_iff
theorem insZ_cons (x a : Int) (r : List Int) : insZ x (a :: r) = bif leB x a then x :: a :: r else a :: insZ x r := rfl
theorem insZ_perm (x : Int) : ∀ l, (insZ x l).Perm (x :: l)
  | [] => List.Perm.refl _
  | a :: r => by
    rw [insZ_cons]
    cases leB x a with
    | true => exact List.Perm.refl _
    | false => exact ((insZ_perm x r).cons a).trans (List.Perm.swap x a r)
theorem insZ_sorted (x : Int) : ∀ l, l.Pairwise (· ≤ ·) → (insZ x l).Pairwise (· ≤ ·)
  | [], _ => List.pairwise_singleton _ _
  | a :: r, h => by
    rw [insZ_cons]
    obtain ⟨h1, h2⟩ := List.pairwise_cons.1 h
    cases hb : leB x a with
    | true =>
      have hxa := (leB_iff x a).1 hb
      exact List.pairwise_cons.2 ⟨fun y hy => by rcases List.mem_cons.1 hy with rfl | hy; exact hxa; exact Int.le_trans hxa (h1 y hy), h⟩
    | false =>
      have hxa : ¬ x ≤ a := fun h => by rw [(leB_iff x a).2 h] at hb; cases hb
      refine List.pairwise_cons.2 ⟨fun y hy => ?_, insZ_sorted x r h2⟩
      rcases List.mem_cons.1 ((insZ_perm x r).mem_iff.1 hy) with rfl | hy
      · omega
      · exact h1 y hy
theorem isortZ_perm : ∀ l, (isortZ l).Perm l
  | [] => List.Perm.refl _
  | a :: r => (insZ_perm a _).trans ((isortZ_perm r).cons a)
theorem isortZ_sorted : ∀ l, (isortZ l).Pairwise (· ≤ ·)
  | [] => List.Pairwise.nil
  | a :: r => insZ_sorted a _ (isortZ_sorted r)
theorem sorted_one : ∀ {l m : List Int}, l.Perm m → l.Pairwise (· ≤ ·) → m.Pairwise (· ≤ ·) → l = m
  | [], m, h, _, _ => (List.nil_perm.1 h).symm
  | a :: l, [], h, _, _ => by simp at h
  | a :: l, b :: m, h, hl, hm => by
    obtain ⟨l1, l2⟩ := List.pairwise_cons.1 hl
    obtain ⟨m1, m2⟩ := List.pairwise_cons.1 hm
    have hab : a = b := by
      have h1 : a ∈ b :: m := h.mem_iff.1 (by simp)
      have h2 : b ∈ a :: l := h.mem_iff.2 (by simp)
      rcases List.mem_cons.1 h1 with e | h1
      · exact e
      · rcases List.mem_cons.1 h2 with e | h2
        · exact e.symm
        · have := m1 a h1; have := l1 b h2; omega
    subst hab
    rw [sorted_one (List.Perm.cons_inv h) l2 m2]
theorem isortZ_congr {l m : List Int} (h : l.Perm m) : isortZ l = isortZ m :=
  sorted_one (((isortZ_perm l).trans h).trans (isortZ_perm m).symm) (isortZ_sorted l) (isortZ_sorted m)
theorem mergeSort_eq (l : List Int) : (l.mergeSort fun x y => decide (x ≤ y)) = isortZ l := by
  refine sorted_one ((List.mergeSort_perm l _).trans (isortZ_perm l).symm) ?_ (isortZ_sorted l)
  have := List.pairwise_mergeSort (le := fun x y : Int => decide (x ≤ y)) (fun a b c h1 h2 => by simp at *; omega) (fun a b => by simp; omega) l
  exact this.imp (by simp)
end Go.Av

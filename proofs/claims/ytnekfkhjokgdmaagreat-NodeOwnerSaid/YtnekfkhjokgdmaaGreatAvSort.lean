/-
  Av: the library's sort of whole numbers, told by its contract.
-/
import Derived.Test.YtnekfkhjokgdmaaGreatAvSim
import Derived.Sort.Grow
set_option linter.unusedVariables false
namespace Go.Av
open Go.Sort

noncomputable def intsOf : List AV → Option (List Int)
  | [] => some []
  | .int k n :: r => bif kEq k .i64 then (match intsOf r with | some l => some (n :: l) | none => none) else none
  | _ => none
theorem kEq_true {a b : IntKind} (h : kEq a b = true) : a = b := by cases a <;> cases b <;> first | rfl | cases h
theorem intsOf_ok : ∀ {l : List AV} {zs : List Int}, intsOf l = some zs → l = zs.map (AV.int .i64)
  | [], zs, h => by injection h with h; subst h; rfl
  | a :: r, zs, h => by
    unfold intsOf at h
    split at h
    · rename_i e; cases e
    · rename_i k n r' e
      injection e with e1 e2; subst e1 e2
      cases hk : kEq k .i64 with
      | false => rw [hk] at h; cases h
      | true =>
        rw [hk] at h
        simp only [cond_true] at h
        split at h <;> try (cases h; done)
        rename_i l hl
        injection h with h; subst h
        rw [kEq_true hk, intsOf_ok hl]; rfl
    · cases h
theorem intsOf_map : ∀ (zs : List Int), intsOf (zs.map (AV.int .i64)) = some zs
  | [] => rfl
  | z :: zs => by
    show (bif kEq .i64 .i64 then (match intsOf (zs.map (AV.int .i64)) with | some l => some (z :: l) | none => none) else none) = _
    rw [intsOf_map zs]; rfl

noncomputable def sortO (args : List AV) (σ : AS) : Option (AV × AS) :=
  match args with
  | [.nilsl] => some (.tup [], σ)
  | [.sl b 0 n c false] => match σ.get b with
    | some (.cells false ex e l) => match intsOf l with
      | some zs => bif Nat.beq zs.length n && Nat.blt n 4611686018427387904 then some (.tup [], σ.put b (some (.cells false ex e ((isortZ zs).map (AV.int .i64))))) else none
      | none => none
    | _ => none
  | _ => none

section
variable {P : Program} {ι ι' : Emb} {σ σ' : AS} {w w' : World}

theorem vrl_ints : ∀ {zs : List Int} {vs : List Value}, VRL ι (zs.map (AV.int .i64)) vs → vs = zs.map (Value.int .i64)
  | [], vs, h => by cases h; rfl
  | z :: zs, vs, h => by
    cases h with
    | cons h ht => cases h; rw [vrl_ints ht]; rfl
theorem vrl_of_ints (ι : Emb) : ∀ (zs : List Int), VRL ι (zs.map (AV.int .i64)) (zs.map (Value.int .i64))
  | [] => .nil
  | z :: zs => .cons (.int _ _) (vrl_of_ints ι zs)

/-- What the contract says of the world. -/
theorem sorted_world {c n : Nat} {cs : Array Value} {e : TypeId} {fr : Nat × Nat} {zs : List Int} {os : Array Obj} (hc : w.heap[c]? = some (.cells cs e fr)) (hz : cs.toList.take zs.length = zs.map (Value.int .i64)) (hw : w' = grow (putRow (Value.int .i64) (Sort.ahead w n) c 0 (isortZ zs).toArray) os) :
    (∃ cs' : Array Value, w'.heap[c]? = some (.cells cs' e fr) ∧ cs'.size = cs.size ∧ cs'.toList.take zs.length = (isortZ zs).map (Value.int .i64)) ∧ w.heap.size ≤ w'.heap.size ∧ (∀ d, d ≠ c → d < w.heap.size → w'.heap[d]? = w.heap[d]?) ∧ w'.os = w.os ∧ w'.tape = w.tape ∧ w'.output = w.output := by
  have hlt : c < w.heap.size := (Array.getElem?_eq_some_iff.1 hc).1
  have hlen : (isortZ zs).length = zs.length := (isortZ_perm zs).length_eq
  have hle : zs.length ≤ cs.size := by
    have := congrArg List.length hz
    simp at this
    omega
  subst hw
  have hheap : ∀ d, d < w.heap.size → (grow (putRow (Value.int .i64) (Sort.ahead w n) c 0 (isortZ zs).toArray) os).heap[d]? = (w.heap.modify c (onCells (putCells (Value.int .i64) 0 (isortZ zs).toArray)))[d]? := fun d hd => by
    show ((w.heap.modify c (onCells (putCells (Value.int .i64) 0 (isortZ zs).toArray))) ++ os)[d]? = _
    rw [Array.getElem?_append_left (by simpa using hd)]
  refine ⟨⟨putCells (Value.int .i64) 0 (isortZ zs).toArray cs, ?_, by simp [putCells], ?_⟩, ?_, fun d hd hlt' => ?_, rfl, rfl, rfl⟩
  · rw [hheap c hlt, Array.getElem?_modify, if_pos rfl, hc]; rfl
  · apply List.ext_getElem?
    intro i
    rw [List.getElem?_take]
    by_cases hi : i < zs.length
    · rw [if_pos hi]
      have hi' : i < (isortZ zs).length := by omega
      have hci : i < cs.size := by omega
      simp [putCells, hi', hci]
    · rw [if_neg hi, List.getElem?_eq_none (by rw [List.length_map, hlen]; omega)]
  · show w.heap.size ≤ ((w.heap.modify c _) ++ os).size
    simp
  · rw [hheap d hlt', Array.getElem?_modify, if_neg (Ne.symm hd)]

theorem sort_told {f : FuncId} (hnil : ∀ w, CallsIn Fence.wide 0 P f #[.slice none 0 0] w fun e w' => ∃ u ι, e = .returned u ∧ Grown w w' ∧ VR ι (.tup []) u)
    (hc : ∀ (blk off cap : Nat) (zs : List Int) (w : World), Holds (Value.int .i64) w blk off zs.toArray → blk < w.heap.size → zs.length < 4611686018427387904 →
      Calls P f #[.slice (some ⟨blk, off, none⟩) zs.length cap] w fun e w' => e = .returned (.tuple #[]) ∧ ∃ n os, w' = grow (putRow (Value.int .i64) (Sort.ahead w n) blk off (zs.mergeSort fun x y => decide (x ≤ y)).toArray) os) :
    ∀ args σ v σ', sortO args σ = some (v, σ') → ∀ ι w vs, R P ι σ w → VRL ι args vs → CallsIn Fence.wide 0 P f vs.toArray w (Ret P ι σ w σ' v) := by
  intro args σ v σ' h ι w vs hR ha
  unfold sortO at h
  split at h <;> try (cases h; done)
  · injection h with h; injection h with h1 h2
    subst h1 h2
    cases ha with
    | cons h0 ht =>
    cases ht
    cases h0
    refine (hnil w).mono fun e w' hp => ?_
    obtain ⟨u, ι', rfl, hgr, hv⟩ := hp
    obtain ⟨k1, k2⟩ := hgr.keep hR
    refine ⟨u, ι, rfl, k2, k1, ?_⟩
    cases hv with
    | tup hv => cases hv; exact .tup .nil
  · rename_i b n c
    split at h <;> try (cases h; done)
    rename_i ex e l hg
    split at h <;> try (cases h; done)
    rename_i zs hzs
    cases hn : (Nat.beq zs.length n && Nat.blt n 4611686018427387904) with
    | false => rw [hn] at h; cases h
    | true =>
    rw [hn] at h
    injection h with h; injection h with h1 h2
    subst h1 h2
    rw [Bool.and_eq_true] at hn
    have hn1 := beq_true hn.1
    have hn2 : n < 4611686018427387904 := by simpa using hn.2
    subst hn1
    have hl := intsOf_ok hzs
    subst hl
    cases ha with
    | cons h0 ht =>
    cases ht
    cases h0 with
    | sl hb hcc he hnn hr =>
    rename_i g c'
    obtain ⟨o', ho', cs, fr, rfl, e1, e2, e3, e4, e5, e6⟩ := hR.obj b g _ hb hg
    have hfr := e1 rfl
    subst hfr
    have hlt := (hR.lt b g hb).2
    rw [List.length_map] at e2 e3 e4
    have hz := vrl_ints e4
    have hH : Holds (Value.int .i64) w g 0 zs.toArray := by
      intro j hj
      have hj' : j < zs.length := by simpa using hj
      constructor
      · unfold World.cell?
        simp only [ho', Nat.zero_add]
        have : (cs.toList.take zs.length)[j]? = some (Value.int .i64 zs[j]) := by rw [hz]; simp [hj']
        rw [List.getElem?_take, if_pos hj'] at this
        simp at this
        simp [this, hj']
      · unfold World.frozen?
        simp only [ho']
        simp
    refine (callsIn_wide.2 (hc g 0 c' zs w hH hlt hn2)).mono fun e w' hp => ?_
    obtain ⟨rfl, n, os, hw'⟩ := hp
    rw [mergeSort_eq] at hw'
    obtain ⟨⟨cs', s1, s2, s3⟩, s4, s5, s6, s7, s8⟩ := sorted_world ho' hz hw'
    have hro : ¬ σ.rob b := fun ⟨x, y, z, h⟩ => by rw [hg] at h; cases h
    have hlen : (isortZ zs).length = zs.length := (isortZ_perm zs).length_eq
    -- in two steps: the block, then the new ones
    let w1 : World := { w with heap := w.heap.setIfInBounds g (.cells cs' e (0, 0)) }
    have hw1 : w1.heap[g]? = some (.cells cs' e (0, 0)) := by simp [w1, hlt]
    have hsz1 : w1.heap.size = w.heap.size := by simp [w1]
    have hOR : OR P ι b (.cells false ex e ((isortZ zs).map (AV.int .i64))) (.cells cs' e (0, 0)) := by
      refine ⟨cs', (0, 0), rfl, fun _ => rfl, by rw [List.length_map, hlen, s2]; exact e2, fun hx => by rw [List.length_map, hlen, s2]; exact e3 hx, ?_, fun v hv => ?_, fun hx => ?_⟩
      · rw [List.length_map, hlen, s3]; exact vrl_of_ints ι _
      · obtain ⟨z, _, rfl⟩ := List.mem_map.1 hv; rfl
      · obtain ⟨s, h8, h9⟩ := e6 hx; exact ⟨s, h8, by rw [s2]; exact h9⟩
    obtain ⟨hR1, hL1⟩ := hR.set (w1 := w1) hb hg hro hOR hw1 hsz1 (fun d hd => by simp [w1, Ne.symm hd]) rfl rfl rfl
    have hgrown : Grown w1 w' := ⟨by rw [hsz1]; exact s4, fun d hd => by
      rw [hsz1] at hd
      by_cases e : d = g
      · subst e; rw [s1, hw1]
      · rw [s5 d e hd]; simp [w1, Ne.symm e], s6, s7, s8⟩
    obtain ⟨k1, k2⟩ := hgrown.keep hR1
    exact ⟨_, ι, rfl, hL1.trans (fun b c hb => (hR.lt b c hb).1) k2, k1, .tup .nil⟩
end
end Go.Av

/-
  Av: '==' on structs and arrays of plain cells, and such keys of maps.
-/
import Derived.Test.YtnekfkhjokgdmaaGreatAvOps3
import Derived.Laws.StructEq
import Derived.ChangeKeysEq
set_option linter.unusedVariables false
namespace Go.Av
section
variable {P : Program} {ι : Emb} {w : World}

inductive Sc : Scal → Value → Value → Bool → Prop
  | bool (a b : Bool) : Sc .bool (.bool a) (.bool b) (a == b)
  | int (k : IntKind) (a b : Int) : Sc .int (.int k a) (.int k b) (a == b)
  | str (a b : List UInt8) : Sc .str (.string ⟨a.toArray⟩) (.string ⟨b.toArray⟩) (a == b)
inductive Eqs : List Scal → List Value → List Value → Bool → Prop
  | nil : Eqs [] [] [] true
  | cons {s : Scal} {u v : Value} {t b : Bool} {ks : List Scal} {X Y : List Value} (h : Sc s u v t) (ht : Eqs ks X Y b) : Eqs (s :: ks) (u :: X) (v :: Y) (t && b)

theorem scalarEq_ok {s : Scal} {x y : AV} {u v : Value} {t : Bool} (h : scalarEq s x y = some t) (hx : VR ι x u) (hy : VR ι y v) : Sc s u v t := by
  unfold scalarEq at h
  split at h
  · injection h with h; subst h
    rw [hx.bool_inv, hy.bool_inv]; exact .bool _ _
  · rename_i k a k' b
    cases hk : kEq k k' with
    | false => rw [hk] at h; cases h
    | true =>
      rw [hk] at h
      injection h with h; subst h
      obtain rfl := kEq_eq hk
      rw [hx.int_inv, hy.int_inv, eqI_eq]; exact .int _ _ _
  · injection h with h; subst h
    rw [hx.str_inv, hy.str_inv, eqBytes_eq]; exact .str _ _
  · cases h
theorem cellsEq_ok : ∀ {ks : List Scal} {x y : List AV} {X Y : List Value} {b : Bool}, cellsEq ks x y = some b → VRL ι x X → VRL ι y Y → Eqs ks X Y b
  | [], [], [], X, Y, b, h, hx, hy => by
    injection h with h; subst h; cases hx; cases hy; exact .nil
  | s :: ks, a :: x, c :: y, X, Y, b, h, hx, hy => by
    unfold cellsEq at h
    split at h
    · rename_i t u h1 h2
      injection h with h; subst h
      cases hx with | cons hx1 hx2 => cases hy with | cons hy1 hy2 => exact .cons (scalarEq_ok h1 hx1 hy1) (cellsEq_ok h2 hx2 hy2)
    · cases h
  | [], _ :: _, _, X, Y, b, h, hx, hy => by simp [cellsEq] at h
  | [], [], _ :: _, X, Y, b, h, hx, hy => by simp [cellsEq] at h
  | _ :: _, [], _, X, Y, b, h, hx, hy => by simp [cellsEq] at h
  | _ :: _, _ :: _, [], X, Y, b, h, hx, hy => by simp [cellsEq] at h
theorem Eqs.len {ks : List Scal} {X Y : List Value} {b : Bool} (h : Eqs ks X Y b) : X.length = ks.length ∧ Y.length = ks.length := by
  induction h with
  | nil => exact ⟨rfl, rfl⟩
  | cons h ht ih => exact ⟨by simp [ih.1], by simp [ih.2]⟩
theorem Eqs.split : ∀ {l l' : List Scal} {X Y : List Value} {b : Bool}, Eqs (l ++ l') X Y b →
    ∃ b1 b2, Eqs l (X.take l.length) (Y.take l.length) b1 ∧ Eqs l' (X.drop l.length) (Y.drop l.length) b2 ∧ b = (b1 && b2)
  | [], l', X, Y, b, h => ⟨true, b, .nil, h, by simp⟩
  | s :: l, l', _, _, _, .cons h ht => by
    obtain ⟨b1, b2, h1, h2, rfl⟩ := ht.split
    exact ⟨_, b2, .cons h h1, h2, by rw [Bool.and_assoc]⟩
/-- Equal keys are one value. -/
theorem Sc.eq {s : Scal} {u v : Value} (h : Sc s u v true) : u = v := by
  generalize hb : true = b at h
  cases h
  · simp at hb; rw [hb]
  · simp at hb; rw [hb]
  · simp at hb; rw [hb]
theorem Eqs.eq {ks : List Scal} {X Y : List Value} {b : Bool} (h : Eqs ks X Y b) (hb : b = true) : X = Y := by
  induction h with
  | nil => rfl
  | cons h ht ih =>
    rw [Bool.and_eq_true] at hb
    rw [ih hb.2]
    rw [hb.1] at h
    rw [h.eq]

/-- The value of a type out of its cells. -/
def mkv (P : Program) (t : TypeId) (X : List Value) : Value := match aggAt P t with
  | some true => .agg X.toArray
  | _ => X.headD undef
theorem run_part {t : TypeId} {g : Bool} {n off : Nat} (hg : aggAt P t = some g) (hs : sizeAt P t = some n) (hn : g = false → n = 1) (cs : Array Value) (ho : off + n ≤ cs.size) :
    (part t cs off).run P w = .ok (mkv P t ((cs.toList.drop off).take n)) w := by
  obtain ⟨i, hi, hsz⟩ := sizeAt_ok hs
  unfold part mkv
  simp only [Sem.run_bind, run_isAgg hg, Result.andThen_ok, hg]
  cases g with
  | true =>
    simp only [if_true, Sem.run_bind, run_sizeOf hi, Result.andThen_ok, Sem.run_pure, hsz]
    congr 2
    apply Array.ext'
    simp [List.extract_eq_take_drop]
  | false =>
    obtain rfl := hn rfl
    simp only [Bool.false_eq_true, if_false]
    have hlt : off < cs.size := by omega
    rw [Array.getElem?_eq_getElem hlt]
    simp only [Sem.run_pure]
    congr 1
    have : cs.toList.drop off = cs[off] :: cs.toList.drop (off + 1) := by
      rw [List.drop_eq_getElem_cons (by simpa using hlt)]; simp
    rw [this]; rfl

theorem flat_agg {d : Nat} {t : TypeId} {ks : List Scal} (h : flatAt P d t = some ks) : ∃ g, aggAt P t = some g ∧ (g = false → ks.length = 1) := by
  cases d with
  | zero => simp [flatAt] at h
  | succ d =>
    unfold flatAt at h
    split at h <;> rename_i hu
    · injection h with h; subst h; exact ⟨false, by simp [aggAt, hu], fun _ => rfl⟩
    · injection h with h; subst h; exact ⟨false, by simp [aggAt, hu], fun _ => rfl⟩
    · injection h with h; subst h; exact ⟨false, by simp [aggAt, hu], fun _ => rfl⟩
    · exact ⟨true, by simp [aggAt, hu], by simp⟩
    · exact ⟨true, by simp [aggAt, hu], by simp⟩
    · cases h

/-- What is so of a type's cells, '==' of them. -/
def EqAt (P : Program) (N : Nat) (t : TypeId) (ks : List Scal) : Prop :=
  ∀ (w : World) (X Y : List Value) (b : Bool), Eqs ks X Y b → (Op.equalIn N t (mkv P t X) (mkv P t Y)).run P w = .ok b w

theorem run_eqFields {fl : TypeId → Option (List Scal)} {N : Nat} (hfl : ∀ t l, fl t = some l → (∃ g, aggAt P t = some g ∧ (g = false → l.length = 1)) ∧ EqAt P N t l) :
    ∀ (fs : List Field) (off : Nat) (ks : List Scal), flatFields P fl fs off = some ks → ∀ (w : World) (xs ys : Array Value) (b : Bool), off + ks.length ≤ xs.size → off + ks.length ≤ ys.size →
      Eqs ks ((xs.toList.drop off).take ks.length) ((ys.toList.drop off).take ks.length) b → (Op.eqFields N xs ys fs).run P w = .ok b w
  | [], off, ks, h, w, xs, ys, b, h1, h2, he => by
    injection h with h; subst h
    simp only [List.length_nil, List.take_zero] at he
    cases he
    simp [Op.eqFields]
  | f :: r, off, ks, h, w, xs, ys, b, h1, h2, he => by
    unfold flatFields at h
    split at h
    · rename_i l hl
      split at h
      · rename_i hc
        obtain ⟨hn, ho, hs⟩ := hc
        split at h
        · rename_i l' hl'
          injection h with h; subst h
          obtain ⟨⟨g, hg, hg1⟩, heq⟩ := hfl _ _ hl
          obtain ⟨b1, b2, e1, e2, rfl⟩ := he.split
          simp only [List.length_append] at h1 h2 e1 e2
          have t1 : ∀ Z : List Value, (((Z.drop off).take (l.length + l'.length)).take l.length) = (Z.drop off).take l.length := fun Z => by rw [List.take_take, Nat.min_eq_left (by omega)]
          have t2 : ∀ Z : List Value, (((Z.drop off).take (l.length + l'.length)).drop l.length) = (Z.drop (off + l.length)).take l'.length := fun Z => by rw [List.drop_take, List.drop_drop, Nat.add_sub_cancel_left]
          rw [t1, t1] at e1
          rw [t2, t2] at e2
          have p1 := run_part (w := w) (off := off) hg hs hg1 xs (by omega)
          have p2 := run_part (w := w) (off := off) hg hs hg1 ys (by omega)
          have p3 := heq w _ _ b1 e1
          have ih := run_eqFields hfl r (off + l.length) l' hl' w xs ys b2 (by omega) (by omega) e2
          rw [Op.eqFields, if_pos hn, ho]
          simp only [Sem.run_bind, p1, p2, p3, Result.andThen_ok]
          cases b1
          · simp
          · simpa using ih
        · cases h
      · cases h
    · cases h
theorem run_eqItems {N : Nat} {e : TypeId} {l : List Scal} {g : Bool} (hg : aggAt P e = some g) (hg1 : g = false → l.length = 1) (hs : sizeAt P e = some l.length) (heq : EqAt P N e l) :
    ∀ (n s : Nat) (w : World) (xs ys : Array Value) (b : Bool), (s + n) * l.length ≤ xs.size → (s + n) * l.length ≤ ys.size →
      Eqs (List.replicate n l).flatten ((xs.toList.drop (s * l.length)).take (n * l.length)) ((ys.toList.drop (s * l.length)).take (n * l.length)) b → (Op.eqItems N e l.length xs ys (List.range' s n)).run P w = .ok b w
  | 0, s, w, xs, ys, b, h1, h2, he => by
    simp only [List.replicate_zero, List.flatten_nil, Nat.zero_mul, List.take_zero] at he
    cases he
    simp [Op.eqItems]
  | n + 1, s, w, xs, ys, b, h1, h2, he => by
    rw [List.replicate_succ, List.flatten_cons] at he
    obtain ⟨b1, b2, e1, e2, rfl⟩ := he.split
    have m1 : (n + 1) * l.length = l.length + n * l.length := by rw [Nat.succ_mul, Nat.add_comm]
    have m2 : (s + (n + 1)) * l.length = s * l.length + (l.length + n * l.length) := by rw [Nat.add_mul, m1]
    have m3 : (s + 1) * l.length = s * l.length + l.length := Nat.succ_mul _ _
    rw [m2] at h1 h2
    rw [m1] at e1 e2
    have t1 : ∀ Z : List Value, (((Z.drop (s * l.length)).take (l.length + n * l.length)).take l.length) = (Z.drop (s * l.length)).take l.length := fun Z => by rw [List.take_take, Nat.min_eq_left (by omega)]
    have t2 : ∀ Z : List Value, (((Z.drop (s * l.length)).take (l.length + n * l.length)).drop l.length) = (Z.drop ((s + 1) * l.length)).take (n * l.length) := fun Z => by rw [List.drop_take, List.drop_drop, Nat.add_sub_cancel_left, m3]
    rw [t1, t1] at e1
    rw [t2, t2] at e2
    have p1 := run_part (w := w) (off := s * l.length) hg hs hg1 xs (by omega)
    have p2 := run_part (w := w) (off := s * l.length) hg hs hg1 ys (by omega)
    have p3 := heq w _ _ b1 e1
    have ih := run_eqItems hg hg1 hs heq n (s + 1) w xs ys b2 (by rw [show s + 1 + n = s + (n + 1) from by omega, m2]; omega) (by rw [show s + 1 + n = s + (n + 1) from by omega, m2]; omega) e2
    rw [List.range'_succ, Op.eqItems]
    simp only [Sem.run_bind, p1, p2, p3, Result.andThen_ok]
    cases b1
    · simp
    · simpa using ih

theorem flat_eq : ∀ (d : Nat) (t : TypeId) (ks : List Scal), flatAt P d t = some ks → ∀ N, EqAt P (N + d) t ks
  | 0, t, ks, h, N => by simp [flatAt] at h
  | d + 1, t, ks, h, N => by
    intro w X Y b he
    unfold flatAt at h
    split at h <;> rename_i hu
    · injection h with h; subst h
      cases he with | cons hs ht => cases ht; cases hs; simp [mkv, aggAt, hu]; exact run_equalIn_bool' w (N + d) t _ _ hu
    · injection h with h; subst h
      cases he with | cons hs ht => cases ht; cases hs; simp [mkv, aggAt, hu]; exact run_equalIn_int w (N + d) t _ _ _ _ hu
    · injection h with h; subst h
      cases he with | cons hs ht => cases ht; cases hs; simp [mkv, aggAt, hu]; exact (run_equalIn_string w (N + d) t _ _ hu).trans (by rw [toList_mk, toList_mk])
    · rename_i fs
      split at h
      · cases h
      · rename_i hst
        have hl := he.len
        have hf : P.fieldsOf t = fs := by simp [Program.fieldsOf, hu]
        have hm : ∀ Z, mkv P t Z = .agg Z.toArray := fun Z => by simp [mkv, aggAt, hu]
        rw [hm, hm, ← Nat.add_assoc, run_equalIn_struct w (N + d) t _ _ (by rw [hf]; exact hu) (by simpa using hst), hf]
        refine run_eqFields (N := N + d) (fun u l hul => ⟨flat_agg hul, flat_eq d u l hul N⟩) fs.toList 0 ks h w X.toArray Y.toArray b (by simp [hl.1]) (by simp [hl.2]) ?_
        simp only [List.drop_zero]
        rw [List.take_of_length_le (by simp [hl.1]), List.take_of_length_le (by simp [hl.2])]
        exact he
    · rename_i n e
      split at h
      · rename_i l hl
        split at h
        · rename_i hs
          injection h with h; subst h
          have hlen := he.len
          obtain ⟨g, hg, hg1⟩ := flat_agg hl
          obtain ⟨i, hi, hsz⟩ := sizeAt_ok hs
          have hm : ∀ Z, mkv P t Z = .agg Z.toArray := fun Z => by simp [mkv, aggAt, hu]
          have hfl : (List.replicate n l).flatten.length = n * l.length := by simp
          rw [hm, hm, ← Nat.add_assoc, run_equalIn_array w (N + d) _ _ hu hi, List.range_eq_range', show P.cellsOf e = l.length from by simp [Program.cellsOf, hi, hsz]]
          refine run_eqItems hg hg1 hs (flat_eq d e l hl N) n 0 w X.toArray Y.toArray b (by simp [hlen.1]) (by simp [hlen.2]) ?_
          simp only [Nat.zero_mul, List.drop_zero]
          rw [List.take_of_length_le (by simp [hlen.1]), List.take_of_length_le (by simp [hlen.2])]
          exact he
        · cases h
      · cases h
    · cases h
end
end Go.Av

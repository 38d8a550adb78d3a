import Derived.Test.YtkgkoladmhihgaaG4
set_option linter.unusedSectionVars false
set_option linter.unusedVariables false
set_option linter.unusedSimpArgs false
set_option linter.constructorNameAsVariable false
namespace Go.AM
open Go.Proofs
set_option linter.unusedVariables false
set_option linter.unusedSimpArgs false
theorem errM_congr {a b : List Msg} (h : ∀ x, x ∈ a ↔ x ∈ b) (ha : a.length ≤ 64) (hb : b.length ≤ 64) : errM a = errM b := by
  have h1 : ¬ 64 < a.length := by omega
  have h2 : ¬ 64 < b.length := by omega
  unfold errM
  rw [if_neg h1, if_neg h2]
  have : (a.any fun m => checkM m != 0) = b.any fun m => checkM m != 0 := by
    rw [Bool.eq_iff_iff, List.any_eq_true, List.any_eq_true]
    constructor
    · rintro ⟨x, h1, h2⟩; exact ⟨x, (h x).1 h1, h2⟩
    · rintro ⟨x, h1, h2⟩; exact ⟨x, (h x).2 h1, h2⟩
  rw [this]
theorem allS_congr {a b : List Msg} (h : ∀ x, x ∈ a ↔ x ∈ b) (ha : a.length ≤ 64) (hb : b.length ≤ 64) : allS a = allS b := by
  unfold allS
  rw [errM_congr h ha hb, normL_congr h]
def insM (m : List Msg) (at_ : Nat) (x : Msg) : List Msg := m.take at_ ++ x :: m.drop at_
theorem mem_insM {m : List Msg} {at_ : Nat} {x y : Msg} : y ∈ insM m at_ x ↔ y = x ∨ y ∈ m := by
  unfold insM
  rw [List.mem_append, List.mem_cons]
  conv => rhs; rw [← List.take_append_drop at_ m, List.mem_append]
  constructor
  · rintro (h | h | h)
    · exact .inr (.inl h)
    · exact .inl h
    · exact .inr (.inr h)
  · rintro (h | h | h)
    · exact .inr (.inl h)
    · exact .inl h
    · exact .inr (.inr h)
theorem insM_len {m : List Msg} {at_ : Nat} {x : Msg} : (insM m at_ x).length = m.length + 1 := by
  unfold insM
  rw [List.length_append, List.length_cons, List.length_take, List.length_drop]
  omega
end Go.AM


namespace Go.AM
open Go.Proofs
set_option linter.unusedVariables false
set_option linter.unusedSimpArgs false
set_option linter.constructorNameAsVariable false
set_option maxRecDepth 20000
section
variable {β : Type} {P : Program} {T : Tab} {D : DTab} {N : Nat} {K : AV → Hp → Option β}
section
variable {x0 : AV → AV → Hp → Option β} {x2 : AV → Hp → Option β} {ps : List (AV × List Msg)} {nl : Bool}
end
end
end Go.AM


namespace Go.AM
open Go.Proofs
set_option linter.unusedVariables false
set_option linter.unusedSimpArgs false
set_option linter.constructorNameAsVariable false
set_option maxRecDepth 20000
attribute [local congr] arithK_cg eqK_cg notK_cg convK_cg pickK_cg buildK_cg ldK_cg nilK_cg sliceK_cg faK_cg fldK_cg iaK_cg iaA_cg lookK_cg capK_cg exK_cg lenK_cg minK_cg maxK_cg effK_cg callK_cg callVK_cg effD_cg gopD_cg grpK_cg condK_cg cond_cg
section
variable {β : Type}
end
end Go.AM


namespace Go.AM
set_option linter.unusedVariables false
set_option linter.unusedSimpArgs false
section
variable {β α : Type}
theorem effK_putg {r : R} {v : AV} {id : Nat} {o : AObj} {ft : List Nat} {h : Hp} (hr : r = some (v, ⟨[(id, o)], [], ft⟩)) (k : AV → Hp → Option β) : effK r h k = k v (h.set id o) := by subst hr; simp [effK, ap]
end
structure Kept (h hh : Hp) (k : Nat) : Prop where
  len : h.length ≤ hh.length
  same : ∀ j, j ≠ k → j < h.length → hh[j]? = h[j]?
theorem Kept.refl (h : Hp) (k : Nat) : Kept h h k := ⟨Nat.le_refl _, fun _ _ _ => rfl⟩
theorem Kept.app {h hh : Hp} {k : Nat} (K : Kept h hh k) (g : Hp) : Kept h (hh ++ g) k := ⟨by have := K.len; simp; omega, fun j h1 h2 => by rw [List.getElem?_append_left (by have := K.len; omega)]; exact K.same j h1 h2⟩
theorem Kept.set {h hh : Hp} {k : Nat} (K : Kept h hh k) (o : AObj) : Kept h (hh.set k o) k := ⟨by have := K.len; simpa using this, fun j h1 h2 => by rw [List.getElem?_set_ne (Ne.symm h1)]; exact K.same j h1 h2⟩
structure DelInv {α : Type} (f : α → List AV) (p : α → Bool) (sz : Nat) (l : List α) (h : Hp) (k i w : Nat) (hh : Hp) (W : List α) : Prop where
  kept : Kept h hh k
  at_ : hh[k]? = some (.arr sz (W.map f) true false)
  len : W.length = l.length
  hw : w = ((l.take i).filter fun x => !p x).length
  pre : W.take w = (l.take i).filter fun x => !p x
  post : W.drop i = l.drop i
section
variable {α : Type} {f : α → List AV} {p : α → Bool} {sz : Nat} {l : List α} {h : Hp} {k i w : Nat} {hh : Hp} {W : List α}
theorem DelInv.wi (I : DelInv f p sz l h k i w hh W) : w ≤ i := by
  rw [I.hw]
  exact Nat.le_trans (List.length_filter_le _ _) (by rw [List.length_take]; omega)
theorem DelInv.get (I : DelInv f p sz l h k i w hh W) {x : α} (hx : l[i]? = some x) : W[i]? = some x := by
  have := congrArg (fun q => q[0]?) I.post
  simpa [hx] using this
theorem take_succ_of {l : List α} {i : Nat} {x : α} (hx : l[i]? = some x) : l.take (i + 1) = l.take i ++ [x] := by rw [List.take_add_one, hx]; rfl
theorem DelInv.skip (I : DelInv f p sz l h k i w hh W) {x : α} (hx : l[i]? = some x) (hp : p x = true) (g : Hp) : DelInv f p sz l h k (i + 1) w (hh ++ g) W := by
  have e : (l.take (i + 1)).filter (fun x => !p x) = (l.take i).filter fun x => !p x := by rw [take_succ_of hx]; simp [hp]
  refine ⟨I.kept.app g, get_app I.at_, I.len, by rw [e]; exact I.hw, by rw [e]; exact I.pre, ?_⟩
  have := congrArg (List.drop 1) I.post
  simpa [List.drop_drop] using this
theorem DelInv.keep (I : DelInv f p sz l h k i w hh W) {x : α} (hx : l[i]? = some x) (hp : p x = false) (g : Hp) : DelInv f p sz l h k (i + 1) (w + 1) ((hh ++ g).set k (.arr sz ((W.set w x).map f) true false)) (W.set w x) := by
  have hi := (List.getElem?_eq_some_iff.1 hx).1
  have hw := I.wi
  have hl := I.len
  have e : (l.take (i + 1)).filter (fun x => !p x) = ((l.take i).filter fun x => !p x) ++ [x] := by rw [take_succ_of hx]; simp [hp]
  refine ⟨(I.kept.app g).set _, ?_, by simpa using hl, by rw [e, List.length_append, ← I.hw]; rfl, ?_, ?_⟩
  · have := (List.getElem?_eq_some_iff.1 (get_app (g := g) I.at_)).1
    rw [List.getElem?_set_self this]
  · rw [e, ← I.pre, List.take_add_one, List.take_set, List.getElem?_set_self (by omega), List.set_eq_of_length_le (by rw [List.length_take]; omega)]
    rfl
  · rw [List.drop_set_of_lt (by omega)]
    have := congrArg (List.drop 1) I.post
    simpa [List.drop_drop] using this
end
end Go.AM


namespace Go.AM
open Go.Proofs
set_option linter.unusedVariables false
set_option linter.unusedSimpArgs false
set_option linter.constructorNameAsVariable false
set_option maxRecDepth 20000
attribute [local congr] arithK_cg eqK_cg notK_cg convK_cg pickK_cg buildK_cg ldK_cg nilK_cg sliceK_cg faK_cg fldK_cg iaK_cg iaA_cg lookK_cg capK_cg exK_cg lenK_cg minK_cg maxK_cg effK_cg callK_cg callVK_cg effD_cg gopD_cg grpK_cg condK_cg cond_cg
section
variable {β : Type} {P : Program} {T : Tab} {D : DTab} {N : Nat} {K : AV → Hp → Option β}
end
end Go.AM


namespace Go.AM
open Go.Proofs
set_option linter.unusedVariables false
set_option linter.unusedSimpArgs false
set_option linter.constructorNameAsVariable false
set_option maxRecDepth 20000
attribute [local congr] arithK_cg eqK_cg notK_cg convK_cg pickK_cg buildK_cg ldK_cg nilK_cg sliceK_cg faK_cg fldK_cg iaK_cg iaA_cg lookK_cg capK_cg exK_cg lenK_cg minK_cg maxK_cg effK_cg callK_cg callVK_cg effD_cg gopD_cg grpK_cg condK_cg cond_cg
end Go.AM


namespace Go.AM
open Go.Proofs
set_option linter.unusedVariables false
set_option linter.unusedSimpArgs false
set_option linter.constructorNameAsVariable false
set_option maxRecDepth 20000
attribute [local congr] arithK_cg eqK_cg notK_cg convK_cg pickK_cg buildK_cg ldK_cg nilK_cg sliceK_cg faK_cg fldK_cg iaK_cg iaA_cg lookK_cg capK_cg exK_cg lenK_cg minK_cg maxK_cg effK_cg callK_cg callVK_cg effD_cg gopD_cg grpK_cg condK_cg cond_cg
section
variable {β : Type}
end
end Go.AM


namespace Go.AM
open Go.Proofs
set_option linter.unusedVariables false
set_option linter.unusedSimpArgs false
set_option linter.constructorNameAsVariable false
set_option maxRecDepth 20000
theorem slices_Equal_Message_L2 {T : Tab} {D : DTab} {N : Nat} {x0 : Hp → Option AV} {xr : AV → Hp → Option AV} {a b : List Msg} {p q : Bool} {h : Hp} (hab : a.length = b.length) (hl : a.length < 1000000) (hx : x0 h = xr (B true) h) (heq : ∀ (x y : Msg) (k : Go.AM.K AV), eqK Try.prog true 23 (.agg (encM x)) (.agg (encM y)) h k = k (B (!(x == y)))) : ∀ (n i : Nat), i ≤ a.length → a.length < i + n →
    f_slices_Equal_Message_L2 Try.prog T D N x0 xr n (.lst 7 p (a.map encM)) (.lst 7 q (b.map encM)) (I a.length) (I i) h = xr (B (decide (a.drop i = b.drop i))) h := by
  intro n
  induction n with
  | zero => intro i h1 h2; omega
  | succ n ih =>
    intro i h1 h2
    show f_slices_Equal_Message_b2 Try.prog T D N (f_slices_Equal_Message_L2 Try.prog T D N x0 xr n) x0 xr _ _ _ _ h = _
    rcases Nat.lt_or_ge i a.length with hi | hi
    · have c1 : ((i : Int) < (a.length : Int)) := by omega
      have hw : IntKind.i64.wrap ((i : Int) + 1) = ((i + 1 : Nat) : Int) := by rw [wrap64 (by omega) (by omega)]; omega
      have ia : ∀ k : Go.AM.K AV, iaK 7 (.lst 7 p (a.map encM)) (I i) k = k (.ep (encM a[i]) 0) := fun k => iaK_at i rfl (List.getElem?_eq_getElem hi) k
      have ib : ∀ k : Go.AM.K AV, iaK 7 (.lst 7 q (b.map encM)) (I i) k = k (.ep (encM (b[i]'(by omega))) 0) := fun k => iaK_at i rfl (List.getElem?_eq_getElem (by omega)) k
      have ld : ∀ (x : Msg) (k : Go.AM.K AV), ldK 7 true (.ep (encM x) 0) h k = k (.agg (encM x)) := fun x k => rfl
      rw [List.drop_eq_getElem_cons hi, List.drop_eq_getElem_cons (show i < b.length by omega)]
      simp -implicitDefEqProofs only [f_slices_Equal_Message_b2, lenK_lst, List.length_map, arithK_lss, c1, decide_true, condK_bool, if_true, ia, ib, ld, heq, arithK_add, hw, ih (i + 1) (by omega) (by omega), List.cons.injEq, Bool.decide_and]
      by_cases e : a[i] = b[i]
      · simp [e]
      · simp [e]
    · have : i = a.length := by omega
      subst this
      have c1 : ¬ ((a.length : Int) < (a.length : Int)) := by omega
      simp -implicitDefEqProofs only [f_slices_Equal_Message_b2, lenK_lst, List.length_map, arithK_lss, c1, decide_false, condK_bool, Bool.false_eq_true, if_false, hx]
      rw [List.drop_eq_nil_of_le (Nat.le_refl _), List.drop_eq_nil_of_le (by omega)]
      rfl
theorem F_slices_Equal_Message_val (a b : List Msg) (p q : Bool) (hl : a.length < 1000000) (heq : ∀ (x y : Msg) (h : Hp) (k : Go.AM.K AV), eqK Try.prog true 23 (.agg (encM x)) (.agg (encM y)) h k = k (B (!(x == y)))) (h : Hp) : F_slices_Equal_Message [.lst 7 p (a.map encM), .lst 7 q (b.map encM)] h = some (B (decide (a = b)), h) := by
  refine F_slices_Equal_Message_run rfl ?_ h
  simp only [nrm, nrmC]
  by_cases hab : a.length = b.length
  · have e : ((a.length : Int) == (b.length : Int)) = true := by simp [hab]
    have := slices_Equal_Message_L2 (T := t_slices_Equal_Message) (D := d_slices_Equal_Message) (N := NN) (x0 := fun h => f_slices_Equal_Message_j1 Try.prog t_slices_Equal_Message d_slices_Equal_Message NN (fun v g => cvt false g v) h) (xr := fun w13_4 h => cvt false h w13_4) (a := a) (b := b) (p := p) (q := q) (h := []) hab hl rfl (fun x y k => heq x y [] k) NN 0 (by omega) (by have := NN_ge; omega)
    simp only [List.drop_zero] at this
    simp -implicitDefEqProofs only [f_slices_Equal_Message, lenK_lst, List.length_map, eqK_int, e, Bool.true_xor, Bool.not_true, condK_bool, Bool.false_eq_true, if_false]
    exact this
  · have e : ((a.length : Int) == (b.length : Int)) = false := by simp; omega
    have hne : a ≠ b := fun h => hab (by rw [h])
    simp [f_slices_Equal_Message, e, hne]
attribute [local congr] arithK_cg eqK_cg notK_cg convK_cg pickK_cg buildK_cg ldK_cg nilK_cg sliceK_cg faK_cg fldK_cg iaK_cg iaA_cg lookK_cg capK_cg exK_cg lenK_cg minK_cg maxK_cg effK_cg callK_cg callVK_cg effD_cg gopD_cg grpK_cg condK_cg cond_cg
theorem getSelfM {h : Hp} {i : Nat} {x o : AObj} (hi : h[i]? = some x) : (h.set i o)[i]? = some o := List.getElem?_set_self (List.getElem?_eq_some_iff.1 hi).1
theorem keptTrans {h h1 h2 : Hp} {k : Nat} (a : Kept h h1 k) (b : Kept h1 h2 k) : Kept h h2 k := ⟨by have := a.len; have := b.len; omega, fun j h1 h2 => by rw [b.same j h1 (by have := a.len; omega), a.same j h1 h2]⟩
theorem stM {β : Type} {W : List Msg} {id i n : Nat} {h : Hp} {x : Msg} (hid : h[id]? = some (.arr 7 (W.map encM) true false)) (hn : W.length = n) (hi : i < W.length) (k : AV → Hp → Option β) : effK (stE 7 (.ptr id i 0 n) (.agg (encM x)) h) h k = k .u (h.set id (.arr 7 ((W.set i x).map encM) true false)) := by
  have hx : W[i]? = some W[i] := List.getElem?_eq_getElem hi
  have : stE 7 (.ptr id i 0 n) (.agg (encM x)) h = some (.u, ⟨[(id, .arr 7 ((W.map encM).set i (encM x)) true false)], [], [id]⟩) := by
    rw [stE_ptr, hid]
    simp [hn, hx, putAt, encM]
  rw [effK_putg this, List.map_set]
theorem ldM {β : Type} {W : List Msg} {id i n : Nat} {h : Hp} {x : Msg} (hid : h[id]? = some (.arr 7 (W.map encM) true false)) (hn : W.length = n) (hx : W[i]? = some x) (k : Go.AM.K β) : ldK 7 true (.ptr id i 0 n) h k = k (.agg (encM x)) := by
  simp [hid, hn, hx, pickC, encM]
theorem revM_L2 {β : Type} {x0 : Hp → Option β} {s : List Msg} {id : Nat} (hl : s.length < 1000000) : ∀ (n i : Nat) (W : List Msg) (h : Hp), s.length ≤ i + n → 0 < n → i ≤ s.length → h[id]? = some (.arr 7 (W.map encM) true false) → W.length = s.length → (∀ p, p < s.length → W[p]? = if p < i ∨ s.length < p + 1 + i then s[s.length - 1 - p]? else s[p]?) →
    ∃ h' : Hp, f_slices_Reverse_Message_L2 Try.prog t_slices_Reverse_Message d_slices_Reverse_Message NN x0 n (.sl 7 id 0 s.length s.length false) (I i) (I ((s.length : Int) - 1 - i)) h = x0 h' ∧ h'[id]? = some (.arr 7 (s.reverse.map encM) true false) ∧ Kept h h' id := by
  intro n
  induction n with
  | zero => intro i W h h1 h2; omega
  | succ n ih =>
    intro i W h h1 _ h3 hid hW hp
    by_cases hc : 2 * i + 1 < s.length
    · have hi : i < s.length := by omega
      obtain ⟨j, hj⟩ : ∃ j, j = s.length - 1 - i := ⟨_, rfl⟩
      have hjc : (s.length : Int) - 1 - i = (j : Int) := by omega
      have hjl : j < s.length := by omega
      have c1 : ((i : Int) < (j : Int)) := by omega
      have ia : ∀ (m : Nat) (hm : m < s.length) (k' : Go.AM.K β), iaK 7 (.sl 7 id 0 s.length s.length false) (I m) k' = k' (.ptr id m 0 s.length) := fun m hm k' => by
        have e2 : ((m : Nat) : Int) < ((s.length : Nat) : Int) := by omega
        simp [iaK, e2]
      have wi : W[i]? = some W[i] := List.getElem?_eq_getElem (by omega)
      have wj : W[j]? = some W[j] := List.getElem?_eq_getElem (by omega)
      have pi := hp i hi
      have pj := hp j hjl
      rw [if_neg (by omega), wi] at pi
      rw [if_neg (by omega), wj] at pj
      generalize W[i] = x at wi pi
      generalize W[j] = y at wj pj
      have lj : ∀ k' : Go.AM.K β, ldK 7 true (.ptr id j 0 s.length) h k' = k' (.agg (encM y)) := fun k' => ldM hid hW wj k'
      have li : ∀ k' : Go.AM.K β, ldK 7 true (.ptr id i 0 s.length) h k' = k' (.agg (encM x)) := fun k' => ldM hid hW wi k'
      have s1 : ∀ k' : AV → Hp → Option β, effK (stE 7 (.ptr id i 0 s.length) (.agg (encM y)) h) h k' = k' .u (h.set id (.arr 7 ((W.set i y).map encM) true false)) := fun k' => stM hid hW (by omega) k'
      have hid1 : (h.set id (.arr 7 ((W.set i y).map encM) true false))[id]? = some (.arr 7 ((W.set i y).map encM) true false) := getSelfM hid
      have kp1 : Kept h (h.set id (.arr 7 ((W.set i y).map encM) true false)) id := (Kept.refl h id).set _
      generalize h.set id (.arr 7 ((W.set i y).map encM) true false) = h1' at *
      have s2 : ∀ k' : AV → Hp → Option β, effK (stE 7 (.ptr id j 0 s.length) (.agg (encM x)) h1') h1' k' = k' .u (h1'.set id (.arr 7 (((W.set i y).set j x).map encM) true false)) := fun k' => stM hid1 (by simpa using hW) (by simp; omega) k'
      have w1 : IntKind.i64.wrap ((i : Int) + 1) = ((i + 1 : Nat) : Int) := by rw [wrap64 (by omega) (by omega)]; omega
      have w2 : IntKind.i64.wrap ((j : Int) - 1) = (s.length : Int) - 1 - ((i + 1 : Nat) : Int) := by rw [wrap64 (by omega) (by omega)]; omega
      obtain ⟨h', a1, a2, a3⟩ := ih (i + 1) ((W.set i y).set j x) (h1'.set id (.arr 7 (((W.set i y).set j x).map encM) true false)) (by omega) (by omega) (by omega) (getSelfM hid1) (by simpa using hW) (fun p hpl => by
        by_cases q1 : p = j
        · subst q1
          rw [List.getElem?_set_self (by simp; omega), if_pos (by omega), show s.length - 1 - p = i by omega, pi]
        · rw [List.getElem?_set_ne (Ne.symm q1)]
          by_cases q2 : p = i
          · subst q2
            rw [List.getElem?_set_self (by omega), if_pos (by omega), ← hj, pj]
          · rw [List.getElem?_set_ne (Ne.symm q2), hp p hpl]
            by_cases q3 : p < i ∨ s.length < p + 1 + i
            · rw [if_pos q3, if_pos (by omega)]
            · rw [if_neg q3, if_neg (by omega)])
      refine ⟨h', ?_, a2, keptTrans (kp1.set _) a3⟩
      rw [← a1, hjc]
      show f_slices_Reverse_Message_b2 Try.prog t_slices_Reverse_Message d_slices_Reverse_Message NN (f_slices_Reverse_Message_L2 Try.prog t_slices_Reverse_Message d_slices_Reverse_Message NN x0 n) x0 _ _ _ h = _
      simp -implicitDefEqProofs only [f_slices_Reverse_Message_b2, arithK_lss, c1, decide_true, condK_bool, if_true, ia i hi, ia j hjl, lj, li, s1, s2, arithK_add, w1, arithK_sub, w2]
    · have c1 : ¬ ((i : Int) < (s.length : Int) - 1 - i) := by omega
      refine ⟨h, ?_, ?_, .refl h id⟩
      · show f_slices_Reverse_Message_b2 Try.prog t_slices_Reverse_Message d_slices_Reverse_Message NN (f_slices_Reverse_Message_L2 Try.prog t_slices_Reverse_Message d_slices_Reverse_Message NN x0 n) x0 _ _ _ h = _
        simp -implicitDefEqProofs only [f_slices_Reverse_Message_b2, arithK_lss, c1, decide_false, condK_bool, Bool.false_eq_true, if_false]
      · have : W = s.reverse := List.ext_getElem? fun p => by
          by_cases hpl : p < s.length
          · rw [hp p hpl, List.getElem?_reverse hpl]
            by_cases q : p < i ∨ s.length < p + 1 + i
            · rw [if_pos q]
            · rw [if_neg q, show s.length - 1 - p = p by omega]
          · rw [List.getElem?_eq_none (by omega), List.getElem?_eq_none (by simp; omega)]
        rw [← this]; exact hid
def OwnM (h : Hp) (v : AV) (W : List Msg) : Prop := (W = [] ∧ v = nilS) ∨ ∃ id, v = .sl 7 id 0 W.length W.length false ∧ h[id]? = some (.arr 7 (W.map encM) true false)
theorem OwnM.cvt {h : Hp} {v : AV} {W : List Msg} (O : OwnM h v W) : ∃ a b, cvts false h [v] = some [a] ∧ nrm (.l 7) a = SLm b W := by
  rcases O with ⟨rfl, rfl⟩ | ⟨id, rfl, h1⟩
  · exact ⟨nilS, true, rfl, rfl⟩
  · refine ⟨.lst 7 false (W.map encM), false, ?_, rfl⟩
    have := cvt_whole (st := false) (n := W.length) (fr := W.length) (full := false) h1 (by simp) (by simp) (okE_map fun x => by simp [encM])
    simp only [cvts_cons, cvts_nil, this]
theorem OwnM.mono {h h' : Hp} {v : AV} {W : List Msg} (O : OwnM h v W) (hk : ∀ j < h.length, h'[j]? = h[j]?) : OwnM h' v W := by
  rcases O with O | ⟨id, rfl, h1⟩
  · exact .inl O
  · exact .inr ⟨id, rfl, by rw [hk id (List.getElem?_eq_some_iff.1 h1).1, h1]⟩
theorem clone_lst (l : List Msg) (b : Bool) (hl : l.length < 1000000) (h : Hp) : ∃ c hc, R_slices_Clone_Message [SLm b l] h = some (c, hc) ∧ OwnM hc c l ∧ ∀ j < h.length, hc[j]? = h[j]? := by
  have rC := R_Clone_Msg l b hl h
  by_cases hb : (b && l.isEmpty) = true
  · rw [if_pos hb] at rC
    have : l = [] := by simpa using (Bool.and_eq_true_iff.1 hb).2
    exact ⟨_, _, rC, .inl ⟨this, rfl⟩, fun _ _ => rfl⟩
  · rw [if_neg hb] at rC
    exact ⟨_, _, rC, .inr ⟨h.length + 1, rfl, by rw [get_new]; rfl⟩, fun j hj => List.getElem?_append_left hj⟩
theorem clone_own {W : List Msg} {v : AV} {h : Hp} (O : OwnM h v W) (hl : W.length < 1000000) : ∃ c hc, R_slices_Clone_Message [v] h = some (c, hc) ∧ OwnM hc c W ∧ ∀ j < h.length, hc[j]? = h[j]? := by
  rw [R_slices_Clone_Message_raw]
  rcases O with ⟨rfl, rfl⟩ | ⟨id, rfl, h1⟩
  · exact ⟨nilS, h, rfl, .inl ⟨rfl, rfl⟩, fun _ _ => rfl⟩
  · have hle : W.length * 56 ≤ 140737488355328 := by omega
    have h2 : ((W.map encM).all fun e => e.length == 7) = true := by simp [encM]
    have hid : (h ++ [AObj.arr 7 [] true false])[id]? = some (.arr 7 (W.map encM) true false) := get_app h1
    have eq0 : ∀ k : Go.AM.K (AV × Hp), eqK Try.prog false 24 (.sl 7 id 0 W.length W.length false) (.s (.slice none 0 0)) h k = k (B false) := fun k => eqK_sl k (by kernel_rfl) h1 (by simp)
    refine ⟨.sl 7 (h.length + 1) 0 W.length W.length false, h ++ [.arr 7 [] true false, .arr 7 (W.map encM) true false], ?_, .inr ⟨h.length + 1, rfl, by rw [get_new]; rfl⟩, fun j hj => List.getElem?_append_left hj⟩
    have htk : (W.map encM).take W.length = W.map encM := List.take_of_length_le (by simp)
    have h3 : ∀ x ∈ W.map encM, x.length = 7 := fun x hx => by obtain ⟨y, -, rfl⟩ := List.mem_map.1 hx; rfl
    simp only [f_slices_Clone_Message, eq0]
    simp [bsE, fillS, appE, readSl, hid, hle, h2, ap, htk]
    rw [if_pos fun x hx => by simp [encM]]
    simp [effK, ap]
theorem reverse_own {W : List Msg} {v : AV} {h : Hp} (O : OwnM h v W) (hl : W.length < 1000000) : ∃ h', R_slices_Reverse_Message [v] h = some (.tup [], h') ∧ OwnM h' v W.reverse := by
  have hN := NN_ge
  rw [R_slices_Reverse_Message_raw]
  rcases O with ⟨rfl, rfl⟩ | ⟨k, rfl, h2⟩
  · refine ⟨h, ?_, .inl ⟨rfl, rfl⟩⟩
    obtain ⟨n, hn⟩ : ∃ n, NN = n + 1 := ⟨NN - 1, by omega⟩
    have w : IntKind.i64.wrap (0 - 1) = -1 := by rw [wrap64 (by omega) (by omega)]; rfl
    have ln : ∀ k : Go.AM.K (AV × Hp), lenK nilS k = k (I 0) := fun k => rfl
    have key : ∀ x0 : Hp → Option (AV × Hp), f_slices_Reverse_Message_L2 Try.prog t_slices_Reverse_Message d_slices_Reverse_Message NN x0 NN nilS (I 0) (I (-1)) h = x0 h := fun x0 => by
      conv => lhs; arg 6; rw [hn]
      show f_slices_Reverse_Message_b2 Try.prog t_slices_Reverse_Message d_slices_Reverse_Message NN (f_slices_Reverse_Message_L2 Try.prog t_slices_Reverse_Message d_slices_Reverse_Message NN x0 n) x0 _ _ _ h = _
      have c1 : ¬ ((0 : Int) < -1) := by decide
      simp -implicitDefEqProofs only [f_slices_Reverse_Message_b2, arithK_lss, c1, decide_false, condK_bool, Bool.false_eq_true, if_false]
    simp -implicitDefEqProofs only [f_slices_Reverse_Message, ln, arithK_sub, w, key, f_slices_Reverse_Message_j1]
  · have w : IntKind.i64.wrap ((W.length : Int) - 1) = (W.length : Int) - 1 := wrap64 (by omega) (by omega)
    obtain ⟨h', a1, a2, a3⟩ := revM_L2 (x0 := fun h => f_slices_Reverse_Message_j1 Try.prog t_slices_Reverse_Message d_slices_Reverse_Message NN (fun v h => some (v, h)) h) (id := k) hl NN 0 W h (by omega) (by omega) (by omega) h2 rfl (fun p hp => by rw [if_neg (by omega)])
    have ln : ∀ k' : Go.AM.K (AV × Hp), lenK (.sl 7 k 0 W.length W.length false) k' = k' (I W.length) := fun k' => rfl
    refine ⟨h', ?_, .inr ⟨k, by rw [List.length_reverse], a2⟩⟩
    rw [show ((W.length : Int) - 1 - ((0 : Nat) : Int)) = (W.length : Int) - 1 by omega] at a1
    simp -implicitDefEqProofs only [f_slices_Reverse_Message, ln, arithK_sub, w]
    exact a1
abbrev enUO (n : Fin 256) : List AV := [.s (.int .u8 (n.1 : Int))]
theorem has_BytesO {a : AV} (h : HasT (.sl [.int .u8]) a) : ∃ (l : List (Fin 256)) (b : Bool), a = SL 1 enUO b l := has_list (fun cs h => by
  simp only [HasTs, HasT] at h
  obtain ⟨_, _, rfl, ⟨x, rfl, hx⟩, rfl⟩ := h
  have hx' : 0 ≤ x ∧ x < 256 := by
    simp only [Lit.wf, Bool.and_eq_true, decide_eq_true_eq] at hx
    have e1 : IntKind.u8.min = 0 := by kernel_rfl
    have e2 : IntKind.u8.max = 255 := by kernel_rfl
    rw [e1, e2] at hx
    omega
  exact ⟨⟨x.toNat, by omega⟩, by simp [Int.toNat_of_nonneg hx'.1]⟩) h
theorem insert_own {W : List Msg} {v : AV} {h : Hp} {x : Msg} {i : Nat} (O : OwnM h v W) (hW : W ≠ []) (hl : W.length < 1000000) (hi : i ≤ W.length) : ∃ h' v', (∀ k : AV → Hp → Option AV, effK (bsE 7 [I 0, I 0, I 0, I 0, I 0, I 0, I 0] 1 [(0, .agg (encM x))] h.length) h k = k (.sl 7 h.length 0 1 1 true) (h ++ [.arr 7 [encM x] true false])) ∧ R_slices_Insert_Message [v, I i, .sl 7 h.length 0 1 1 true] (h ++ [.arr 7 [encM x] true false]) = some (v', h') ∧ OwnM h' v' (insM W i x) := by
  rcases O with ⟨e, -⟩ | ⟨id, rfl, h1⟩
  · exact absurd e hW
  · have hlt : id < h.length := (List.getElem?_eq_some_iff.1 h1).1
    have hid : (h ++ [AObj.arr 7 [encM x] true false])[id]? = some (.arr 7 (W.map encM) true false) := get_app h1
    have hx : (h ++ [AObj.arr 7 [encM x] true false])[h.length]? = some (.arr 7 [encM x] true false) := by rw [get_new0]; rfl
    have hin := insF_at (f := encM) (k := 7) (by_ := 56) (full := true) hid hx (by omega) (fun x => by simp [encM]) hi (by omega)
    refine ⟨_, _, fun k => by simp [bsE, fillS, encM, effK, ap], hin, .inr ⟨id, by rw [insM_len], ?_⟩⟩
    rw [getSelfM hid]
    unfold insM
    simp
theorem Order_L2 {x0 : AV → AV → Hp → Option AV} {X : Option AV} {l : List Msg} {bl : Bool} {order : List (Fin 256)} {b3 : Bool} (ho : order.length < 100000) (hl : l.length < 100000) (hx : ∀ v h W, OwnM h v W → (∀ m, m ∈ W ↔ m ∈ l) → W.length ≤ l.length + order.length → x0 (.lst 7 bl (l.map encM)) v h = X) : ∀ (n i : Nat) (v : AV) (h : Hp) (W : List Msg), i ≤ order.length → order.length < i + n → OwnM h v W → (∀ m, m ∈ W ↔ m ∈ l) → W.length ≤ l.length + i →
    f_law40_DocumentOrder_L2 Try.prog t_law40_DocumentOrder d_law40_DocumentOrder NN x0 n (.lst 7 bl (l.map encM)) v (.lst 1 b3 (order.map enUO)) (I order.length) (I i) h = X := by
  intro n
  induction n with
  | zero => intro i v h W h1 h2; omega
  | succ n ih =>
    intro i v h W h1 h2 O hm hW
    show f_law40_DocumentOrder_b2 Try.prog t_law40_DocumentOrder d_law40_DocumentOrder NN (f_law40_DocumentOrder_L2 Try.prog t_law40_DocumentOrder d_law40_DocumentOrder NN x0 n) x0 _ _ _ _ _ h = _
    rcases Nat.lt_or_ge i order.length with hi | hi
    · have hlt : ((i : Int) < (order.length : Int)) := by omega
      have hw : IntKind.i64.wrap ((i : Int) + 1) = ((i + 1 : Nat) : Int) := by rw [wrap64 (by omega) (by omega)]; omega
      have hk : order[i]? = some order[i] := List.getElem?_eq_getElem hi
      generalize order[i] = q at hk
      have ic : ∀ k : Go.AM.K AV, iaK 1 (.lst 1 b3 (order.map enUO)) (I i) k = k (.ep (enUO q) 0) := fun k => iaK_at i rfl hk k
      have ld : ∀ k : Go.AM.K AV, ldK 1 false (.ep (enUO q) 0) h k = k (.s (.int .u8 (q.1 : Int))) := fun k => rfl
      have cvq : ∀ k : Go.AM.K AV, convK Try.prog 5 3 (.s (.int .u8 (q.1 : Int))) k = k (I (q.1 : Int)) := fun k => by
        rw [convK_int Try.underlying5 Try.underlying3, wrap64 (by omega) (by have := q.2; omega)]
      by_cases hz : l.length = 0
      · have c0 : ¬ ((l.length : Int) > 0) := by omega
        simp -implicitDefEqProofs only [f_law40_DocumentOrder_b2, arithK_lss, hlt, decide_true, condK_bool, if_true, ic, ld, lenK_lst, List.length_map, arithK_gtr, c0, decide_false, Bool.false_eq_true, if_false, f_law40_DocumentOrder_j4, f_law40_DocumentOrder_j3, arithK_add, hw]
        exact ih (i + 1) v h W hi (by omega) O hm (by omega)
      · have c0 : (l.length : Int) > 0 := by omega
        have hW0 : W ≠ [] := by
          intro e
          have hne : l ≠ [] := fun e => hz (by rw [e]; rfl)
          obtain ⟨m, r, hmr⟩ := List.exists_cons_of_ne_nil hne
          have := (hm m).2 (by rw [hmr]; simp)
          rw [e] at this; simp at this
        have hlen : ∀ k : Go.AM.K AV, lenK v k = k (I W.length) := fun k => by
          rcases O with ⟨e, -⟩ | ⟨id, rfl, -⟩
          · exact absurd e hW0
          · rfl
        have w1 : IntKind.i64.wrap ((W.length : Int) + 1) = ((W.length + 1 : Nat) : Int) := by rw [wrap64 (by omega) (by omega)]; omega
        obtain ⟨x, hxd⟩ : ∃ x, x = q.1 % (W.length + 1) := ⟨_, rfl⟩
        obtain ⟨y, hyd⟩ : ∃ y, y = q.1 % l.length := ⟨_, rfl⟩
        have hxl : x < W.length + 1 := by rw [hxd]; exact Nat.mod_lt _ (by omega)
        have hyl : y < l.length := by rw [hyd]; exact Nat.mod_lt _ (by omega)
        have rx : ∀ k : Go.AM.K AV, reckK Try.prog .rem 3 (I (q.1 : Int)) (I ((W.length + 1 : Nat) : Int)) k = k (I x) := fun k => by rw [reck_remI q.1 (W.length + 1) (by omega), hxd]
        have ry : ∀ k : Go.AM.K AV, reckK Try.prog .rem 3 (I (q.1 : Int)) (I l.length) k = k (I y) := fun k => by rw [reck_remI q.1 l.length hz, hyd]
        have hly : l[y]? = some l[y] := List.getElem?_eq_getElem hyl
        have iy : ∀ k : Go.AM.K AV, iaK 7 (.lst 7 bl (l.map encM)) (I y) k = k (.ep (encM l[y]) 0) := fun k => iaK_at y rfl hly k
        have ly : ∀ k : Go.AM.K AV, ldK 7 true (.ep (encM l[y]) 0) h k = k (.agg (encM l[y])) := fun k => rfl
        obtain ⟨h', v', b1, b2, b3'⟩ := insert_own (x := l[y]) (i := x) O hW0 (by omega) (by omega)
        simp -implicitDefEqProofs only [f_law40_DocumentOrder_b2, arithK_lss, hlt, decide_true, condK_bool, if_true, ic, ld, lenK_lst, List.length_map, arithK_gtr, c0, cvq, hlen, arithK_add, w1, rx, ry, iy, ly, b1, t_law40_DocumentOrder_33, callK_F, b2, f_law40_DocumentOrder_j4, f_law40_DocumentOrder_j3, hw]
        refine ih (i + 1) v' h' (insM W x l[y]) hi (by omega) b3' (fun m => ?_) (by rw [insM_len]; omega)
        rw [mem_insM, hm]
        constructor
        · rintro (rfl | h)
          · exact List.getElem_mem hyl
          · exact h
        · exact .inr
    · have : i = order.length := by omega
      subst this
      have c1 : ¬ ((order.length : Int) < (order.length : Int)) := by omega
      simp -implicitDefEqProofs only [f_law40_DocumentOrder_b2, arithK_lss, c1, decide_false, condK_bool, Bool.false_eq_true, if_false]
      exact hx v h W O hm hW
theorem all_own {W : List Msg} {v : AV} {h : Hp} (O : OwnM h v W) (hl : W.length < 1000) : F_document_All [v] h = some (allV W, h) := by
  obtain ⟨a, b, h1, h2⟩ := O.cvt
  obtain ⟨w, hw1, hw2⟩ := All_key W b hl
  refine (F_document_All_own h1 (fun st => by rw [h2]; exact hw1 st)).trans ?_
  show some (AV.tup [nrm (.l 7) w, I (errM W)], h) = _
  rw [hw2]; rfl
theorem norm_own {W : List Msg} {v : AV} {h : Hp} (O : OwnM h v W) (hl : W.length < 1000) : ∃ b, F_document_Normal [v] h = some (normR b W, h) := by
  obtain ⟨a, b, h1, h2⟩ := O.cvt
  exact ⟨b, F_document_Normal_at W (by omega) h1 h2⟩
theorem order_law (l : List Msg) (b1 : Bool) (order : List (Fin 256)) (b2 : Bool) : F_law40_DocumentOrder [SLm b1 l, SL 1 enUO b2 order] [] = some (B true, []) := by
  refine F_law40_DocumentOrder_run (a0 := SLm b1 l) (a1 := SL 1 enUO b2 order) rfl ?_ []
  simp only [nrm, nrmC]
  have fw := F_law40_awake_val
  simp -implicitDefEqProofs only [f_law40_DocumentOrder, t_law40_DocumentOrder_10, callK_F, fw, notK_bool, Bool.not_true, condK_bool, Bool.false_eq_true, if_false, SL, lenK_lst, List.length_map, arithK_gtr, grpK_or]
  by_cases hb : l.length ≤ 16 ∧ order.length ≤ 16
  · obtain ⟨q1, q2⟩ := hb
    have e : (decide ((l.length : Int) > 16) || decide ((order.length : Int) > 16)) = false := by simp; omega
    obtain ⟨c, h1, r1, r2, -⟩ := clone_lst l b1 (by omega) []
    obtain ⟨h2, r3, r4⟩ := reverse_own r2 (by omega)
    simp -implicitDefEqProofs only [e, Bool.false_eq_true, if_false, t_law40_DocumentOrder_13, t_law40_DocumentOrder_32, callK_F, r1, r3]
    refine Order_L2 (l := l) (bl := b1 && l.isEmpty) (order := order) (by omega) (by omega) (fun v h W O hm hW => ?_) NN 0 c h2 l.reverse (by omega) (by have := NN_ge; omega) r4 (fun m => by simp) (by simp)
    obtain ⟨c1, h3, s1, s2, s3⟩ := clone_lst l b1 (by omega) h
    have f1 := all_own s2 (by omega)
    obtain ⟨c2, h4, t1, t2, t3⟩ := clone_own (O.mono s3) (by omega)
    have f2 := all_own t2 (by omega)
    obtain ⟨c3, h5, u1, u2, u3⟩ := clone_lst l b1 (by omega) h4
    obtain ⟨p, f3⟩ := norm_own u2 (by omega)
    obtain ⟨c4, h6, v1, v2, v3⟩ := clone_own (((O.mono s3).mono t3).mono u3) (by omega)
    obtain ⟨p', f4⟩ := norm_own v2 (by omega)
    have hA : allS W = allS l := allS_congr hm (by omega) (by omega)
    have hE : errM W = errM l := errM_congr hm (by omega) (by omega)
    have hNn : normL W = normL l := normL_congr hm
    have x0 : ∀ (L : List Msg) (k : Go.AM.K AV), exK (allV L) 0 k = k (.lst 7 (allS L).isEmpty ((allS L).map encDo)) := fun L k => rfl
    have x1 : ∀ (L : List Msg) (k : Go.AM.K AV), exK (allV L) 1 k = k (I (errM L)) := fun L k => rfl
    obtain ⟨N, hN⟩ : ∃ N : List Msg, N = if errM l = 0 then normL l else [] := ⟨_, rfl⟩
    have nV : ∀ (p : Bool), ∃ p2, normR p l = .tup [.lst 7 p2 (N.map encM), I (errM l)] := fun p => by
      unfold normR
      rw [hN]
      by_cases z : errM l = 0
      · exact ⟨p && (normL l).isEmpty, by rw [if_pos z, if_pos z]⟩
      · exact ⟨true, by rw [if_neg z, if_neg z]; rfl⟩
    have nW : normR p' W = normR p' l := by unfold normR; rw [hE, hNn]
    obtain ⟨p2, e2⟩ := nV p
    obtain ⟨p3, e3⟩ := nV p'
    rw [e2] at f3
    rw [nW, e3] at f4
    have hal := allS_len l
    have hNl : N.length < 1000000 := by
      have := normL_length l
      rw [hN]; split
      · omega
      · simp
    have fE := F_slices_Equal_Document_val (allS l) (allS l) (allS l).isEmpty (allS l).isEmpty (by omega) (fun x y h k => by rw [eqs_Do, Bool.true_xor])
    have fM := F_slices_Equal_Message_val N N p2 p3 hNl (fun x y h k => by rw [eqs_Me, Bool.true_xor])
    have tp : ∀ (a b : AV) (k : Go.AM.K AV), exK (.tup [a, b]) 0 k = k a := fun a b k => rfl
    have tq : ∀ (a b : AV) (k : Go.AM.K AV), exK (.tup [a, b]) 1 k = k b := fun a b k => rfl
    simp -implicitDefEqProofs only [f_law40_DocumentOrder_j1, t_law40_DocumentOrder_13, t_law40_DocumentOrder_20, t_law40_DocumentOrder_12, t_law40_DocumentOrder_34, t_law40_DocumentOrder_35, callK_F, s1, f1, t1, f2, u1, f3, v1, f4, x0, x1, tp, tq, hA, hE, fE, fM, decide_true, eqK_int, beq_self_eq_true, Bool.false_xor, grpK_tt]
    rfl
  · have e : (decide ((l.length : Int) > 16) || decide ((order.length : Int) > 16)) = true := by simp; omega
    simp only [e, if_true]
    rfl
end Go.AM


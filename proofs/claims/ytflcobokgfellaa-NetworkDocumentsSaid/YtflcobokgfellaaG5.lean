import Derived.Test.YtflcobokgfellaaG4
import Derived.Below
import Derived.ChangeOld
import Derived.Carry
import Derived.OpenShut
set_option linter.unusedSectionVars false
set_option linter.unusedVariables false
set_option linter.unusedSimpArgs false
set_option linter.constructorNameAsVariable false
namespace Go.AM
open Go.Proofs
set_option linter.unusedVariables false
set_option linter.unusedSimpArgs false
set_option linter.constructorNameAsVariable false
set_option maxRecDepth 20000
section
variable {β : Type} {P : Program} {T : Tab} {D : DTab} {N : Nat} {K : AV → Hp → Option β}
theorem Index_Message_L2 {T : Tab} {D : DTab} {N : Nat} {x0 : Hp → Option β} {xr : AV → Hp → Option β} {l : List Msg} {b : Bool} {v : Msg} {h : Hp} {m : Nat} (hm : h[m]? = some (.arr 7 [encM v] true false)) (hl : l.length < 4611686018427387904) (heq : ∀ (x y : Msg) (h : Hp) (k : Go.AM.K β), eqK Try.prog false 31 (.agg (encM x)) (.agg (encM y)) h k = k (B (x == y))) :
    ∀ (n i : Nat), i ≤ l.length → l.length < i + n → f_slices_Index_Message_L2 Try.prog T D N x0 xr n (.lst 7 b (l.map encM)) (.ptr m 0 0 1) (I l.length) (I i) h = match (l.drop i).findIdx? (fun y => v == y) with | some j => xr (I ((i + j : Nat) : Int)) h | none => x0 h := by
  intro n
  induction n with
  | zero => intro i h1 h2; omega
  | succ n ih =>
    intro i h1 h2
    show f_slices_Index_Message_b2 Try.prog T D N (f_slices_Index_Message_L2 Try.prog T D N x0 xr n) x0 xr _ _ _ _ h = _
    unfold f_slices_Index_Message_b2
    rcases Nat.lt_or_ge i l.length with hi | hi
    · have hx : l[i]? = some l[i] := List.getElem?_eq_getElem hi
      have hlt : ((i : Int) < (l.length : Int)) := by omega
      have hw : IntKind.i64.wrap ((i : Int) + 1) = ((i + 1 : Nat) : Int) := by rw [wrap64 (by omega) (by omega)]; omega
      have hpx := fun k => heq v l[i] h k
      have h3 := ih (i + 1) hi (by omega)
      have ic : ∀ k : Go.AM.K β, iaK 7 (.lst 7 b (l.map encM)) (I i) k = k (.ep (encM l[i]) 0) := fun k => iaK_at i rfl hx k
      have ld : ∀ k : Go.AM.K β, ldK 7 true (.ep (encM l[i]) 0) h k = k ((fun y => .agg (encM y)) l[i]) := fun k => by simp [encM]
      rw [List.drop_eq_getElem_cons hi, List.findIdx?_cons]
      have lv : ∀ k : Go.AM.K β, ldK 7 true (.ptr m 0 0 1) h k = k ((fun x => .agg (encM x)) v) := fun k => by simp [hm, encM]
      dsimp only at h3 ld lv ⊢
      simp only [arithK_lss, hlt, decide_true, condK_bool, if_true, ic, ld, lv, hpx]
      cases hc : (v == l[i]) with
      | true => simp
      | false =>
        simp only [Bool.false_eq_true, if_false, arithK_add, hw]
        refine h3.trans ?_
        cases (List.drop (i + 1) l).findIdx? (fun y => v == y) with
        | none => rfl
        | some j =>
          show xr (I ((i + 1 + j : Nat) : Int)) h = xr (I ((i + (j + 1) : Nat) : Int)) h
          rw [show i + 1 + j = i + (j + 1) by omega]
    · have : i = l.length := by omega
      subst this
      simp
theorem F_slices_Contains_Message_val (l : List Msg) (b : Bool) (v : Msg) (hl : l.length < 1000000) (heq : ∀ (x y : Msg) (h : Hp) (k : Go.AM.K AV), eqK Try.prog false 31 (.agg (encM x)) (.agg (encM y)) h k = k (B (x == y))) (h : Hp) : F_slices_Contains_Message [.lst 7 b (l.map encM), (fun x => .agg (encM x)) v] h = some (B (l.contains v), h) := by
  have e : ∀ h, F_slices_Index_Message [.lst 7 b (l.map encM), (fun x => .agg (encM x)) v] h = some (I (match l.findIdx? (fun y => v == y) with | some j => (j : Int) | none => -1), h) :=
    F_slices_Index_Message_run rfl (by
      have := Index_Message_L2 (l := l) (T := t_slices_Index_Message) (D := d_slices_Index_Message) (N := NN) (b := b) (v := v) (h := [.arr 7 [encM v] true false]) (m := 0) (x0 := fun h => f_slices_Index_Message_j1 Try.prog t_slices_Index_Message d_slices_Index_Message NN (fun v g => cvt false g v) h) (xr := fun a h => cvt false h a) rfl (by omega) heq NN 0 (Nat.zero_le _) (by have := NN_ge; omega)
      have bx : ∀ k : AV → Hp → Option AV, effK (boxE 7 ((fun x => .agg (encM x)) v) ([] : Hp).length) [] k = k (.ptr 0 0 0 1) [.arr 7 [encM v] true false] := fun k => by simp [boxE, encM]
      simp only [nrm, nrmC, f_slices_Index_Message, lenK_lst, List.length_map, bx]
      simp only [List.drop_zero] at this
      refine this.trans ?_
      cases l.findIdx? (fun y => v == y) with
      | none => rfl
      | some j => simp)
  have bx : ∀ k : AV → Hp → Option AV, effK (boxE 7 ((fun x => .agg (encM x)) v) ([] : Hp).length) [] k = k (.ptr 0 0 0 1) [.arr 7 [encM v] true false] := fun k => by simp [boxE, encM]
  have lv : ∀ k : Go.AM.K AV, ldK 7 true (.ptr 0 0 0 1) [.arr 7 [encM v] true false] k = k ((fun x => .agg (encM x)) v) := fun k => by simp [encM]
  refine F_slices_Contains_Message_run rfl ?_ h
  simp only [nrm, nrmC, f_slices_Contains_Message, bx, lv, t_slices_Contains_Message_60, callK_F, e]
  have : l.contains v = (l.findIdx? (fun y => v == y)).isSome := by rw [List.findIdx?_isSome, List.contains_eq_any_beq]
  rw [this]
  cases l.findIdx? (fun y => v == y) <;> simp
end
attribute [local congr] arithK_cg eqK_cg notK_cg convK_cg pickK_cg buildK_cg ldK_cg nilK_cg sliceK_cg faK_cg fldK_cg iaK_cg iaA_cg lookK_cg capK_cg exK_cg lenK_cg minK_cg maxK_cg effK_cg callK_cg callVK_cg effD_cg gopD_cg grpK_cg condK_cg cond_cg
theorem contains_M {o : List Msg} {m : Msg} {h : Hp} {v a : AV} {b : Bool} (hl : o.length < 1000000) (hv : cvt false h v = some a) (ha : nrm (.l 7) a = .lst 7 b (o.map encM)) : F_slices_Contains_Message [v, .agg (encM m)] h = some (B (o.contains m), h) :=
  closedX_scal' (as' := [a, .agg (encM m)]) (asl := [.lst 7 b (o.map encM), .agg (encM m)]) (by simp only [cvts_cons, cvts_nil, hv]; rfl) (by simp only [nrms, ha]; rfl) rfl (F_slices_Contains_Message_val o b m hl (fun x y h k => by rw [eqs_Me, Bool.false_xor]) []) rfl
def uniqM : List Msg → List Envl → List Msg
  | o, [] => o
  | o, e :: r => if o.contains e.msg = true then uniqM o r else uniqM (o ++ [e.msg]) r
theorem uniqM_len : ∀ (r : List Envl) (o : List Msg), (uniqM o r).length ≤ o.length + r.length
  | [], o => by simp [uniqM]
  | e :: r, o => by
    have h1 := uniqM_len r o
    have h2 := uniqM_len r (o ++ [e.msg])
    rw [List.length_append] at h2
    simp only [uniqM, List.length_cons, List.length_nil] at h2 ⊢
    split <;> omega
theorem Known_L2 {E : List Envl} {b : Bool} {base : Nat} (hl : E.length < 100000) : ∀ (n i : Nat) (v : AV) (h : Hp) (o : List Msg), i ≤ E.length → E.length < i + n → Gro 7 encM h v o → o.length ≤ i → (∀ k, idOf v = some k → base ≤ k) → base ≤ h.length →
    ∃ v' h', (∀ {β : Type} (x0 : AV → Hp → Option β), f_network_Known_L2 Try.prog t_network_Known d_network_Known NN x0 n v (.lst 10 b (E.map encV)) (I E.length) (I i) h = x0 v' h') ∧ Gro 7 encM h' v' (uniqM o (E.drop i)) ∧ (∀ j < base, h'[j]? = h[j]?) := by
  intro n
  induction n with
  | zero => intro i v h o h1 h2; omega
  | succ n ih =>
    intro i v h o h1 h2 G ho hv hb
    rcases Nat.lt_or_ge i E.length with hi | hi
    · have hx : E[i]? = some E[i] := List.getElem?_eq_getElem hi
      rw [List.drop_eq_getElem_cons hi]
      generalize E[i] = e at hx
      have hlt : ((i : Int) < (E.length : Int)) := by omega
      have hw : IntKind.i64.wrap ((i : Int) + 1) = ((i + 1 : Nat) : Int) := by rw [wrap64 (by omega) (by omega)]; omega
      obtain ⟨x, hhx⟩ : ∃ x, x = h ++ [AObj.arr 10 [encV e] true false] := ⟨_, rfl⟩
      have Gx : Gro 7 encM x v o := by rw [hhx]; exact G.app _
      obtain ⟨w, w1, w2⟩ := Gx.cvts (fun x st => by cases st <;> simp [encM, isS])
      have fc := contains_M (m := e.msg) (by omega) (w1 false) w2
      have hxl : x.length = h.length + 1 := by rw [hhx]; simp
      simp only [uniqM]
      cases hk : o.contains e.msg with
      | true =>
        rw [if_pos rfl]
        obtain ⟨v', h', a1, a2, a3⟩ := ih (i + 1) v x o hi (by omega) Gx (by omega) hv (by omega)
        refine ⟨v', h', fun {β} x0 => ?_, a2, fun j hj => by rw [a3 j hj, hhx, List.getElem?_append_left (by omega)]⟩
        rw [← a1 x0]
        have ic : ∀ k : Go.AM.K β, iaK 10 (.lst 10 b (E.map encV)) (I i) k = k (.ep (encV e) 0) := fun k => iaK_at i rfl hx k
        have ld : ∀ k : Go.AM.K β, ldK 10 true (.ep (encV e) 0) h k = k (.agg (encV e)) := fun k => rfl
        have ns : ∀ k : AV → Hp → Option β, effK (stE 10 (.ptr h.length 0 0 1) (.agg (encV e)) (h ++ [.arr 10 [zE] true false])) (h ++ [.arr 10 [zE] true false]) k = k .u x := fun k => by rw [hhx]; exact nst k
        have m3 : ∀ k : Go.AM.K β, ldK 7 true (.ptr h.length 0 3 1) x k = k (.agg (encM e.msg)) := fun k => by rw [hhx]; exact nl3 k
        show f_network_Known_b2 Try.prog t_network_Known d_network_Known NN (f_network_Known_L2 Try.prog t_network_Known d_network_Known NN x0 n) x0 _ _ _ _ h = _
        simp -implicitDefEqProofs only [f_network_Known_b2, arithK_lss, hlt, decide_true, condK_bool, if_true, ic, ld, nbx, ns, faK_ptr, Nat.zero_add, m3, t_network_Known_37, callK_F, fc, hk, notK_bool, Bool.not_true, Bool.false_eq_true, if_false, f_network_Known_j4, f_network_Known_j3, arithK_add, hw]
      | false =>
        rw [if_neg (by simp)]
        obtain ⟨v1, e1, g1, g2, g3, g4, g5⟩ := Gro.snocE (f := encM) (sz := 7) (h := x ++ [AObj.arr 7 [encM e.msg] true false]) (Gx.app [AObj.arr 7 [encM e.msg] true false]) (by_ := 56) (m := x.length) (z := e.msg) (b := true) (by rw [get_new0]; rfl) (fun hk => by have := Gx.lt hk; omega) (fun x _ => rfl) (by omega)
        obtain ⟨v', h', a1, a2, a3⟩ := ih (i + 1) v1 (ap (x ++ [.arr 7 [encM e.msg] true false]) e1) (o ++ [e.msg]) hi (by omega) g2 (by simp; omega) (fun k hk => by
          rcases g5 with q | q
          · exact hv k (q ▸ hk)
          · rw [q] at hk; simp at hk; omega) (by simp at g3; omega)
        have kp : ∀ j < base, (ap (x ++ [.arr 7 [encM e.msg] true false]) e1)[j]? = h[j]? := fun j hj => by
          have hjh : j < h.length := by omega
          have hg : h[j]? = some h[j] := List.getElem?_eq_getElem hjh
          rw [hg]
          refine g4 j _ (get_app (by rw [hhx]; exact get_app hg)) fun hk => ?_
          have := hv j hk; omega
        refine ⟨v', h', fun {β} x0 => ?_, a2, fun j hj => by rw [a3 j hj, kp j hj]⟩
        rw [← a1 x0]
        have ic : ∀ k : Go.AM.K β, iaK 10 (.lst 10 b (E.map encV)) (I i) k = k (.ep (encV e) 0) := fun k => iaK_at i rfl hx k
        have ld : ∀ k : Go.AM.K β, ldK 10 true (.ep (encV e) 0) h k = k (.agg (encV e)) := fun k => rfl
        have ns : ∀ k : AV → Hp → Option β, effK (stE 10 (.ptr h.length 0 0 1) (.agg (encV e)) (h ++ [.arr 10 [zE] true false])) (h ++ [.arr 10 [zE] true false]) k = k .u x := fun k => by rw [hhx]; exact nst k
        have m3 : ∀ k : Go.AM.K β, ldK 7 true (.ptr h.length 0 3 1) x k = k (.agg (encM e.msg)) := fun k => by rw [hhx]; exact nl3 k
        have bs : ∀ k : AV → Hp → Option β, effK (bsE 7 zM 1 [(0, .agg (encM e.msg))] x.length) x k = k (.sl 7 x.length 0 1 1 true) (x ++ [.arr 7 [encM e.msg] true false]) := fun k => by simp [bsE, fillS, encM, effK, ap]
        have ae : ∀ k : AV → Hp → Option β, effK (appE 7 56 v (.sl 7 x.length 0 1 1 true) (x ++ [.arr 7 [encM e.msg] true false]) (x ++ [AObj.arr 7 [encM e.msg] true false]).length) (x ++ [.arr 7 [encM e.msg] true false]) k = k v1 (ap (x ++ [.arr 7 [encM e.msg] true false]) e1) := fun k => by rw [g1]; rfl
        show f_network_Known_b2 Try.prog t_network_Known d_network_Known NN (f_network_Known_L2 Try.prog t_network_Known d_network_Known NN x0 n) x0 _ _ _ _ h = _
        simp -implicitDefEqProofs only [f_network_Known_b2, arithK_lss, hlt, decide_true, condK_bool, if_true, ic, ld, nbx, ns, faK_ptr, Nat.zero_add, m3, t_network_Known_37, callK_F, fc, hk, notK_bool, Bool.not_false, bs, ae, f_network_Known_j4, f_network_Known_j3, arithK_add, hw]
    · have : i = E.length := by omega
      subst this
      refine ⟨v, h, fun {β} x0 => ?_, by rw [List.drop_length]; exact G, fun _ _ => rfl⟩
      have c1 : ¬ ((E.length : Int) < (E.length : Int)) := by omega
      show f_network_Known_b2 Try.prog t_network_Known d_network_Known NN (f_network_Known_L2 Try.prog t_network_Known d_network_Known NN x0 n) x0 _ _ _ _ h = _
      simp -implicitDefEqProofs only [f_network_Known_b2, arithK_lss, c1, decide_false, condK_bool, Bool.false_eq_true, if_false]
def knS (l : List Envl) (sch : List Int) (node : Int) : List Msg × Int := if (toS l sch node).2 ≠ 0 then ([], (toS l sch node).2) else if errM (uniqM [] (toS l sch node).1) = 0 then (normL (uniqM [] (toS l sch node).1), 0) else ([], errM (uniqM [] (toS l sch node).1))
theorem toS_len (l : List Envl) (sch : List Int) (node : Int) : (toS l sch node).1.length ≤ sch.length := by
  have := toL_len l sch node
  unfold toS
  split
  · simp
  · split
    · simp
    · exact this
theorem Known_key (l : List Envl) (b : Bool) (sch : List Int) {b2 : Bool} (node : Int) (hl : l.length < 1000000) (hs : sch.length < 100000) {h : Hp} {v a : AV} (hv : cvt false h v = some a) (ha : nrm (.l 1) a = .lst 1 b2 (sch.map enI)) :
    ∃ w h', (∀ {β : Type} (K : AV → Hp → Option β), f_network_Known Try.prog t_network_Known d_network_Known NN K (.lst 10 b (l.map encV)) v (I node) h = K (.tup [w, I (knS l sch node).2]) h') ∧ (w = nilS ∨ ∃ x, w = .lst 7 x ((knS l sch node).1.map encM)) ∧ nrm (.l 7) w = .lst 7 (knS l sch node).1.isEmpty ((knS l sch node).1.map encM) ∧ ∀ j < h.length, h'[j]? = h[j]? := by
  have ft := F_network_to_at l b sch node hl (by omega) hv ha
  have hlen := toS_len l sch node
  by_cases q : (toS l sch node).2 = 0
  · have e1 : ((toS l sch node).2 == 0) = true := by simpa using q
    obtain ⟨E, hE⟩ : ∃ E, E = (toS l sch node).1 := ⟨_, rfl⟩
    rw [← hE] at hlen
    obtain ⟨v', h', a1, a2, a3⟩ := Known_L2 (E := E) (b := E.isEmpty) (base := h.length) (by omega) NN 0 nilS h [] (by omega) (by have := NN_ge; omega) .nil (by simp) (by simp) (Nat.le_refl _)
    rw [List.drop_zero] at a2
    have hu := uniqM_len E []
    simp only [List.length_nil, Nat.zero_add] at hu
    obtain ⟨w, w1, w2⟩ := a2.cvts (fun x st => by cases st <;> simp [encM, isS])
    have fN := F_document_Normal_at (uniqM [] E) (b := true) (by omega) (h := h') (v := v') (a := w) (by simp only [cvts_cons, cvts_nil, w1]) (by rw [w2]; rfl)
    have hS : knS l sch node = if errM (uniqM [] E) = 0 then (normL (uniqM [] E), 0) else ([], errM (uniqM [] E)) := by unfold knS; rw [if_neg (by simp [q]), hE]
    refine ⟨if errM (uniqM [] E) = 0 then SLm true (normL (uniqM [] E)) else .lst 7 true [], h', fun {β} K => ?_, ?_, ?_, a3⟩
    · have x0 : ∀ k : Go.AM.K β, exK (dlvV l sch node) 0 k = k (.lst 10 E.isEmpty (E.map encV)) := fun k => by rw [hE]; rfl
      have x1 : ∀ k : Go.AM.K β, exK (dlvV l sch node) 1 k = k (I (toS l sch node).2) := fun k => rfl
      have y0 : ∀ k : Go.AM.K β, exK (normR true (uniqM [] E)) 0 k = k (if errM (uniqM [] E) = 0 then SLm true (normL (uniqM [] E)) else .lst 7 true []) := fun k => rfl
      have y1 : ∀ k : Go.AM.K β, exK (normR true (uniqM [] E)) 1 k = k (I (errM (uniqM [] E))) := fun k => rfl
      have hS2 : (knS l sch node).2 = errM (uniqM [] E) := by rw [hS]; by_cases z : errM (uniqM [] E) = 0 <;> simp [z]
      rw [hS2]
      simp -implicitDefEqProofs only [f_network_Known, t_network_Known_49, callK_F, ft, x0, x1, eqK_int, e1, Bool.true_xor, Bool.not_true, condK_bool, Bool.false_eq_true, if_false, lenK_lst, List.length_map]
      refine (a1 _).trans ?_
      simp -implicitDefEqProofs only [f_network_Known_j1, t_network_Known_38, callK_F, fN, y0, y1]
    · rw [hS]
      by_cases z : errM (uniqM [] E) = 0
      · exact .inr ⟨true && (normL (uniqM [] E)).isEmpty, by simp only [if_pos z]⟩
      · exact .inr ⟨true, by simp only [if_neg z]; rfl⟩
    · rw [hS]
      by_cases z : errM (uniqM [] E) = 0
      · simp only [if_pos z]; rfl
      · simp only [if_neg z]; rfl
  · have e1 : ((toS l sch node).2 == 0) = false := by simpa using q
    have hS : knS l sch node = ([], (toS l sch node).2) := if_pos q
    rw [hS]
    refine ⟨nilS, h, fun {β} K => ?_, .inl rfl, rfl, fun _ _ => rfl⟩
    have x0 : ∀ k : Go.AM.K β, exK (dlvV l sch node) 0 k = k (.lst 10 (toS l sch node).1.isEmpty ((toS l sch node).1.map encV)) := fun k => rfl
    have x1 : ∀ k : Go.AM.K β, exK (dlvV l sch node) 1 k = k (I (toS l sch node).2) := fun k => rfl
    simp -implicitDefEqProofs only [f_network_Known, t_network_Known_49, callK_F, ft, x0, x1, eqK_int, e1, Bool.true_xor, Bool.not_false, condK_bool, if_true]
end Go.AM


namespace Go.AM
open Go.Proofs
set_option linter.unusedVariables false
set_option linter.unusedSimpArgs false
set_option linter.constructorNameAsVariable false
theorem ltM_irrefl (a : Msg) : ltM a a = false := ltZ_irrefl _
theorem ltM_trans {a b c : Msg} (h1 : ltM a b = true) (h2 : ltM b c = true) : ltM a c = true := ltZ_trans (n := 7) rfl rfl rfl h1 h2
theorem ltM_total {a b : Msg} (h1 : ltM a b = false) (h2 : ltM b a = false) : a = b := by
  have := ltZ_total (n := 7) (a := cellsM a) (b := cellsM b) rfl rfl h1 h2
  obtain ⟨a0, a1, a2, a3, a4, a5, a6⟩ := a
  obtain ⟨b0, b1, b2, b3, b4, b5, b6⟩ := b
  simpa [cellsM] using this
theorem ltM_asymm {a b : Msg} (h : ltM a b = true) : ltM b a = false := by
  cases h2 : ltM b a with
  | false => rfl
  | true => have := ltM_trans h h2; rw [ltM_irrefl] at this; cases this
abbrev Srt (l : List Msg) : Prop := l.Pairwise fun a b => ltM a b = true
theorem srt_unique : ∀ {a b : List Msg}, Srt a → Srt b → (∀ x, x ∈ a ↔ x ∈ b) → a = b
  | [], [], _, _, _ => rfl
  | [], y :: b, _, _, h => by have := (h y).2 (by simp); simp at this
  | x :: a, [], _, _, h => by have := (h x).1 (by simp); simp at this
  | x :: a, y :: b, ha, hb, h => by
    rw [Srt, List.pairwise_cons] at ha hb
    have e : x = y := by
      rcases List.mem_cons.1 ((h x).1 (by simp)) with e | h1
      · exact e
      · rcases List.mem_cons.1 ((h y).2 (by simp)) with e | h2
        · exact e.symm
        · have h3 := hb.1 x h1
          have h4 := ha.1 y h2
          have := ltM_asymm h3
          rw [h4] at this
          cases this
    subst e
    rw [srt_unique ha.2 hb.2 fun z => ?_]
    have hz := h z
    simp only [List.mem_cons] at hz
    constructor
    · intro hm
      rcases hz.1 (.inr hm) with rfl | h1
      · have := ha.1 z hm; rw [ltM_irrefl] at this; cases this
      · exact h1
    · intro hm
      rcases hz.2 (.inr hm) with rfl | h1
      · have := hb.1 z hm; rw [ltM_irrefl] at this; cases this
      · exact h1
theorem mem_compL : ∀ {l : List Msg} {x : Msg}, x ∈ compL l ↔ x ∈ l
  | [], x => by simp [compL]
  | [a], x => by simp [compL]
  | a :: b :: l, x => by
    have ih := @mem_compL (b :: l) x
    simp only [compL]
    split
    · rename_i e
      subst e
      rw [ih]; simp
    · rw [List.mem_cons, ih, List.mem_cons (a := x) (b := a)]
theorem srt_compL : ∀ {l : List Msg}, l.Pairwise (fun a b => ltM b a = false) → Srt (compL l)
  | [], _ => by simp [compL]
  | [a], _ => by simp [compL]
  | a :: b :: l, h => by
    rw [List.pairwise_cons] at h
    have ih := srt_compL h.2
    simp only [compL]
    split
    · exact ih
    · rename_i hne
      rw [Srt, List.pairwise_cons]
      refine ⟨fun x hx => ?_, ih⟩
      rw [mem_compL] at hx
      cases h1 : ltM a x with
      | true => rfl
      | false =>
        have e := ltM_total h1 (h.1 x hx)
        subst e
        rcases List.mem_cons.1 hx with e | hx
        · exact absurd e hne
        · rw [List.pairwise_cons] at h
          exact absurd (ltM_total (h.2.1 a hx) (h.1 b (by simp))) hne
theorem sortM_pw (l : List Msg) : (sortM l).Pairwise fun a b => ltM b a = false := by
  have := List.pairwise_mergeSort (le := fun x y : Msg => !ltM y x) (fun a b c h1 h2 => ?_) (fun a b => ?_) l
  · exact this.imp fun h => by simpa using h
  · simp only [Bool.not_eq_true'] at h1 h2 ⊢
    cases h3 : ltM c a with
    | false => rfl
    | true =>
      cases h4 : ltM a b with
      | true => rw [ltM_trans h3 h4] at h2; cases h2
      | false =>
        have := ltM_total h4 h1
        subst this
        rw [h3] at h2; cases h2
  · cases h1 : ltM b a with
    | false => rfl
    | true => simp [ltM_asymm h1]
theorem mem_sortM {l : List Msg} {x : Msg} : x ∈ sortM l ↔ x ∈ l := by
  unfold sortM
  exact (List.mergeSort_perm l _).mem_iff
theorem normL_srt (l : List Msg) : Srt (normL l) := srt_compL (sortM_pw l)
theorem mem_normL {l : List Msg} {x : Msg} : x ∈ normL l ↔ x ∈ l := by unfold normL; rw [mem_compL, mem_sortM]
theorem normL_eq {l o : List Msg} (h1 : Srt o) (h2 : ∀ x, x ∈ o ↔ x ∈ l) : o = normL l := srt_unique h1 (normL_srt l) fun x => by rw [h2, mem_normL]
theorem normL_congr {l m : List Msg} (h : ∀ x, x ∈ l ↔ x ∈ m) : normL l = normL m := normL_eq (normL_srt l) fun x => by rw [mem_normL, h]
theorem errM_zero {l : List Msg} : errM l = 0 ↔ l.length ≤ 64 ∧ ∀ m ∈ l, checkM m = 0 := by
  unfold errM
  constructor
  · intro h
    split at h
    · simp at h
    · split at h
      · simp at h
      · rename_i h1 h2
        refine ⟨by omega, fun m hm => ?_⟩
        simp only [Bool.not_eq_true, List.any_eq_false] at h2
        simpa using h2 m hm
  · rintro ⟨h1, h2⟩
    rw [if_neg (by omega), if_neg]
    simp only [Bool.not_eq_true, List.any_eq_false]
    intro m hm
    simpa using h2 m hm
end Go.AM


namespace Go.AM
open Go.Proofs
set_option linter.unusedVariables false
set_option linter.unusedSimpArgs false
set_option linter.constructorNameAsVariable false
set_option maxRecDepth 20000
abbrev SL {α : Type} (sz : Nat) (f : α → List AV) (b : Bool) (l : List α) : AV := .lst sz (b && l.isEmpty) (l.map f)
section
variable {β : Type} {P : Program} {T : Tab} {D : DTab} {N : Nat} {K : AV → Hp → Option β}
theorem F_slices_Clone_Envelope_val (l : List Envl) (b : Bool) (hl : l.length < 1000000) (h : Hp) : F_slices_Clone_Envelope [SL 10 encV b l] h = some (SL 10 encV b l, h) := by
  refine (F_slices_Clone_Envelope_run (v := if b && l.isEmpty then nilS else SL 10 encV b l) rfl ?_ h).trans ?_
  · by_cases hb : (b && l.isEmpty) = true
    · simp [f_slices_Clone_Envelope, hb]
    · have hb' : (b && l.isEmpty) = false := by simpa using hb
      have hle : l.length * 80 ≤ 140737488355328 := by omega
      have h2 : ((l.map encV).all fun e => e.length == 10) = true := by simp [encV]
      have h3 : okE false (l.map encV) = true := okE_map (by intro x; simp [encV])
      simp [f_slices_Clone_Envelope, hb', bsE, fillS, appE, readSl, hle, h2, ap]
      rw [cvt_whole rfl (by simp) (by simp) h3, SL, hb']
  · by_cases hb : (b && l.isEmpty) = true
    · obtain ⟨rfl, hl0⟩ := Bool.and_eq_true_iff.1 hb
      have : l = [] := by simpa using hl0
      subst this
      rfl
    · rw [if_neg hb]
      rfl
end
attribute [local congr] arithK_cg eqK_cg notK_cg convK_cg pickK_cg buildK_cg ldK_cg nilK_cg sliceK_cg faK_cg fldK_cg iaK_cg iaA_cg lookK_cg capK_cg exK_cg lenK_cg minK_cg maxK_cg effK_cg callK_cg callVK_cg effD_cg gopD_cg grpK_cg condK_cg cond_cg
abbrev g1 : Envl := ⟨1, 2, 1, ⟨1, 1, 0, 0, 1, 2, 10⟩⟩
abbrev g2 : Envl := ⟨1, 2, 2, ⟨2, 1, 0, 0, 1, 2, 10⟩⟩
abbrev g3 : Envl := ⟨1, 2, 3, ⟨3, 1, 0, 0, 1, 2, 10⟩⟩
abbrev exE : List Envl := [g1, g2, g3]
theorem exE_L (T : Tab) (D : DTab) (N n : Nat) : f_law41_example_L2 Try.prog T D N (fun w11_1 h => f_law41_example_j1 Try.prog T D N (fun v g => cvt false g v) w11_1 h) (n + 4) nilS (I 0) [] = some (.lst 10 false (exE.map encV)) := by kernel_rfl
theorem F_law41_example_val (h : Hp) : F_law41_example [] h = some (.lst 10 false (exE.map encV), h) := by
  refine (F_law41_example_run (v := .lst 10 false (exE.map encV)) rfl ?_ h).trans rfl
  obtain ⟨n, hn⟩ : ∃ n, NN = n + 4 := ⟨NN - 4, by have := NN_ge; omega⟩
  refine Eq.trans ?_ (exE_L t_law41_example d_law41_example NN n)
  rw [← hn]
  rfl
abbrev exS : List Int := [2, 0, 2]
theorem ex_to : toS exE exS 2 = ([g3, g1, g3], 0) := by decide +kernel
theorem ex_lost : lostS exE exS = ([1], 0) := by decide +kernel
theorem ex_rep : repS exE exS = (1, 0) := by decide +kernel
theorem ex_cro : croS exE exS = (1, 0) := by decide +kernel
theorem ex_uniq : uniqM [] [g3, g1, g3] = [g3.msg, g1.msg] := by decide +kernel
theorem ex_normN : normL [g3.msg, g1.msg] = [g1.msg, g3.msg] := by
  refine (normL_eq (o := [g1.msg, g3.msg]) (by decide) fun x => ?_).symm
  simp only [List.mem_cons, List.not_mem_nil, or_false]
  constructor
  · rintro (h | h) <;> simp [h]
  · rintro (h | h) <;> simp [h]
theorem ex_kn : knS exE exS 2 = ([g1.msg, g3.msg], 0) := by
  unfold knS
  rw [ex_to]
  simp only [ne_eq, not_true_eq_false, if_false]
  rw [ex_uniq, if_pos (by decide +kernel), ex_normN]
theorem eqI_L (T : Tab) (D : DTab) (N n : Nat) : f_slices_Equal_int_L2 Try.prog T D N (fun h => f_slices_Equal_int_j1 Try.prog T D N (fun v g => cvt false g v) h) (fun w13_4 h => cvt false h w13_4) (n + 2) (.lst 1 false [[I 1]]) (.lst 1 false [[I 1]]) (I 1) (I 0) [] = some (B true) := by kernel_rfl
theorem eq_one (h : Hp) : F_slices_Equal_int [.lst 1 false [[I 1]], .lst 1 false [[I 1]]] h = some (B true, h) := by
  refine F_slices_Equal_int_run rfl ?_ h
  obtain ⟨n, hn⟩ : ∃ n, NN = n + 2 := ⟨NN - 2, by have := NN_ge; omega⟩
  refine Eq.trans ?_ (eqI_L t_slices_Equal_int d_slices_Equal_int NN n)
  rw [← hn]
  rfl
theorem F_law41_awake_val (h : Hp) : F_law41_awake [] h = some (B true, h) := by
  refine F_law41_awake_run rfl ?_ h
  obtain ⟨H, hH⟩ : ∃ H : Hp, H = [.arr 1 [[I 2], [I 0], [I 2]] true false] := ⟨_, rfl⟩
  have bs : ∀ k : AV → Hp → Option AV, effK (bsE 1 [.s (.int .i64 0)] 3 [(0, .s (.int .i64 2)), (1, .s (.int .i64 0)), (2, .s (.int .i64 2))] 0) [] k = k (.sl 1 0 0 3 3 true) H := fun k => by rw [hH]; rfl
  have cv : cvt false H (.sl 1 0 0 3 3 true) = some (.lst 1 false (exS.map enI)) := by rw [hH]; exact cvt_whole (es := exS.map enI) rfl rfl rfl (okE_map fun x => by simp)
  have ft := F_network_to_at exE false exS (b2 := false) 2 (by decide) (by decide) cv rfl
  have fd : R_network_Deliver [.lst 10 false (exE.map encV), .sl 1 0 0 3 3 true, I 2] H = some (dlvV exE exS 2, H) := by
    rw [R_network_Deliver_raw]
    simp -implicitDefEqProofs only [f_network_Deliver, t_network_Deliver_49, callK_F, ft]
    rfl
  have fl := F_network_Lost_at exE false exS (b2 := false) (by decide) (by decide) cv rfl
  have fr := F_network_Repeated_at exE false exS (b2 := false) (by decide) (by decide) cv rfl
  have fc := F_network_Crossed_at exE false exS (b2 := false) (by decide) (by decide) cv rfl
  obtain ⟨w, h', k1, -, k3, k4⟩ := Known_key exE false exS (b2 := false) 2 (by decide) (by decide) cv rfl
  rw [ex_kn] at k1 k3
  have fk : R_network_Known [.lst 10 false (exE.map encV), .sl 1 0 0 3 3 true, I 2] H = some (.tup [w, I 0], h') := by
    rw [R_network_Known_raw]
    exact k1 _
  have hwl : ∀ k : Go.AM.K AV, lenK w k = k (I 2) := fun k => by
    cases w with
    | s v =>
      by_cases hv : v = .slice none 0 0
      · subst hv; simp [nrm, nrmC] at k3
      · exfalso
        have : nrm (.l 7) (.s v) = .s v := by
          cases v <;> try rfl
          rename_i a b c
          cases a <;> try rfl
          cases b <;> try rfl
          cases c <;> try rfl
          exact absurd rfl hv
        rw [this] at k3
        simp at k3
    | lst sz nil es =>
      simp only [nrm, nrmC, AV.lst.injEq] at k3
      obtain ⟨-, -, rfl⟩ := k3
      rfl
    | _ => simp [nrm, nrmC] at k3
  have fe := F_law41_example_val
  have x0 : ∀ k : Go.AM.K AV, exK (dlvV exE exS 2) 0 k = k (.lst 10 false ([g3, g1, g3].map encV)) := fun k => by unfold dlvV; rw [ex_to]; rfl
  have x1 : ∀ k : Go.AM.K AV, exK (dlvV exE exS 2) 1 k = k (I 0) := fun k => by unfold dlvV; rw [ex_to]; rfl
  rw [ex_lost] at fl
  rw [ex_rep] at fr
  rw [ex_cro] at fc
  have tp : ∀ (a b : AV) (k : Go.AM.K AV), exK (.tup [a, b]) 0 k = k a := fun a b k => rfl
  have tq : ∀ (a b : AV) (k : Go.AM.K AV), exK (.tup [a, b]) 1 k = k b := fun a b k => rfl
  have i0 : ∀ k : Go.AM.K AV, iaK 10 (.lst 10 false ([g3, g1, g3].map encV)) (.s (.int .i64 0)) k = k (.ep (encV g3) 0) := fun k => rfl
  have i1 : ∀ k : Go.AM.K AV, iaK 10 (.lst 10 false ([g3, g1, g3].map encV)) (.s (.int .i64 1)) k = k (.ep (encV g1) 0) := fun k => rfl
  have ln : ∀ (h : Hp) (e : Envl) (k : Go.AM.K AV), ldK 1 false (.ep (encV e) 2) h k = k (I e.num) := fun h e k => rfl
  have bq : ∀ k : AV → Hp → Option AV, effK (bsE 1 [.s (.int .i64 0)] 1 [(0, .s (.int .i64 1))] h'.length) h' k = k (.sl 1 h'.length 0 1 1 true) (h' ++ [.arr 1 [[I 1]] true false]) := fun k => by simp [bsE, fillS, effK, ap]
  have fq : F_slices_Equal_int [.lst 1 ([1] : List Int).isEmpty (([1] : List Int).map enI), .sl 1 h'.length 0 1 1 true] (h' ++ [.arr 1 [[I 1]] true false]) = some (B true, h' ++ [.arr 1 [[I 1]] true false]) :=
    closedX_scal' (as' := [.lst 1 false [[I 1]], .lst 1 false [[I 1]]]) (asl := [.lst 1 false [[I 1]], .lst 1 false [[I 1]]]) (by
      have : cvt false (h' ++ [.arr 1 [[I 1]] true false]) (.sl 1 h'.length 0 1 1 true) = some (.lst 1 false [[I 1]]) := cvt_whole (es := [[I 1]]) (by rw [get_new0]; rfl) rfl rfl rfl
      simp only [cvts_cons, cvts_nil, this]
      rfl) rfl rfl (eq_one []) rfl
  have w0 : IntKind.i64.wrap (0 + 0) = 0 := by kernel_rfl
  simp -implicitDefEqProofs only [f_law41_awake, bs, t_law41_awake_45, t_law41_awake_15, t_law41_awake_22, t_law41_awake_24, t_law41_awake_26, t_law41_awake_18, t_law41_awake_46, callK_F, fe, fd, fl, fr, fc, fk, x0, x1, tp, tq, tupP, lenK_lst, List.length_map, List.length_cons, List.length_nil, eqK_int, Bool.false_xor, grpK_tt, i0, i1, faK_ep, Nat.zero_add, ln, beq_self_eq_true, bq, fq, hwl, arithK_add, w0, show (((0 + 1 + 1 + 1 : Nat) : Int) == 3) = true from rfl, show (((1 + 1 + 1 : Nat) : Int) == 3) = true from rfl, show (g3.num == 3) = true from rfl, show (g1.num == 1) = true from rfl, show (((0 + 1 + 1 : Nat) : Int) == 2) = true from rfl]
  rfl
end Go.AM


namespace Go.AM
open Go.RowKit
set_option linter.unusedVariables false
def mu0 (w : World) : Mu := ⟨fun _ => .virt none, w, fun k => k < w.heap.size⟩
theorem rel0 (w : World) : Rel (mu0 w) [] w where
  obj := fun id o h => by simp at h
  sep := fun i j o p b x c y d h => by simp at h
  apart := fun i sz es nil b x c h => by simp at h
  imm := fun k hk => ⟨hk, rfl, fun ⟨id, o, off, c, h, _⟩ => by simp at h⟩
theorem own0 (w : World) (b : Nat) : ¬ Own (mu0 w) [] b := fun ⟨id, o, off, c, h, _⟩ => by simp at h
theorem below0 {w w' : World} {μ' : Mu} {h' : Hp} (s : Step (mu0 w) [] w μ' h' w') : Below w.heap.size w w' :=
  ⟨s.frame.os, s.frame.tape, s.frame.output, s.frame.size, fun k hk => s.frame.block k hk (own0 w k)⟩
theorem row_calls {P : Program} {f : FuncId} {F : Fun} {args : List AV} {h' : Hp} {b : Bool} {W : World} {cargs : Array Value} (hc : CSound P f F) (hF : F args [] = some (.s (.bool b), h')) (hv : VRs (mu0 W) [] args cargs.toList) :
    Calls P f cargs W fun e W' => e = .returned (.bool b) ∧ Below W.heap.size W W' := by
  refine (hc args [] _ h' hF (mu0 W) W cargs (rel0 W) hv).2.mono fun e W' => ?_
  rintro ⟨cv, μ', rfl, s, hr⟩
  simp only [VR] at hr
  exact ⟨by rw [hr.2], below0 s⟩

inductive Ty where
  | int (k : IntKind)
  | bool
  | str
  | sl (e : List Ty)
def tyFs (f : TypeId → Option (List Ty)) (size : TypeId → Nat) : List Field → Nat → Option (List Ty)
  | [], _ => some []
  | x :: l, pos => match f x.type, tyFs f size l (pos + size x.type) with
    | some a, some b => if x.offset = pos ∧ a.length = size x.type then some (a ++ b) else none
    | _, _ => none
def tyOf (P : Program) : Nat → TypeId → Option (List Ty)
  | 0, _ => none
  | n + 1, t => match P.underlying t with
    | some .bool => some [.bool]
    | some (.int k) => some [.int k]
    | some .string => some [.str]
    | some (.slice e) => match tyOf P n e with
      | some l => if l.length = P.cellsOf e ∧ 0 < l.length then some [.sl l] else none
      | none => none
    | some (.struct fs) => match tyFs (tyOf P n) P.cellsOf fs.toList 0 with
      | some l => if l.length = P.cellsOf t then some l else none
      | none => none
    | some (.array m e) => match tyOf P n e with
      | some l => if l.length = P.cellsOf e ∧ m * P.cellsOf e = P.cellsOf t then some (List.replicate m l).flatten else none
      | none => none
    | _ => none
mutual
def HasT : Ty → AV → Prop
  | .int k, a => ∃ n, a = .s (.int k n) ∧ (Lit.int k n).wf = true
  | .bool, a => ∃ b, a = .s (.bool b)
  | .str, a => ∃ s : ByteArray, a = .s (.string s) ∧ s.size ≤ maxLen
  | .sl ts, a => ∃ nil es, a = .lst ts.length nil es ∧ (nil = true → es = []) ∧ es.length ≤ maxLen ∧ ∀ e ∈ es, HasTs ts e
def HasTs : List Ty → List AV → Prop
  | [], asl => asl = []
  | t :: ts, asl => ∃ a as', asl = a :: as' ∧ HasT t a ∧ HasTs ts as'
end
theorem HasTs.app : ∀ {ts us : List Ty} {asl bs : List AV}, HasTs ts asl → HasTs us bs → HasTs (ts ++ us) (asl ++ bs)
  | [], us, asl, bs, h, k => by simp only [HasTs] at h; subst h; exact k
  | t :: ts, us, asl, bs, h, k => by
    simp only [HasTs] at h
    obtain ⟨a, as', rfl, h1, h2⟩ := h
    simp only [List.cons_append, HasTs]
    exact ⟨a, _, rfl, h1, HasTs.app h2 k⟩
theorem HasTs.len : ∀ {ts : List Ty} {asl : List AV}, HasTs ts asl → asl.length = ts.length
  | [], asl, h => by simp only [HasTs] at h; subst h; rfl
  | t :: ts, asl, h => by
    simp only [HasTs] at h
    obtain ⟨a, as', rfl, h1, h2⟩ := h
    simp [HasTs.len h2]
theorem HasT.ok : ∀ {t : Ty} {a : AV}, HasT t a → okC a = true
  | .int k, a, h => by simp only [HasT] at h; obtain ⟨n, rfl, _⟩ := h; rfl
  | .bool, a, h => by simp only [HasT] at h; obtain ⟨n, rfl⟩ := h; rfl
  | .str, a, h => by simp only [HasT] at h; obtain ⟨n, rfl, _⟩ := h; rfl
  | .sl ts, a, h => by simp only [HasT] at h; obtain ⟨n, es, rfl, _⟩ := h; rfl
theorem HasTs.ok : ∀ {ts : List Ty} {asl : List AV}, HasTs ts asl → ∀ x ∈ asl, okC x = true
  | [], asl, h, x, hx => by simp only [HasTs] at h; subst h; simp at hx
  | t :: ts, asl, h, x, hx => by
    simp only [HasTs] at h
    obtain ⟨a, as', rfl, h1, h2⟩ := h
    rcases List.mem_cons.1 hx with rfl | hx
    · exact h1.ok
    · exact h2.ok x hx
theorem VRs_app' {μ : Mu} {h : Hp} : ∀ {asl bs : List AV} {cs ds : List Value}, VRs μ h asl cs → VRs μ h bs ds → VRs μ h (asl ++ bs) (cs ++ ds)
  | [], bs, cs, ds, h1, h2 => by simp only [VRs] at h1; subst h1; exact h2
  | a :: asl, bs, cs, ds, h1, h2 => by
    simp only [VRs] at h1
    obtain ⟨v, vs, rfl, h3, h4⟩ := h1
    simp only [List.cons_append, VRs]
    exact ⟨v, _, rfl, h3, VRs_app' h4 h2⟩
section
variable {H : Type} {enc : TypeId × Value → H} {P : Program} {w : World} {base : Nat} {spare : Nat → Bool} {held : Bool}
def Opened (w : World) (ts : List Ty) (cs : List Value) : Prop := ∃ asl, HasTs ts asl ∧ VRs (mu0 w) [] asl cs ∧ ∀ u ∈ cs, u.oneCell' = true
theorem open_one {t : Ty} {u : Value} {a : AV} (h1 : HasT t a) (h2 : VR (mu0 w) [] a u) (h3 : u.oneCell' = true) : Opened w [t] [u] :=
  ⟨[a], by simp only [HasTs]; exact ⟨a, [], rfl, h1, rfl⟩, by simp only [VRs]; exact ⟨u, [], rfl, h2, rfl⟩, by simpa using h3⟩
theorem open_fs {f : TypeId → Option (List Ty)} {g : TypeId → List Value → Prop} {cs : List Value} (hg : ∀ t ts cs', f t = some ts → g t cs' → Opened w ts cs') : ∀ (l : List Field) (pos : Nat) (ts : List Ty), tyFs f P.cellsOf l pos = some ts →
    (∀ x ∈ l, g x.type ((cs.drop x.offset).take (P.cellsOf x.type))) → Opened w ts ((cs.drop pos).take ts.length)
  | [], pos, ts, h, _ => by
    simp only [tyFs, Option.some.injEq] at h
    subst h
    exact ⟨[], rfl, rfl, by simp⟩
  | x :: l, pos, ts, h, hx => by
    simp only [tyFs] at h
    split at h
    · rename_i a b h1 h2
      split at h
      · rename_i hc
        simp only [Option.some.injEq] at h
        subst h
        obtain ⟨h3, h4⟩ := hc
        obtain ⟨asl, p1, p2, p3⟩ := hg _ _ _ h1 (hx x (by simp))
        obtain ⟨bs, q1, q2, q3⟩ := open_fs hg l _ b h2 (fun y hy => hx y (by simp [hy]))
        have e : (cs.drop pos).take (a ++ b).length = (cs.drop x.offset).take (P.cellsOf x.type) ++ (cs.drop (pos + P.cellsOf x.type)).take b.length := by
          rw [List.length_append, h4, h3, ← List.drop_drop, List.take_add]
        rw [e]
        refine ⟨asl ++ bs, p1.app q1, VRs_app' p2 q2, ?_⟩
        intro u hu
        rcases List.mem_append.1 hu with hu | hu
        · exact p3 u hu
        · exact q3 u hu
      · simp at h
    · simp at h
theorem open_arr {ts : List Ty} {sz : Nat} {cs : List Value} : ∀ (n i0 : Nat), (∀ i, i < n → Opened w ts ((cs.drop ((i0 + i) * sz)).take sz)) → Opened w (List.replicate n ts).flatten ((cs.drop (i0 * sz)).take (n * sz))
  | 0, i0, _ => ⟨[], rfl, by simp [VRs], by simp⟩
  | n + 1, i0, h => by
    obtain ⟨asl, p1, p2, p3⟩ := h 0 (by omega)
    obtain ⟨bs, q1, q2, q3⟩ := open_arr n (i0 + 1) (fun i hi => by have := h (i + 1) (by omega); rwa [show i0 + (i + 1) = i0 + 1 + i by omega] at this)
    have e : (cs.drop (i0 * sz)).take ((n + 1) * sz) = (cs.drop (i0 * sz)).take sz ++ (cs.drop ((i0 + 1) * sz)).take (n * sz) := by
      rw [show (n + 1) * sz = sz + n * sz by rw [Nat.add_mul]; omega, show (i0 + 1) * sz = i0 * sz + sz by rw [Nat.add_mul]; omega, ← List.drop_drop, List.take_add]
    rw [e, List.replicate_succ, List.flatten_cons]
    refine ⟨asl ++ bs, p1.app q1, VRs_app' p2 q2, ?_⟩
    intro u hu
    rcases List.mem_append.1 hu with hu | hu
    · exact p3 u hu
    · exact q3 u hu
theorem open_es {ts : List Ty} {sz b : Nat} (hts : ts.length = sz) : ∀ (n o : Nat), (∀ i, i < n → ∃ cs, Opened w ts cs ∧ cs.length = sz ∧ ∀ j u, cs[j]? = some u → w.cell? ⟨b, o + i * sz + j, none⟩ = some u) →
    ∃ es vs, es.length = n ∧ (∀ e ∈ es, HasTs ts e) ∧ VRf (mu0 w) [] es vs ∧ ∀ j u, vs[j]? = some u → w.cell? ⟨b, o + j, none⟩ = some u ∧ u.oneCell' = true
  | 0, o, h => ⟨[], [], rfl, by simp, rfl, by simp⟩
  | n + 1, o, h => by
    obtain ⟨cs, ⟨asl, h1, h2, h3⟩, h4, h5⟩ := h 0 (by omega)
    obtain ⟨es, vs, k1, k2, k3, k4⟩ := open_es hts n (o + sz) (fun i hi => by
      obtain ⟨cs', q1, q2, q3⟩ := h (i + 1) (by omega)
      refine ⟨cs', q1, q2, fun j u hu => ?_⟩
      rw [← q3 j u hu]
      congr 2
      rw [Nat.add_mul]; omega)
    refine ⟨asl :: es, cs ++ vs, by simp [k1], ?_, ?_, ?_⟩
    · intro e he
      rcases List.mem_cons.1 he with rfl | he
      · exact h1
      · exact k2 e he
    · simp only [VRf]; exact ⟨cs, vs, rfl, h2, k3⟩
    · intro j u hj
      by_cases hlt : j < cs.length
      · rw [List.getElem?_append_left hlt] at hj
        have := h5 j u hj
        exact ⟨by simpa using this, h3 u (List.mem_of_getElem? hj)⟩
      · rw [List.getElem?_append_right (by omega)] at hj
        have := k4 _ _ hj
        rw [show o + sz + (j - cs.length) = o + j by omega] at this
        exact this
theorem cell_lt {a : Addr} {v : Value} (h : w.cell? a = some v) : a.block < w.heap.size := by
  rcases Nat.lt_or_ge a.block w.heap.size with h1 | h1
  · exact h1
  · have : w.heap[a.block]? = none := by simpa using h1
    simp [World.cell?, this] at h
theorem open_cells : ∀ (fuel n : Nat) (t : TypeId) (ts : List Ty) (cs : List Value) (x : DataW H × List MemPlace), tyOf P n t = some ts → DataW.trod enc P w base spare held fuel t cs = some x → Opened w ts cs
  | 0, n, t, ts, cs, x, _, h => by simp [DataW.trod] at h
  | fuel + 1, 0, t, ts, cs, x, h0, _ => by simp [tyOf] at h0
  | fuel + 1, n + 1, t, ts, cs, x, h0, h => by
    unfold tyOf at h0
    cases hu : P.underlying t with
    | none => rw [hu] at h0; simp at h0
    | some T =>
      rw [hu] at h0
      cases T with
      | bool =>
        simp only [Option.some.injEq] at h0
        subst h0
        obtain ⟨b, rfl, _⟩ := DataW.trod_bool hu h
        exact open_one (a := .s (.bool b)) (by simp [HasT]) (by simp [VR, gv]) rfl
      | int k =>
        simp only [Option.some.injEq] at h0
        subst h0
        obtain ⟨m, rfl, _, hw⟩ := DataW.trod_int hu h
        exact open_one (a := .s (.int k m)) (by simp [HasT, hw]) (by simp [VR, gv]) rfl
      | string =>
        simp only [Option.some.injEq] at h0
        subst h0
        obtain ⟨s, rfl, _, hs⟩ := DataW.trod_string hu h
        exact open_one (a := .s (.string s)) (by simp [HasT, hs]) (by simp [VR, gv]) rfl
      | slice e =>
        simp only at h0
        cases he : tyOf P n e with
        | none => rw [he] at h0; simp at h0
        | some l =>
          rw [he] at h0
          simp only at h0
          split at h0
          · rename_i hl
            simp only [Option.some.injEq] at h0
            subst h0
            rcases DataW.trod_slice hu h with ⟨rfl, _⟩ | ⟨a, len, cap, elems, rest, m, hm, rfl, _, hb, h1, h2, h3, h4, _, _⟩
            · refine open_one (a := .lst l.length true []) ?_ ?_ rfl
              · simp only [HasT]; exact ⟨true, [], rfl, fun _ => rfl, by simp, by simp⟩
              · simp only [VR]
                exact ⟨none, 0, rfl, by simp, by simp, rfl, fun _ => rfl, by simp, by simp⟩
            · have hm' : m = fuel := by omega
              subst hm'
              have cell : ∀ i, i < len → ∃ cs, Opened w l cs ∧ cs.length = P.cellsOf e ∧ ∀ j, j < P.cellsOf e → w.cell? ((a.add (i * P.cellsOf e)).add j) = cs[j]? := by
                intro i hi
                have hi' := h4 i hi
                rw [List.getElem?_eq_getElem (by omega), Option.bind_eq_some_iff] at hi'
                obtain ⟨cs, q1, q2⟩ := hi'
                have q3 := World.cells?_some q1
                exact ⟨cs, open_cells m n e l cs _ he q2, q3.2.1, q3.2.2⟩
              obtain ⟨b, off, spot⟩ := a
              have hsp : len ≠ 0 → spot = none := fun hn => by
                obtain ⟨cs, _, q2, q3⟩ := cell 0 (by omega)
                have q4 := q3 0 (by omega)
                rw [List.getElem?_eq_getElem (by omega)] at q4
                simpa [Addr.add] using World.cell?_spot q4
              by_cases hn : len = 0
              · subst hn
                refine open_one (a := .lst l.length false []) ?_ ?_ rfl
                · simp only [HasT]; exact ⟨false, [], rfl, fun _ => rfl, by simp, by simp⟩
                · simp only [VR]
                  exact ⟨_, cap, rfl, by simp, h2, rfl, by simp, by simp, by simp⟩
              · have hs := hsp hn
                subst hs
                obtain ⟨es, vs, k1, k2, k3, k4⟩ := open_es (w := w) (ts := l) (sz := P.cellsOf e) (b := b) hl.1 len off (fun i hi => by
                  obtain ⟨cs, q1, q2, q3⟩ := cell i hi
                  refine ⟨cs, q1, q2, fun j u hj => ?_⟩
                  have hjl := (List.getElem?_eq_some_iff.1 hj).1
                  have := q3 j (by omega)
                  rw [hj] at this
                  rw [← this, Go.WideShapes.add_plain, Go.WideShapes.add_plain])
                refine open_one (a := .lst l.length false es) ?_ ?_ rfl
                · simp only [HasT]; exact ⟨false, es, rfl, by simp, by omega, k2⟩
                · simp only [VR]
                  refine ⟨_, cap, by rw [k1], by omega, h2, rfl, by simp, fun e' he' => ⟨(k2 e' he').len, (k2 e' he').ok⟩, fun _ => ⟨b, off, vs, rfl, ?_, k3, k4⟩⟩
                  obtain ⟨cs, q1, q2, q3⟩ := cell 0 (by omega)
                  have q4 := q3 0 (by omega)
                  rw [List.getElem?_eq_getElem (by omega)] at q4
                  show b < w.heap.size
                  rw [Go.WideShapes.add_plain, Go.WideShapes.add_plain] at q4
                  exact cell_lt q4
          · simp at h0
      | struct fs =>
        simp only at h0
        cases he : tyFs (tyOf P n) P.cellsOf fs.toList 0 with
        | none => rw [he] at h0; simp at h0
        | some l =>
          rw [he] at h0
          simp only at h0
          split at h0
          · rename_i hl
            simp only [Option.some.injEq] at h0
            subst h0
            obtain ⟨xs, m, hm, _, h2, h3, h4⟩ := DataW.trod_struct hu h
            have hm' : m = fuel := by omega
            subst hm'
            have := open_fs (w := w) (P := P) (f := tyOf P n) (g := fun t cs' => ∃ y, DataW.trod enc P w base spare held m t cs' = some y) (cs := cs) (fun t ts cs' q1 ⟨y, q2⟩ => open_cells m n t ts cs' y q1 q2) fs.toList 0 l he (fun y hy => by
              obtain ⟨i, hi⟩ := List.getElem?_of_mem hy
              have hi2 : fs[i]? = some y := by simpa using hi
              have := h4 i y hi2
              have hlt : i < xs.length := by rw [h3]; exact (Array.getElem?_eq_some_iff.1 hi2).1
              rw [List.getElem?_eq_getElem hlt] at this
              exact ⟨_, this⟩)
            rw [List.drop_zero, hl, ← h2, List.take_length] at this
            exact this
          · simp at h0
      | array k e =>
        simp only at h0
        cases he : tyOf P n e with
        | none => rw [he] at h0; simp at h0
        | some l =>
          rw [he] at h0
          simp only at h0
          split at h0
          · rename_i hl
            simp only [Option.some.injEq] at h0
            subst h0
            obtain ⟨xs, m, hm, _, h2, h3, h4⟩ := DataW.trod_array hu h
            have hm' : m = fuel := by omega
            subst hm'
            have := open_arr (w := w) (ts := l) (sz := P.cellsOf e) (cs := cs) k 0 (fun i hi => by
              have h5 := h4 i hi
              rw [List.getElem?_eq_getElem (by omega)] at h5
              have h6 := open_cells m n e l _ _ he h5
              rwa [Nat.zero_add])
            rw [Nat.zero_mul, List.drop_zero, hl.2, ← h2, List.take_length] at this
            exact this
          · simp at h0
      | _ => simp at h0
theorem open_cell {t : TypeId} {v : Value} {d : DataW H} {ps : List MemPlace} {n : Nat} {ty : Ty} (hv : v.cells = #[v]) (ht : tyOf P n t = some [ty]) (hd : DataW.Trod enc P w base spare held t v d ps) : ∃ a, HasT ty a ∧ VR (mu0 w) [] a v := by
  obtain ⟨fuel, hf⟩ := hd
  rw [hv] at hf
  obtain ⟨asl, h1, h2, _⟩ := open_cells fuel n t [ty] _ _ ht hf
  simp only [HasTs] at h1
  obtain ⟨a, as', rfl, h1, rfl⟩ := h1
  simp only [VRs] at h2
  obtain ⟨v', vs', h3, h4, _⟩ := h2
  simp at h3
  exact ⟨a, h1, by rw [h3.1]; exact h4⟩
end
theorem has_list {α : Type} {ts : List Ty} {f : α → List AV} (hf : ∀ cs, HasTs ts cs → ∃ x, cs = f x) {a : AV} (h : HasT (.sl ts) a) : ∃ (l : List α) (b : Bool), a = .lst ts.length (b && l.isEmpty) (l.map f) := by
  simp only [HasT] at h
  obtain ⟨nil, es, rfl, hn, hm, he⟩ := h
  have : ∃ l : List α, es = l.map f := by
    clear hn hm
    induction es with
    | nil => exact ⟨[], rfl⟩
    | cons e es ih =>
      obtain ⟨x, hx⟩ := hf e (he e (by simp))
      obtain ⟨l, hl⟩ := ih (fun e' h' => he e' (by simp [h']))
      exact ⟨x :: l, by simp [hx, hl]⟩
  obtain ⟨l, rfl⟩ := this
  refine ⟨l, nil, ?_⟩
  cases nil with
  | false => rfl
  | true =>
    have : l = [] := by simpa using hn rfl
    subst this; rfl
end Go.AM


namespace Go.AM
open Go.Proofs
set_option linter.unusedVariables false
set_option linter.unusedSimpArgs false
set_option linter.constructorNameAsVariable false
set_option maxRecDepth 20000
attribute [local congr] arithK_cg eqK_cg notK_cg convK_cg pickK_cg buildK_cg ldK_cg nilK_cg sliceK_cg faK_cg fldK_cg iaK_cg iaA_cg lookK_cg capK_cg exK_cg lenK_cg minK_cg maxK_cg effK_cg callK_cg callVK_cg effD_cg gopD_cg grpK_cg condK_cg cond_cg
theorem has_Env {cs : List AV} (h : HasTs [.int .i64, .int .i64, .int .i64, .int .i64, .int .i64, .int .i64, .int .i64, .int .i64, .int .i64, .int .i64] cs) : ∃ p : Envl, cs = encV p := by
  simp only [HasTs, HasT] at h
  obtain ⟨_, _, rfl, ⟨x, rfl, _⟩, _, _, rfl, ⟨y, rfl, _⟩, _, _, rfl, ⟨z, rfl, _⟩, _, _, rfl, ⟨a, rfl, _⟩, _, _, rfl, ⟨b, rfl, _⟩, _, _, rfl, ⟨c, rfl, _⟩, _, _, rfl, ⟨d, rfl, _⟩, _, _, rfl, ⟨e, rfl, _⟩, _, _, rfl, ⟨f, rfl, _⟩, _, _, rfl, ⟨g, rfl, _⟩, rfl⟩ := h
  exact ⟨⟨x, y, z, ⟨a, b, c, d, e, f, g⟩⟩, rfl⟩
theorem has_Envs {a : AV} (h : HasT (.sl [.int .i64, .int .i64, .int .i64, .int .i64, .int .i64, .int .i64, .int .i64, .int .i64, .int .i64, .int .i64]) a) : ∃ (l : List Envl) (b : Bool), a = SL 10 encV b l := has_list (fun _ h => has_Env h) h
theorem has_IntsN {a : AV} (h : HasT (.sl [.int .i64]) a) : ∃ (l : List Int) (b : Bool), a = SL 1 enI b l := has_list (fun cs h => by
  simp only [HasTs, HasT] at h
  obtain ⟨_, _, rfl, ⟨x, rfl, _⟩, rfl⟩ := h
  exact ⟨x, rfl⟩) h
theorem stI {β : Type} {W : List Int} {id i n : Nat} {h : Hp} {x : Int} (hid : h[id]? = some (.arr 1 (W.map enI) true false)) (hn : W.length = n) (hi : i < W.length) (k : AV → Hp → Option β) : effK (stE 1 (.ptr id i 0 n) (I x) h) h k = k .u (h.set id (.arr 1 ((W.set i x).map enI) true false)) := by
  have hx : W[i]? = some W[i] := List.getElem?_eq_getElem hi
  have : stE 1 (.ptr id i 0 n) (I x) h = some (.u, ⟨[(id, .arr 1 ((W.map enI).set i (enI x)) true false)], [], [id]⟩) := by
    rw [stE_ptr, hid]
    simp [hn, hx, putAt]
  rw [effK_putg this, List.map_set]
theorem ldI {β : Type} {W : List Int} {id i n : Nat} {h : Hp} {x : Int} (hid : h[id]? = some (.arr 1 (W.map enI) true false)) (hn : W.length = n) (hx : W[i]? = some x) (k : Go.AM.K β) : ldK 1 false (.ptr id i 0 n) h k = k (I x) := by
  simp [hid, hn, hx, pickC]
end Go.AM


namespace Go.AM
open Go.Proofs
set_option linter.unusedVariables false
set_option linter.unusedSimpArgs false
set_option linter.constructorNameAsVariable false
set_option maxRecDepth 20000
attribute [local congr] arithK_cg eqK_cg notK_cg convK_cg pickK_cg buildK_cg ldK_cg nilK_cg sliceK_cg faK_cg fldK_cg iaK_cg iaA_cg lookK_cg capK_cg exK_cg lenK_cg minK_cg maxK_cg effK_cg callK_cg callVK_cg effD_cg gopD_cg grpK_cg condK_cg cond_cg
end Go.AM


namespace Go.AM
open Go.Proofs
set_option linter.unusedVariables false
set_option linter.unusedSimpArgs false
set_option linter.constructorNameAsVariable false
set_option maxRecDepth 20000
attribute [local congr] arithK_cg eqK_cg notK_cg convK_cg pickK_cg buildK_cg ldK_cg nilK_cg sliceK_cg faK_cg fldK_cg iaK_cg iaA_cg lookK_cg capK_cg exK_cg lenK_cg minK_cg maxK_cg effK_cg callK_cg callVK_cg effD_cg gopD_cg grpK_cg condK_cg cond_cg
structure Fol where
  d : Docu
  en : Bool
  an : Int
  cnt : List ((Int × Int) × Int)
def cntP (c : List ((Int × Int) × Int)) (p : Int × Int) : Int := ((fndT c p).map (·.2)).getD 0
def bumpP (c : List ((Int × Int) × Int)) (p : Int × Int) : List ((Int × Int) × Int) := updT c p (IntKind.i64.wrap (cntP c p + 1))
def stepF (mv : Int) (s : Fol) (m : Msg) : Fol :=
  if m.mv ≠ mv then s
  else if m.kind = 1 then { s with d := { s.d with stage := 1, frm := m.frm, to := m.to, sent := m.alc }, cnt := bumpP s.cnt (m.kind, m.num) }
  else if m.kind = 2 then { s with d := { s.d with to := m.to, chg := IntKind.i64.wrap (s.d.chg + 1) }, cnt := bumpP s.cnt (m.kind, m.num) }
  else if m.kind = 3 then { s with d := { s.d with got := m.alc }, an := 2, cnt := bumpP s.cnt (m.kind, m.num) }
  else if m.kind = 4 then { s with an := 3, cnt := bumpP s.cnt (3, m.num) }
  else if m.kind = 5 then { s with en := true }
  else { s with cnt := bumpP s.cnt (m.kind, m.num) }
def begF (mv : Int) : Fol := ⟨⟨mv, 0, 0, 0, 0, 0, 0⟩, false, 0, []⟩
def folF (mv : Int) (l : List Msg) : Fol := l.foldl (stepF mv) (begF mv)
def noneD (mv : Int) : Docu := ⟨mv, 0, 0, 0, 0, 0, 0⟩
def confD (mv : Int) : Docu := ⟨mv, 5, 0, 0, 0, 0, 0⟩
def endF (mv : Int) (s : Fol) : Docu :=
  if s.d.stage = 0 then noneD mv
  else if (s.cnt.any fun e => decide (1 < e.2)) = true then confD mv
  else if s.an = 0 then s.d else if s.en = true then { s.d with stage := 4 } else { s.d with stage := s.an }
def docF (mv : Int) (l : List Msg) : Docu := endF mv (folF mv l)
abbrev fI : Int → AV := fun n => .s (.int .i64 n)
theorem twoP : TwoInts Try.prog 102 3 := ⟨⟨_, Try.underlying102, _, _, rfl, rfl, rfl, rfl, rfl, eq_false (by decide), eq_false (by decide)⟩, Try.underlying3, by kernel_rfl⟩
section
variable {β : Type}
theorem get3 {o0 o1 o2 x : AObj} {g t : Hp} : (o0 :: o1 :: o2 :: (g ++ x :: t))[g.length + 3]? = some x := by
  simp [List.getElem?_append_right]
theorem get4 {o0 o1 o2 x y : AObj} {g t : Hp} : (o0 :: o1 :: o2 :: (g ++ x :: y :: t))[g.length + 4]? = some y := by
  simp [List.getElem?_append_right]
theorem set3 {o0 o1 o2 x z : AObj} {g t : Hp} : (o0 :: o1 :: o2 :: (g ++ x :: t)).set (g.length + 3) z = o0 :: o1 :: o2 :: (g ++ z :: t) := by
  simp [List.set_append_right]
theorem set4 {o0 o1 o2 x y z : AObj} {g t : Hp} : (o0 :: o1 :: o2 :: (g ++ x :: y :: t)).set (g.length + 4) z = o0 :: o1 :: o2 :: (g ++ x :: z :: t) := by
  simp [List.set_append_right]
variable {o0 o1 o2 : AObj} {g t : Hp} {m : Msg}
theorem lq (j : Nat) (k : Go.AM.K β) {x : AV} (hx : (encM m)[j]? = some x) : ldK 1 false (.ptr (g.length + 3) 0 j 1) (o0 :: o1 :: o2 :: (g ++ .arr 7 [encM m] true false :: t)) k = k x := by
  rw [ldK_ptr, get3]
  simp [hx]
theorem lq0 (k : Go.AM.K β) : ldK 1 false (.ptr (g.length + 3) 0 0 1) (o0 :: o1 :: o2 :: (g ++ .arr 7 [encM m] true false :: t)) k = k (I m.mv) := lq 0 k rfl
theorem lq1 (k : Go.AM.K β) : ldK 1 false (.ptr (g.length + 3) 0 1 1) (o0 :: o1 :: o2 :: (g ++ .arr 7 [encM m] true false :: t)) k = k (I m.kind) := lq 1 k rfl
theorem lq2 (k : Go.AM.K β) : ldK 1 false (.ptr (g.length + 3) 0 2 1) (o0 :: o1 :: o2 :: (g ++ .arr 7 [encM m] true false :: t)) k = k (I m.num) := lq 2 k rfl
theorem lq4 (k : Go.AM.K β) : ldK 1 false (.ptr (g.length + 3) 0 4 1) (o0 :: o1 :: o2 :: (g ++ .arr 7 [encM m] true false :: t)) k = k (I m.frm) := lq 4 k rfl
theorem lq5 (k : Go.AM.K β) : ldK 1 false (.ptr (g.length + 3) 0 5 1) (o0 :: o1 :: o2 :: (g ++ .arr 7 [encM m] true false :: t)) k = k (I m.to) := lq 5 k rfl
theorem lq6 (k : Go.AM.K β) : ldK 1 false (.ptr (g.length + 3) 0 6 1) (o0 :: o1 :: o2 :: (g ++ .arr 7 [encM m] true false :: t)) k = k (I m.alc) := lq 6 k rfl
theorem bq7 (k : AV → Hp → Option β) : effK (boxE 7 (.agg zM) (o0 :: o1 :: o2 :: g).length) (o0 :: o1 :: o2 :: g) k = k (.ptr (g.length + 3) 0 0 1) (o0 :: o1 :: o2 :: (g ++ [.arr 7 [zM] true false])) := by
  exact (effK_box 7 (o0 :: o1 :: o2 :: g).length (.agg zM) _ k rfl rfl rfl).trans rfl
theorem sq7 (k : AV → Hp → Option β) : effK (stE 7 (.ptr (g.length + 3) 0 0 1) (.agg (encM m)) (o0 :: o1 :: o2 :: (g ++ [.arr 7 [zM] true false]))) (o0 :: o1 :: o2 :: (g ++ [.arr 7 [zM] true false])) k = k .u (o0 :: o1 :: o2 :: (g ++ [.arr 7 [encM m] true false])) := by
  rw [effK_put (v := .u) (id := g.length + 3) (o := .arr 7 [encM m] true false) (ft := [g.length + 3]) (by rw [stE_ptr, get3]; simp [encM]), set3]
theorem bq2 {x : AObj} (k : AV → Hp → Option β) : effK (boxE 2 (.agg [.s (.int .i64 0), .s (.int .i64 0)]) (o0 :: o1 :: o2 :: (g ++ [x])).length) (o0 :: o1 :: o2 :: (g ++ [x])) k = k (.ptr (g.length + 4) 0 0 1) (o0 :: o1 :: o2 :: (g ++ [x, .arr 2 [[I 0, I 0]] true false])) := by
  rw [effK_box 2 _ _ _ k rfl rfl rfl]; simp
theorem sq2 {x : AObj} {a b : Int} (k : AV → Hp → Option β) : effK (stE 2 (.ptr (g.length + 4) 0 0 1) (.agg [I a, I b]) (o0 :: o1 :: o2 :: (g ++ [x, .arr 2 [[I 0, I 0]] true false]))) (o0 :: o1 :: o2 :: (g ++ [x, .arr 2 [[I 0, I 0]] true false])) k = k .u (o0 :: o1 :: o2 :: (g ++ [x, .arr 2 [[I a, I b]] true false])) := by
  rw [effK_put (v := .u) (id := g.length + 4) (o := .arr 2 [[I a, I b]] true false) (ft := [g.length + 4]) (by rw [stE_ptr, get4]; simp), set4]
theorem sq20 {x : AObj} {a b c : Int} (k : AV → Hp → Option β) : effK (stE 1 (.ptr (g.length + 4) 0 0 1) (I c) (o0 :: o1 :: o2 :: (g ++ [x, .arr 2 [[I a, I b]] true false]))) (o0 :: o1 :: o2 :: (g ++ [x, .arr 2 [[I a, I b]] true false])) k = k .u (o0 :: o1 :: o2 :: (g ++ [x, .arr 2 [[I c, I b]] true false])) := by
  rw [effK_put (v := .u) (id := g.length + 4) (o := .arr 2 [[I c, I b]] true false) (ft := [g.length + 4]) (by rw [stE_ptr, get4]; simp), set4]
theorem lw2 {x : AObj} {a b : AV} (k : Go.AM.K β) : ldK 2 true (.ptr (g.length + 4) 0 0 1) (o0 :: o1 :: o2 :: (g ++ [x, .arr 2 [[a, b]] true false])) k = k (.agg [a, b]) := by
  rw [ldK_ptr, get4]
  simp
end
theorem of_j9 {β : Type} {T : Tab} {D : DTab} {N : Nat} {xn : AV → AV → AV → AV → AV → AV → AV → AV → AV → Hp → Option β} {x0 : AV → AV → AV → AV → AV → AV → Hp → Option β} {v1 v4 v6 v7 v8 v17 v18 v19 : AV} {o0 o2 x : AObj} {g : Hp} {c : List ((Int × Int) × Int)} {a b : Int} :
    f_document_of_j10 Try.prog T D N xn x0 v1 v4 (.mp 1) v6 v7 v8 (.ptr (g.length + 4) 0 0 1) v17 v18 v19 (o0 :: .map (kvT fI c) :: o2 :: (g ++ [x, .arr 2 [[I a, I b]] true false])) =
      f_document_of_j8 Try.prog T D N xn x0 v1 v4 (.mp 1) v6 v7 v8 v17 v18 v19 (o0 :: .map (kvT fI (bumpP c (a, b))) :: o2 :: (g ++ [x, .arr 2 [[I a, I b]] true false])) := by
  obtain ⟨bv, j, c1, h1, h2⟩ := bump_two (f := fI) (h := o0 :: .map (kvT fI c) :: o2 :: (g ++ [x, .arr 2 [[I a, I b]] true false])) (id := 1) (c := c) (p := (a, b)) (z := (0 : Int)) (x := IntKind.i64.wrap (cntP c (a, b) + 1)) twoP rfl
  have hl : ∀ k : Go.AM.K β, lookK Try.prog 102 (.s (.int .i64 0)) false (.mp 1) (.agg [I a, I b]) (o0 :: .map (kvT fI c) :: o2 :: (g ++ [x, .arr 2 [[I a, I b]] true false])) k = k (I (cntP c (a, b))) := fun k => by
    rw [lookK_two (p := (a, b)) (f := fI) (c := c) twoP rfl]
    unfold cntP
    cases fndT c (a, b) <;> rfl
  have e1 : ∀ k : AV → Hp → Ent → Option β, effD (mentE Try.prog 102 (.s (.int .i64 0)) (.mp 1) (.agg [I a, I b]) (o0 :: .map (kvT fI c) :: o2 :: (g ++ [x, .arr 2 [[I a, I b]] true false]))) (o0 :: .map (kvT fI c) :: o2 :: (g ++ [x, .arr 2 [[I a, I b]] true false])) k = k (.tup [bv, .s (.int .i64 j)]) (o0 :: .map (kvT fI c1) :: o2 :: (g ++ [x, .arr 2 [[I a, I b]] true false])) ([1], [1]) := fun k => effD_put h1 k
  have e2 : ∀ k : AV → Hp → Ent → Option β, effD (estE (.mp 1) (.s (.int .i64 j)) (I (IntKind.i64.wrap (cntP c (a, b) + 1))) (o0 :: .map (kvT fI c1) :: o2 :: (g ++ [x, .arr 2 [[I a, I b]] true false]))) (o0 :: .map (kvT fI c1) :: o2 :: (g ++ [x, .arr 2 [[I a, I b]] true false])) k = k .u (o0 :: .map (kvT fI (bumpP c (a, b))) :: o2 :: (g ++ [x, .arr 2 [[I a, I b]] true false])) ([1], [1]) := fun k => effD_put (h2 _ rfl) k
  have x1 : ∀ k : Go.AM.K β, exK (.tup [bv, .s (.int .i64 j)]) 1 k = k (.s (.int .i64 j)) := fun k => rfl
  simp -implicitDefEqProofs only [f_document_of_j10, f_document_of_j9, lw2, hl, arithK_add, e1, x1, e2, disjAll_nil, cond_true]
theorem of_b6 {β : Type} {T : Tab} {D : DTab} {N : Nat} {xn : AV → AV → AV → AV → AV → AV → AV → AV → AV → Hp → Option β} {x0 : AV → AV → AV → AV → AV → AV → Hp → Option β} {l : List Msg} {b : Bool} {i : Nat} {m : Msg} {mv : Int} {s : Fol} {o0 : AObj} {g : Hp} (hl : l.length < 1000000) (hi : l[i]? = some m) :
    ∃ g', f_document_of_b6 Try.prog T D N xn x0 (I mv) (.ptr 0 0 0 1) (.mp 1) (.ptr 2 0 0 1) (B s.en) (I s.an) (.lst 7 b (l.map encM)) (I l.length) (I i) (o0 :: .map (kvT fI s.cnt) :: .arr 7 [encDo s.d] true false :: g) =
      xn (I mv) (.ptr 0 0 0 1) (.mp 1) (.ptr 2 0 0 1) (B (stepF mv s m).en) (I (stepF mv s m).an) (.lst 7 b (l.map encM)) (I l.length) (I ((i + 1 : Nat) : Int)) (o0 :: .map (kvT fI (stepF mv s m).cnt) :: .arr 7 [encDo (stepF mv s m).d] true false :: g') := by
  have hil : i < l.length := (List.getElem?_eq_some_iff.1 hi).1
  have c1 : ((i : Int) < (l.length : Int)) := by omega
  have hw : IntKind.i64.wrap ((i : Int) + 1) = ((i + 1 : Nat) : Int) := by rw [wrap64 (by omega) (by omega)]; omega
  have ic : ∀ k : Go.AM.K β, iaK 7 (.lst 7 b (l.map encM)) (I i) k = k (.ep (encM m) 0) := fun k => iaK_at i rfl hi k
  have ld : ∀ (h : Hp) (k : Go.AM.K β), ldK 7 true (.ep (encM m) 0) h k = k (.agg (encM m)) := fun h k => rfl
  have bd : ∀ k : Go.AM.K β, buildK [.s (.int .i64 0), .s (.int .i64 0)] [(some (0, 1), I m.kind), (some (1, 1), I m.num)] k = k (.agg [I m.kind, I m.num]) := fun k => rfl
  obtain ⟨⟨d0, d1, d2, d3, d4, d5, d6⟩, en, an, cnt⟩ := s
  simp only [encDo]
  have dj4 : disjAll [(1, 7), (3, 7), (5, 7), (3, 9), (5, 9), (5, 11)] [([], []), (idsOf (AV.ptr (g.length + 3) 0 4 1), []), ([], []), (idsOf (AV.ptr (g.length + 3) 0 5 1), []), ([], []), (idsOf (AV.ptr (g.length + 3) 0 6 1), []), ([], []), ([2], [2]), ([], []), ([2], [2]), ([], []), ([2], [2]), ([], []), ([2], [2])] = true := by simp [disjAll, disj2, idsOf]
  by_cases hm : m.mv = mv
  · have em : (m.mv == mv) = true := by simpa using hm
    have en' : ¬ (m.mv ≠ mv) := by simpa using hm
    refine ⟨g ++ [.arr 7 [encM m] true false, .arr 2 [[I (if m.kind = 4 then 3 else m.kind), I m.num]] true false], ?_⟩
    simp -implicitDefEqProofs only [f_document_of_b6, arithK_lss, c1, decide_true, condK_bool, if_true, ic, ld, bq7, sq7, faK_ptr, Nat.zero_add, lq0, eqK_int, em, Bool.true_xor, Bool.false_xor, Bool.not_true, Bool.false_eq_true, if_false, lq1, lq2, bd, bq2, sq2]
    by_cases k1 : m.kind = 1
    · have q1 : (m.kind == 1) = true := by simpa using k1
      simp -implicitDefEqProofs only [q1, if_true, lq4, lq5, lq6, faK_ptr, Nat.zero_add, ld7_2_0, es7_2_0, ed7_2_0, ld7_2_1, es7_2_1, ed7_2_1, ld7_2_2, es7_2_2, ed7_2_2, ld7_2_3, es7_2_3, ed7_2_3, ld7_2_4, es7_2_4, ed7_2_4, ld7_2_5, es7_2_5, ed7_2_5, ld7_2_6, es7_2_6, ed7_2_6, of_j9, dj4, cond_true, f_document_of_j8, f_document_of_j7, arithK_add, hw]
      simp [stepF, hm, k1]
    have q1 : (m.kind == 1) = false := by simpa using k1
    by_cases k2 : m.kind = 2
    · have q2 : (m.kind == 2) = true := by simpa using k2
      simp -implicitDefEqProofs only [q1, q2, Bool.false_eq_true, if_false, if_true, lq5, faK_ptr, Nat.zero_add, ld7_2_0, es7_2_0, ed7_2_0, ld7_2_1, es7_2_1, ed7_2_1, ld7_2_2, es7_2_2, ed7_2_2, ld7_2_3, es7_2_3, ed7_2_3, ld7_2_4, es7_2_4, ed7_2_4, ld7_2_5, es7_2_5, ed7_2_5, ld7_2_6, es7_2_6, ed7_2_6, of_j9, f_document_of_j8, f_document_of_j7, arithK_add, hw]
      simp [stepF, hm, k1, k2]
    have q2 : (m.kind == 2) = false := by simpa using k2
    by_cases k3 : m.kind = 3
    · have q3 : (m.kind == 3) = true := by simpa using k3
      have dj : disjAll [(1, 4)] [([], []), (idsOf (AV.ptr (g.length + 3) 0 6 1), []), ([], []), ([], []), ([2], [2])] = true := by simp [disjAll, disj2, idsOf]
      simp -implicitDefEqProofs only [q1, q2, q3, Bool.false_eq_true, if_false, if_true, lq6, faK_ptr, Nat.zero_add, ld7_2_0, es7_2_0, ed7_2_0, ld7_2_1, es7_2_1, ed7_2_1, ld7_2_2, es7_2_2, ed7_2_2, ld7_2_3, es7_2_3, ed7_2_3, ld7_2_4, es7_2_4, ed7_2_4, ld7_2_5, es7_2_5, ed7_2_5, ld7_2_6, es7_2_6, ed7_2_6, of_j9, dj, cond_true, f_document_of_j8, f_document_of_j7, arithK_add, hw]
      simp [stepF, hm, k1, k2, k3]
    have q3 : (m.kind == 3) = false := by simpa using k3
    by_cases k4 : m.kind = 4
    · have q4 : (m.kind == 4) = true := by simpa using k4
      simp -implicitDefEqProofs only [q1, q2, q3, q4, Bool.false_eq_true, if_false, if_true, faK_ptr, Nat.zero_add, sq20, of_j9, f_document_of_j8, f_document_of_j7, arithK_add, hw]
      simp [stepF, hm, k1, k2, k3, k4]
    have q4 : (m.kind == 4) = false := by simpa using k4
    by_cases k5 : m.kind = 5
    · have q5 : (m.kind == 5) = true := by simpa using k5
      simp -implicitDefEqProofs only [q1, q2, q3, q4, q5, Bool.false_eq_true, if_false, if_true, f_document_of_j8, f_document_of_j7, arithK_add, hw]
      simp [stepF, hm, k1, k2, k3, k4, k5]
    have q5 : (m.kind == 5) = false := by simpa using k5
    simp only [k4, if_false]
    simp -implicitDefEqProofs only [q1, q2, q3, q4, q5, Bool.false_eq_true, if_false, if_true, of_j9, f_document_of_j8, f_document_of_j7, arithK_add, hw]
    simp [stepF, hm, k1, k2, k3, k4, k5]
  · have em : (m.mv == mv) = false := by simpa using hm
    have en' : m.mv ≠ mv := hm
    refine ⟨g ++ [.arr 7 [encM m] true false], ?_⟩
    simp -implicitDefEqProofs only [f_document_of_b6, arithK_lss, c1, decide_true, condK_bool, if_true, ic, ld, bq7, sq7, faK_ptr, Nat.zero_add, lq0, eqK_int, em, Bool.true_xor, Bool.not_false, f_document_of_j8, f_document_of_j7, arithK_add, hw, stepF, en', ne_eq, not_false_eq_true]
theorem of_L6 {β : Type} {T : Tab} {D : DTab} {N : Nat} {x0 : AV → AV → AV → AV → AV → AV → Hp → Option β} {X : Option β} {l : List Msg} {b : Bool} {mv : Int} {o0 : AObj} (hl : l.length < 1000000) (hx : ∀ g, x0 (I mv) (.ptr 0 0 0 1) (.mp 1) (.ptr 2 0 0 1) (B (folF mv l).en) (I (folF mv l).an) (o0 :: .map (kvT fI (folF mv l).cnt) :: .arr 7 [encDo (folF mv l).d] true false :: g) = X) : ∀ (n i : Nat) (g : Hp), i ≤ l.length → l.length < i + n →
    f_document_of_L6 Try.prog T D N x0 n (I mv) (.ptr 0 0 0 1) (.mp 1) (.ptr 2 0 0 1) (B (folF mv (l.take i)).en) (I (folF mv (l.take i)).an) (.lst 7 b (l.map encM)) (I l.length) (I i) (o0 :: .map (kvT fI (folF mv (l.take i)).cnt) :: .arr 7 [encDo (folF mv (l.take i)).d] true false :: g) = X := by
  intro n
  induction n with
  | zero => intro i g h1 h2; omega
  | succ n ih =>
    intro i g h1 h2
    show f_document_of_b6 Try.prog T D N (f_document_of_L6 Try.prog T D N x0 n) x0 _ _ _ _ _ _ _ _ _ _ = _
    rcases Nat.lt_or_ge i l.length with hi | hi
    · have hm : l[i]? = some l[i] := List.getElem?_eq_getElem hi
      obtain ⟨g', e⟩ := of_b6 (T := T) (D := D) (N := N) (xn := f_document_of_L6 Try.prog T D N x0 n) (x0 := x0) (b := b) (mv := mv) (s := folF mv (l.take i)) (o0 := o0) (g := g) hl hm
      rw [e]
      have hs : stepF mv (folF mv (l.take i)) l[i] = folF mv (l.take (i + 1)) := by
        unfold folF
        rw [take_succ_get hm, List.foldl_append]
        rfl
      rw [hs]
      exact ih (i + 1) g' (by omega) (by omega)
    · have : i = l.length := by omega
      subst this
      have c1 : ¬ ((l.length : Int) < (l.length : Int)) := by omega
      rw [List.take_length]
      simp -implicitDefEqProofs only [f_document_of_b6, arithK_lss, c1, decide_false, condK_bool, Bool.false_eq_true, if_false]
      exact hx g
theorem of_L5 {T : Tab} {D : DTab} {N : Nat} {x3 : AV → AV → AV → AV → Hp → Option AV} {xr : AV → Hp → Option AV} {X : Option AV} {mv : Int} {en an : AV} {c : List ((Int × Int) × Int)} {d : Docu} {id : Nat}
    (h3 : (c.any fun e => decide (1 < e.2)) = false → ∀ z t, x3 (.ptr 0 0 0 1) (.ptr 2 0 0 1) en an (.arr 7 [zM] true false :: z :: .arr 7 [encDo d] true false :: t) = X) (hr : (c.any fun e => decide (1 < e.2)) = true → ∀ z z2 t, xr (.ptr 0 0 0 1) (.arr 7 [encDo (confD mv)] true false :: z :: z2 :: t) = X) :
    ∀ (n : Nat) (seen : List Nat) (t : Hp), (leftIt c.length seen).length < n → (∀ j ∈ seen, ∀ e, c[j]? = some e → ¬ 1 < e.2) → (.arr 7 [zM] true false :: .map (kvT fI c) :: .arr 7 [encDo d] true false :: t : Hp)[id]? = some (.iter 1 c.length seen) →
    f_document_of_L5 Try.prog T D N x3 xr n (I mv) (.ptr 0 0 0 1) (.ptr 2 0 0 1) en an (.it id) (.arr 7 [zM] true false :: .map (kvT fI c) :: .arr 7 [encDo d] true false :: t) = X := by
  intro n
  induction n with
  | zero => intro seen t h1; omega
  | succ n ih =>
    intro seen t h1 hseen hid
    have hn : (kvT fI c).length = c.length := by simp [kvT]
    have hid3 : ∃ q, id = q + 3 := by
      match id, hid with
      | 0, hid => simp at hid
      | 1, hid => simp at hid
      | 2, hid => simp at hid
      | q + 3, _ => exact ⟨q, rfl⟩
    obtain ⟨q, rfl⟩ := hid3
    have hset : ∀ o, (.arr 7 [zM] true false :: .map (kvT fI c) :: .arr 7 [encDo d] true false :: t : Hp).set (q + 3) o = .arr 7 [zM] true false :: .map (kvT fI c) :: .arr 7 [encDo d] true false :: t.set q o := fun o => rfl
    have hql : q < t.length := by simpa using (List.getElem?_eq_some_iff.1 hid).1
    show f_document_of_b5 Try.prog T D N (f_document_of_L5 Try.prog T D N x3 xr n) x3 xr _ _ _ _ _ _ _ = _
    refine nextK_of hid rfl hn _ (fun h0 => ?_) fun j hj => ?_
    · simp -implicitDefEqProofs only [exK_tup, List.getElem?_cons_zero, condK_bool, Bool.false_eq_true, if_false]
      refine h3 ?_ _ _
      rw [List.any_eq_false]
      intro e he
      obtain ⟨j, hj, rfl⟩ := List.getElem_of_mem he
      have : j ∉ leftIt c.length seen := by rw [h0]; simp
      rw [leftIt_mem] at this
      have hs : j ∈ seen := by
        rcases Decidable.em (j ∈ seen) with h | h
        · exact h
        · exact absurd ⟨hj, h⟩ this
      simpa using hseen j hs _ (List.getElem?_eq_getElem hj)
    · obtain ⟨hjl, hjs⟩ := leftIt_mem.1 hj
      have hcj : c[j]? = some c[j] := List.getElem?_eq_getElem hjl
      have hkj : (kvT fI c)[j]? = some (keyT c[j].1, fI c[j].2) := by simp [kvT, hjl]
      rw [hset]
      have en1 : ∀ k : Go.AM.K AV, entryK (.it (q + 3)) (.arr 7 [zM] true false :: .map (kvT fI c) :: .arr 7 [encDo d] true false :: t.set q (.iter 1 c.length (seen ++ [j]))) k = k (.tup [keyAV (keyT c[j].1), I c[j].2]) := fun k => entryK_at (seen := seen) (n := c.length) (j := j) (h := .arr 7 [zM] true false :: .map (kvT fI c) :: .arr 7 [encDo d] true false :: t.set q (.iter 1 c.length (seen ++ [j]))) (id := q + 3) (m := 1) (by simp [hql]) rfl hn hkj k
      have bc : ∀ k : Go.AM.K AV, buildK [.s (.int .i64 0), .s (.int .i64 0), .s (.int .i64 0), .s (.int .i64 0), .s (.int .i64 0), .s (.int .i64 0), .s (.int .i64 0)] [(some (0, 1), I mv), (some (1, 1), .s (.int .i64 5))] k = k (.agg [I mv, I 5, I 0, I 0, I 0, I 0, I 0]) := fun k => rfl
      simp -implicitDefEqProofs only [exK_tup, List.getElem?_cons_zero, condK_bool, if_true]
      rw [en1]
      simp -implicitDefEqProofs only [exK_tup, List.getElem?_cons_zero, List.getElem?_cons_succ, condK_bool, arithK_gtr, bc, ew7_0]
      by_cases h2 : 1 < c[j].2
      · rw [if_pos (by simpa using h2)]
        exact hr (List.any_eq_true.2 ⟨c[j], List.getElem_mem hjl, by simpa using h2⟩) _ _ _
      · rw [if_neg (by simpa using h2)]
        refine ih (seen ++ [j]) _ (by have := leftIt_snoc hj; omega) (fun i hi e he => ?_) (by simp [hql])
        rcases List.mem_append.1 hi with hi | hi
        · exact hseen i hi e he
        · simp only [List.mem_singleton] at hi
          subst hi
          rw [hcj] at he
          injection he with he
          rw [← he]; exact h2
theorem updT_len {α : Type} : ∀ (c : List ((Int × Int) × α)) (p : Int × Int) (x : α), (updT c p x).length ≤ c.length + 1
  | [], p, x => by simp [updT]
  | (q, y) :: c, p, x => by
    have := updT_len c p x
    simp only [updT]
    split <;> simp <;> omega
theorem stepF_cnt (mv : Int) (s : Fol) (m : Msg) : (stepF mv s m).cnt.length ≤ s.cnt.length + 1 := by
  unfold stepF
  repeat' split
  all_goals first | exact updT_len _ _ _ | (simp; done)
theorem folF_cnt (mv : Int) : ∀ (l : List Msg) (s : Fol), (l.foldl (stepF mv) s).cnt.length ≤ s.cnt.length + l.length
  | [], s => by simp
  | m :: l, s => by
    have h1 := folF_cnt mv l (stepF mv s m)
    have h2 := stepF_cnt mv s m
    simp only [List.foldl_cons, List.length_cons]
    omega
theorem F_document_of_val (l : List Msg) (b : Bool) (mv : Int) (hl : l.length < 1000000) (h : Hp) : F_document_of [.lst 7 b (l.map encM), I mv] h = some (.agg (encDo (docF mv l)), h) := by
  refine F_document_of_run (v := .agg (encDo (docF mv l))) rfl ?_ h
  simp only [nrm, nrmC]
  have b0 : ∀ k : Go.AM.K AV, buildK [.s (.int .i64 0), .s (.int .i64 0), .s (.int .i64 0), .s (.int .i64 0), .s (.int .i64 0), .s (.int .i64 0), .s (.int .i64 0)] [(some (0, 1), I mv)] k = k (.agg (encDo (noneD mv))) := fun k => rfl
  have mk : ∀ (o : AObj) (k : AV → Hp → Option AV), effK (some (.mp (List.length [o]), EN (.map []))) [o] k = k (.mp 1) [o, .map []] := fun o k => rfl
  simp -implicitDefEqProofs only [f_document_of, bx7_0, mk, b0, bx7_2, encDo, noneD, ew7_2, lenK_lst, List.length_map]
  have key := of_L6 (T := t_document_of) (D := d_document_of) (N := NN) (x0 := fun w121_1 w121_4 w121_5 w121_6 w121_7 w121_8 h => f_document_of_j1 Try.prog t_document_of d_document_of NN (fun v g => cvt false g v) w121_1 w121_4 w121_5 w121_6 w121_7 w121_8 h) (X := some (AV.agg (encDo (docF mv l)))) (l := l) (b := b) (mv := mv) (o0 := .arr 7 [zM] true false) hl ?_ NN 0 [] (by omega) (by have := NN_ge; omega)
  · exact key
  · intro g
    have b1 : ∀ k : Go.AM.K AV, buildK zM [(some (0, 1), I mv)] k = k (.agg (encDo (noneD mv))) := fun k => rfl
    unfold docF
    have hcl : (folF mv l).cnt.length ≤ l.length := by have := folF_cnt mv l (begF mv); simpa [begF, folF] using this
    generalize folF mv l = s at *
    obtain ⟨⟨d0, d1, d2, d3, d4, d5, d6⟩, en, an, c⟩ := s
    simp -implicitDefEqProofs only [f_document_of_j1, faK_ptr, Nat.zero_add, encDo, ld7_2_1, eqK_int, Bool.false_xor, condK_bool, b1]
    by_cases h1 : d1 = 0
    · subst h1
      simp -implicitDefEqProofs only [beq_self_eq_true, if_true, encDo, noneD, ew7_0, lw7_0, endF]
      rfl
    · have e1 : (d1 == 0) = false := by simpa using h1
      have rg : ∀ (o2 : AObj) (k : AV → Hp → Option AV), effK (rngE (.mp 1) (.arr 7 [zM] true false :: .map (kvT fI c) :: o2 :: g) (.arr 7 [zM] true false :: .map (kvT fI c) :: o2 :: g : Hp).length) (.arr 7 [zM] true false :: .map (kvT fI c) :: o2 :: g) k = k (.it (g.length + 3)) (.arr 7 [zM] true false :: .map (kvT fI c) :: o2 :: (g ++ [.iter 1 c.length []])) := fun o2 k => by
        have : (kvT fI c).length = c.length := by simp [kvT]
        simp [rngE, effK, ap, this]
      simp -implicitDefEqProofs only [e1, Bool.false_eq_true, if_false, rg]
      refine of_L5 (d := ⟨d0, d1, d2, d3, d4, d5, d6⟩) (c := c) (fun hc z t => ?_) (fun hc z z2 t => ?_) NN [] _ ?_ (by simp) ?_
      · simp -implicitDefEqProofs only [f_document_of_j2, eqK_int, Bool.false_xor, condK_bool, encDo, faK_ptr, Nat.zero_add, es7_2_1, f_document_of_j4, f_document_of_j3, lw7_2, ew7_0, lw7_0, endF, h1, if_false, hc, Bool.false_eq_true]
        by_cases h2 : an = 0
        · subst h2; rfl
        · have e2 : (an == 0) = false := by simpa using h2
          simp only [e2, h2, if_false, Bool.false_eq_true]
          cases en <;> rfl
      · simp -implicitDefEqProofs only [encDo, confD, lw7_0, endF, h1, if_false, hc, if_true]
        rfl
      · have := List.length_filter_le (fun j => !([] : List Nat).contains j) (List.range c.length)
        rw [List.length_range] at this
        have hN := NN_ge
        unfold leftIt
        simp only at hcl
        omega
      · exact get3
end Go.AM


namespace Go.AM
open Go.Proofs
set_option linter.unusedVariables false
set_option linter.unusedSimpArgs false
set_option linter.constructorNameAsVariable false
set_option maxRecDepth 20000
def ofk (mv k : Int) (l : List Msg) : List Msg := l.filter fun m => m.mv == mv && m.kind == k
theorem ofk_snoc (mv k : Int) (l : List Msg) (m : Msg) : ofk mv k (l ++ [m]) = if m.mv = mv ∧ m.kind = k then ofk mv k l ++ [m] else ofk mv k l := by
  unfold ofk
  rw [List.filter_append]
  by_cases h : m.mv = mv ∧ m.kind = k
  · simp [h]
  · rw [if_neg h]
    have : (m.mv == mv && m.kind == k) = false := by
      rw [Bool.eq_false_iff]; intro q; simp at q; exact h q
    simp [this]
theorem mem_ofk {mv k : Int} {l : List Msg} {m : Msg} : m ∈ ofk mv k l ↔ m ∈ l ∧ m.mv = mv ∧ m.kind = k := by unfold ofk; simp
def docS (mv : Int) (l : List Msg) : Docu :=
  match (ofk mv 1 l).getLast? with
  | none => noneD mv
  | some d =>
    if 1 < (ofk mv 1 l).length ∨ 1 < (ofk mv 3 l).length + (ofk mv 4 l).length ∨ ¬ ((ofk mv 2 l).map (·.num)).Nodup then confD mv
    else ⟨mv, if ofk mv 3 l = [] ∧ ofk mv 4 l = [] then 1 else if ofk mv 5 l ≠ [] then 4 else if ofk mv 4 l = [] then 2 else 3, d.frm, match (ofk mv 2 l).getLast? with | some c => c.to | none => d.to, d.alc, (((ofk mv 3 l).getLast?).map (·.alc)).getD 0, (ofk mv 2 l).length⟩
theorem checkM_kind {m : Msg} (h : checkM m = 0) : 1 ≤ m.kind ∧ m.kind ≤ 5 ∧ 1 ≤ m.mv ∧ m.mv ≤ 1073741824 ∧ formM m = true := by
  unfold checkM at h
  split at h
  · simp at h
  · rename_i hr
    split at h
    · rename_i hf
      simp [rangeM] at hr
      exact ⟨by omega, by omega, by omega, by omega, hf⟩
    · simp at h
theorem checkM_num {m : Msg} (h : checkM m = 0) : m.kind = 1 ∨ m.kind = 3 ∨ m.kind = 4 ∨ m.kind = 5 → m.num = 0 := by
  obtain ⟨-, -, -, -, hf⟩ := checkM_kind h
  rintro (k | k | k | k) <;> simp [formM, k] at hf <;> simp_all
theorem ltM_lex {a b : Msg} (h : ltM a b = true) : a.mv ≤ b.mv ∧ (a.mv = b.mv → a.kind ≤ b.kind ∧ (a.kind = b.kind → a.num ≤ b.num)) := by
  unfold ltM cellsM at h
  simp only [ltZ_cons, Bool.or_eq_true, Bool.and_eq_true, decide_eq_true_eq] at h
  omega
def partM (m : Msg) : Option (Int × Int) := if m.kind = 5 then none else if m.kind = 4 then some (3, m.num) else some (m.kind, m.num)
abbrev keysD {α : Type} (c : List ((Int × Int) × α)) : Prop := c.Pairwise fun a b => a.1 ≠ b.1
theorem updT_mem {α : Type} : ∀ {c : List ((Int × Int) × α)} {p : Int × Int} {x : α} {e : (Int × Int) × α}, e ∈ updT c p x → e = (p, x) ∨ e ∈ c
  | [], p, x, e, h => by simp [updT] at h; exact .inl h
  | (q, y) :: c, p, x, e, h => by
    simp only [updT] at h
    split at h
    · rcases List.mem_cons.1 h with h | h
      · exact .inl h
      · exact .inr (by simp [h])
    · rcases List.mem_cons.1 h with h | h
      · exact .inr (by simp [h])
      · rcases updT_mem h with h | h
        · exact .inl h
        · exact .inr (by simp [h])
theorem keysD_upd {α : Type} : ∀ {c : List ((Int × Int) × α)} (p : Int × Int) (x : α), keysD c → keysD (updT c p x)
  | [], p, x, h => by simp [updT]
  | (q, y) :: c, p, x, h => by
    rw [keysD, List.pairwise_cons] at h
    simp only [updT]
    split
    · rename_i e
      subst e
      rw [keysD, List.pairwise_cons]
      exact h
    · rename_i e
      rw [keysD, List.pairwise_cons]
      refine ⟨fun z hz => ?_, keysD_upd p x h.2⟩
      rcases updT_mem hz with rfl | hz
      · exact fun q => e q.symm
      · exact h.1 z hz
theorem fndT_of_mem {α : Type} : ∀ {c : List ((Int × Int) × α)} {e : (Int × Int) × α}, keysD c → e ∈ c → (fndT c e.1).map (·.2) = some e.2
  | [], e, _, h => by simp at h
  | (q, y) :: c, e, hk, h => by
    rw [keysD, List.pairwise_cons] at hk
    rcases List.mem_cons.1 h with rfl | h
    · simp [fndT]
    · have : ¬ e.1 = q := fun q => hk.1 e h q.symm
      simp only [fndT, if_neg this, Option.map_map]
      have ih := fndT_of_mem hk.2 h
      rw [← ih]
      rfl
theorem cntP_bump (c : List ((Int × Int) × Int)) (p q : Int × Int) : cntP (bumpP c p) q = if q = p then IntKind.i64.wrap (cntP c p + 1) else cntP c q := by
  unfold cntP bumpP
  rw [fndT_upd]
  split <;> rfl
theorem any_cnt {c : List ((Int × Int) × Int)} (hk : keysD c) : (c.any fun e => decide (1 < e.2)) = true ↔ ∃ p, 1 < cntP c p := by
  rw [List.any_eq_true]
  constructor
  · rintro ⟨e, he, h⟩
    refine ⟨e.1, ?_⟩
    unfold cntP
    rw [fndT_of_mem hk he]
    simpa using h
  · rintro ⟨p, h⟩
    unfold cntP at h
    cases hf : fndT c p with
    | none => rw [hf] at h; simp at h
    | some r =>
      obtain ⟨j, x⟩ := r
      rw [hf] at h
      exact ⟨(p, x), List.mem_of_getElem? (fndT_get hf).1, by simpa using h⟩
structure InF (mv : Int) (l : List Msg) (s : Fol) : Prop where
  mve : s.d.mv = mv
  stage : s.d.stage = if ofk mv 1 l = [] then 0 else 1
  frm : s.d.frm = (((ofk mv 1 l).getLast?).map (·.frm)).getD 0
  sent : s.d.sent = (((ofk mv 1 l).getLast?).map (·.alc)).getD 0
  to : s.d.to = match (ofk mv 2 l).getLast? with | some c => c.to | none => (((ofk mv 1 l).getLast?).map (·.to)).getD 0
  got : s.d.got = (((ofk mv 3 l).getLast?).map (·.alc)).getD 0
  chg : s.d.chg = (ofk mv 2 l).length
  en : s.en = !(ofk mv 5 l).isEmpty
  an : s.an = if ofk mv 4 l ≠ [] then 3 else if ofk mv 3 l ≠ [] then 2 else 0
  cnt : ∀ p, cntP s.cnt p = (l.countP fun m => m.mv == mv && partM m == some p : Nat)
  keys : keysD s.cnt
theorem ofk_len (mv k : Int) (l : List Msg) : (ofk mv k l).length ≤ l.length := List.length_filter_le _ _
theorem InF.step {mv : Int} {l : List Msg} {s : Fol} {m : Msg} (H : InF mv l s) (hs : Srt (l ++ [m])) (hm : checkM m = 0) (hl : l.length < 1000000) : InF mv (l ++ [m]) (stepF mv s m) := by
  obtain ⟨k0, k5, -⟩ := checkM_kind hm
  have hlt : ∀ x ∈ l, ltM x m = true := fun x hx => by
    rw [Srt, List.pairwise_append] at hs
    exact hs.2.2 x hx m (by simp)
  by_cases hmv : m.mv = mv
  · have noK : ∀ k, m.kind < k → ofk mv k l = [] := fun k hk => by
      rw [List.eq_nil_iff_forall_not_mem]
      intro x hx
      obtain ⟨h1, h2, h3⟩ := mem_ofk.1 hx
      have := ltM_lex (hlt x h1)
      have h4 := this.2 (by omega)
      omega
    have wr : IntKind.i64.wrap (((ofk mv 2 l).length : Int) + 1) = (((ofk mv 2 l).length + 1 : Nat) : Int) := by
      have := ofk_len mv 2 l
      rw [wrap64 (by omega) (by omega)]; rfl
    have cn : ∀ (p q : Int × Int) (b : Bool), ((partM m == some q) = b) → cntP s.cnt q = (l.countP fun m => m.mv == mv && partM m == some q : Nat) → (((l ++ [m]).countP fun m => m.mv == mv && partM m == some q : Nat) : Int) = cntP s.cnt q + if b = true then 1 else 0 := by
      intro p q b hb hc
      rw [List.countP_append, hc]
      simp [hmv, hb]
      cases b <;> rfl
    have wc : ∀ q, IntKind.i64.wrap (cntP s.cnt q + 1) = cntP s.cnt q + 1 := fun q => by
      have h1 := H.cnt q
      have h2 := List.countP_le_length (p := fun m : Msg => m.mv == mv && partM m == some q) (l := l)
      rw [wrap64 (by omega) (by omega)]
    have cb : ∀ p, partM m = some p → ∀ q, cntP (bumpP s.cnt p) q = ((l ++ [m]).countP fun m => m.mv == mv && partM m == some q : Nat) := fun p hp q => by
      rw [cntP_bump]
      by_cases e : q = p
      · subst e
        rw [if_pos rfl, wc, cn q q true (by simp [hp]) (H.cnt q)]; simp
      · rw [if_neg e, cn p q false (by simp [hp]; exact fun h => e h.symm) (H.cnt q)]; simp
    have kb : ∀ p, keysD (bumpP s.cnt p) := fun p => keysD_upd p _ H.keys
    have hk : m.kind = 1 ∨ m.kind = 2 ∨ m.kind = 3 ∨ m.kind = 4 ∨ m.kind = 5 := by omega
    rcases hk with k | k | k | k | k
    · have e2 := noK 2 (by omega)
      have st : stepF mv s m = { s with d := { s.d with stage := 1, frm := m.frm, to := m.to, sent := m.alc }, cnt := bumpP s.cnt (m.kind, m.num) } := by simp [stepF, hmv, k]
      rw [st]
      exact ⟨H.mve, by simp [ofk_snoc, hmv, k], by simp [ofk_snoc, hmv, k], by simp [ofk_snoc, hmv, k], by simp [ofk_snoc, hmv, k, e2], by simp [ofk_snoc, hmv, k, H.got], by simp [ofk_snoc, hmv, k, H.chg], by simp [ofk_snoc, hmv, k, H.en], by simp [ofk_snoc, hmv, k, H.an], cb _ (by simp [partM, k]), kb _⟩
    · have st : stepF mv s m = { s with d := { s.d with to := m.to, chg := IntKind.i64.wrap (s.d.chg + 1) }, cnt := bumpP s.cnt (m.kind, m.num) } := by simp [stepF, hmv, k]
      rw [st]
      exact ⟨H.mve, by simp [ofk_snoc, hmv, k, H.stage], by simp [ofk_snoc, hmv, k, H.frm], by simp [ofk_snoc, hmv, k, H.sent], by simp [ofk_snoc, hmv, k], by simp [ofk_snoc, hmv, k, H.got], by simp [ofk_snoc, hmv, k, H.chg, wr], by simp [ofk_snoc, hmv, k, H.en], by simp [ofk_snoc, hmv, k, H.an], cb _ (by simp [partM, k]), kb _⟩
    · have e4 := noK 4 (by omega)
      have st : stepF mv s m = { s with d := { s.d with got := m.alc }, an := 2, cnt := bumpP s.cnt (m.kind, m.num) } := by simp [stepF, hmv, k]
      rw [st]
      exact ⟨H.mve, by simp [ofk_snoc, hmv, k, H.stage], by simp [ofk_snoc, hmv, k, H.frm], by simp [ofk_snoc, hmv, k, H.sent], by simp [ofk_snoc, hmv, k, H.to], by simp [ofk_snoc, hmv, k], by simp [ofk_snoc, hmv, k, H.chg], by simp [ofk_snoc, hmv, k, H.en], by simp [ofk_snoc, hmv, k, e4], cb _ (by simp [partM, k]), kb _⟩
    · have st : stepF mv s m = { s with an := 3, cnt := bumpP s.cnt (3, m.num) } := by simp [stepF, hmv, k]
      rw [st]
      exact ⟨H.mve, by simp [ofk_snoc, hmv, k, H.stage], by simp [ofk_snoc, hmv, k, H.frm], by simp [ofk_snoc, hmv, k, H.sent], by simp [ofk_snoc, hmv, k, H.to], by simp [ofk_snoc, hmv, k, H.got], by simp [ofk_snoc, hmv, k, H.chg], by simp [ofk_snoc, hmv, k, H.en], by simp [ofk_snoc, hmv, k], cb _ (by simp [partM, k]), kb _⟩
    · have st : stepF mv s m = { s with en := true } := by simp [stepF, hmv, k]
      rw [st]
      exact ⟨H.mve, by simp [ofk_snoc, hmv, k, H.stage], by simp [ofk_snoc, hmv, k, H.frm], by simp [ofk_snoc, hmv, k, H.sent], by simp [ofk_snoc, hmv, k, H.to], by simp [ofk_snoc, hmv, k, H.got], by simp [ofk_snoc, hmv, k, H.chg], by simp [ofk_snoc, hmv, k], by simp [ofk_snoc, hmv, k, H.an], fun q => by rw [cn q q false (by simp [partM, k]) (H.cnt q)]; simp, H.keys⟩
  · have st : stepF mv s m = s := by simp [stepF, hmv]
    have ek : ∀ k, ofk mv k (l ++ [m]) = ofk mv k l := fun k => by rw [ofk_snoc, if_neg (by simp [hmv])]
    rw [st]
    exact ⟨H.mve, by rw [ek]; exact H.stage, by rw [ek]; exact H.frm, by rw [ek]; exact H.sent, by rw [ek, ek]; exact H.to, by rw [ek]; exact H.got, by rw [ek]; exact H.chg, by rw [ek]; exact H.en, by rw [ek, ek]; exact H.an, fun p => by rw [List.countP_append, H.cnt p]; simp [hmv], H.keys⟩
theorem InF.beg (mv : Int) : InF mv [] (begF mv) := ⟨rfl, rfl, rfl, rfl, rfl, rfl, rfl, rfl, rfl, fun p => rfl, .nil⟩
theorem InF.all {mv : Int} {l : List Msg} (hs : Srt l) (hv : ∀ m ∈ l, checkM m = 0) (hl : l.length < 1000000) : ∀ i, i ≤ l.length → InF mv (l.take i) (folF mv (l.take i))
  | 0, _ => by rw [List.take_zero]; exact InF.beg mv
  | i + 1, hi => by
    have ih := InF.all (mv := mv) hs hv hl i (by omega)
    have hx : l[i]? = some l[i] := List.getElem?_eq_getElem (by omega)
    have ht := take_succ_get hx
    have : folF mv (l.take (i + 1)) = stepF mv (folF mv (l.take i)) l[i] := by
      unfold folF; rw [ht, List.foldl_append]; rfl
    rw [this, ht]
    refine ih.step ?_ (hv _ (List.getElem_mem _)) (by simp; omega)
    rw [← ht]
    exact hs.sublist (List.take_sublist _ _)
theorem conflict_iff {mv : Int} {l : List Msg} (hv : ∀ m ∈ l, checkM m = 0) : (∃ p, 1 < (l.countP fun m => m.mv == mv && partM m == some p)) ↔ (1 < (ofk mv 1 l).length ∨ 1 < (ofk mv 3 l).length + (ofk mv 4 l).length ∨ ¬ ((ofk mv 2 l).map (·.num)).Nodup) := by
  have h1 : (l.countP fun m => m.mv == mv && partM m == some (1, 0)) = (ofk mv 1 l).length := by
    unfold ofk
    rw [← List.countP_eq_length_filter]
    refine List.countP_congr fun m hm => ?_
    have hk := checkM_kind (hv m hm)
    have hn := checkM_num (hv m hm)
    simp only [Bool.and_eq_true, beq_iff_eq, partM]
    constructor
    · rintro ⟨a, b⟩
      refine ⟨a, ?_⟩
      split at b
      · simp at b
      · split at b
        · simp at b
        · simp at b; exact b.1
    · rintro ⟨a, b⟩
      exact ⟨a, by simp [b, hn (.inl b)]⟩
  have h3 : (l.countP fun m => m.mv == mv && partM m == some (3, 0)) = (ofk mv 3 l).length + (ofk mv 4 l).length := by
    unfold ofk
    rw [← List.countP_eq_length_filter, ← List.countP_eq_length_filter]
    clear h1
    induction l with
    | nil => rfl
    | cons m l ih =>
      have ih := ih fun x hx => hv x (by simp [hx])
      have hn := checkM_num (hv m (by simp))
      simp only [List.countP_cons, ih]
      by_cases hmv : m.mv = mv
      · by_cases q5 : m.kind = 5
        · simp [partM, hmv, q5]
        · by_cases q4 : m.kind = 4
          · simp [partM, hmv, q4, hn (.inr (.inr (.inl q4)))]; omega
          · by_cases q3 : m.kind = 3
            · simp [partM, hmv, q3, hn (.inr (.inl q3))]; omega
            · simp [partM, hmv, q5, q4, q3]
      · simp [hmv]
  have h2 : ∀ j, (l.countP fun m => m.mv == mv && partM m == some (2, j)) = ((ofk mv 2 l).map (·.num)).count j := by
    intro j
    clear h1 h3
    rw [List.count_eq_countP, List.countP_map]
    unfold ofk
    rw [List.countP_filter]
    refine List.countP_congr fun m hm => ?_
    simp only [Bool.and_eq_true, beq_iff_eq, partM, Function.comp]
    constructor
    · rintro ⟨a, b⟩
      split at b
      · simp at b
      · split at b
        · simp at b
        · simp at b; exact ⟨b.2, a, b.1⟩
    · rintro ⟨a, b, c⟩
      exact ⟨b, by simp [c, a]⟩
  constructor
  · rintro ⟨⟨a, b⟩, h⟩
    -- the key is one of these
    obtain ⟨m, hm, hp⟩ := List.countP_pos_iff.1 (by omega : 0 < l.countP fun m => m.mv == mv && partM m == some (a, b))
    simp only [Bool.and_eq_true, beq_iff_eq] at hp
    have hk := checkM_kind (hv m hm)
    have hn := checkM_num (hv m hm)
    have hpp := hp.2
    unfold partM at hpp
    split at hpp
    · simp at hpp
    · split at hpp
      · rename_i q5 q4
        simp at hpp
        obtain ⟨rfl, rfl⟩ := hpp
        rw [hn (.inr (.inr (.inl q4))), h3] at h
        exact .inr (.inl h)
      · rename_i q5 q4
        simp at hpp
        obtain ⟨rfl, rfl⟩ := hpp
        have : m.kind = 1 ∨ m.kind = 2 ∨ m.kind = 3 := by omega
        rcases this with k | k | k
        · rw [k, hn (.inl k), h1] at h; exact .inl h
        · rw [k, h2] at h
          refine .inr (.inr fun hnd => ?_)
          rw [List.nodup_iff_count] at hnd
          have := hnd m.num
          omega
        · rw [k, hn (.inr (.inl k)), h3] at h; exact .inr (.inl h)
  · rintro (h | h | h)
    · exact ⟨(1, 0), by rw [h1]; exact h⟩
    · exact ⟨(3, 0), by rw [h3]; exact h⟩
    · rw [List.nodup_iff_count] at h
      simp only [Classical.not_forall] at h
      obtain ⟨j, hj⟩ := h
      exact ⟨(2, j), by rw [h2]; omega⟩
theorem docF_eq {mv : Int} {l : List Msg} (hs : Srt l) (hv : ∀ m ∈ l, checkM m = 0) (hl : l.length < 1000000) : docF mv l = docS mv l := by
  have H := InF.all (mv := mv) hs hv hl l.length (Nat.le_refl _)
  rw [List.take_length] at H
  unfold docF
  generalize folF mv l = s at *
  unfold endF docS
  cases hd : (ofk mv 1 l).getLast? with
  | none =>
    have h0 : ofk mv 1 l = [] := List.getLast?_eq_none_iff.1 hd
    rw [if_pos (by rw [H.stage, if_pos h0])]
  | some d =>
    have h0 : ofk mv 1 l ≠ [] := fun e => by rw [e] at hd; simp at hd
    have hst : s.d.stage = 1 := by rw [H.stage, if_neg h0]
    rw [if_neg (by rw [hst]; decide)]
    simp only []
    have hc : (s.cnt.any fun e => decide (1 < e.2)) = true ↔ (1 < (ofk mv 1 l).length ∨ 1 < (ofk mv 3 l).length + (ofk mv 4 l).length ∨ ¬ ((ofk mv 2 l).map (·.num)).Nodup) := by
      rw [any_cnt H.keys, ← conflict_iff hv]
      constructor
      · rintro ⟨p, h⟩; rw [H.cnt] at h; exact ⟨p, by omega⟩
      · rintro ⟨p, h⟩; exact ⟨p, by rw [H.cnt]; omega⟩
    by_cases hcc : (s.cnt.any fun e => decide (1 < e.2)) = true
    · rw [if_pos hcc, if_pos (hc.1 hcc)]
    · rw [if_neg hcc, if_neg fun h => hcc (hc.2 h)]
      obtain ⟨⟨d0, d1, d2, d3, d4, d5, d6⟩, en, an, c⟩ := s
      obtain ⟨q1, q2, q3, q4, q5, q6, q7, q8, q9, -, -⟩ := H
      simp only at q1 q2 q3 q4 q5 q6 q7 q8 q9 hst
      rw [hd] at q3 q4 q5
      subst q1 q3 q4 q6 q7 q8 q9 hst
      simp only [Option.map_some, Option.getD_some] at q5 ⊢
      subst q5
      by_cases r3 : ofk d0 3 l = []
      · by_cases r4 : ofk d0 4 l = []
        · simp [r3, r4]
        · by_cases r5 : ofk d0 5 l = []
          · simp [r3, r4, r5]
          · simp [r3, r4, r5]
      · by_cases r4 : ofk d0 4 l = []
        · by_cases r5 : ofk d0 5 l = []
          · simp [r3, r4, r5]
          · simp [r3, r4, r5]
        · by_cases r5 : ofk d0 5 l = []
          · simp [r3, r4, r5]
          · simp [r3, r4, r5]
end Go.AM


namespace Go.AM
open Go.Proofs
set_option linter.unusedVariables false
set_option linter.unusedSimpArgs false
set_option linter.constructorNameAsVariable false
set_option maxRecDepth 20000
attribute [local congr] arithK_cg eqK_cg notK_cg convK_cg pickK_cg buildK_cg ldK_cg nilK_cg sliceK_cg faK_cg fldK_cg iaK_cg iaA_cg lookK_cg capK_cg exK_cg lenK_cg minK_cg maxK_cg effK_cg callK_cg callVK_cg effD_cg gopD_cg grpK_cg condK_cg cond_cg
structure Frs where
  d : Docu
  dis : Int
  ans : Int
  en : Int
  cf : Bool
  rf : Bool
def stepR (mv : Int) (p : Msg) (s : Frs) (m : Msg) : Frs :=
  if m.mv ≠ mv then s
  else if m.kind = 1 then { s with d := { s.d with frm := m.frm, to := m.to, sent := m.alc }, dis := IntKind.i64.wrap (s.dis + 1) }
  else if m.kind = 2 then { s with d := { s.d with to := m.to, chg := IntKind.i64.wrap (s.d.chg + 1) }, cf := s.cf || (p.mv == mv && p.kind == m.kind && p.num == m.num) }
  else if m.kind = 3 then { s with d := { s.d with got := m.alc }, ans := IntKind.i64.wrap (s.ans + 1) }
  else if m.kind = 4 then { s with ans := IntKind.i64.wrap (s.ans + 1), rf := true }
  else { s with en := IntKind.i64.wrap (s.en + 1) }
def foldR (mv : Int) : Msg → Frs → List Msg → Frs
  | _, s, [] => s
  | p, s, m :: l => foldR mv m (stepR mv p s m) l
def begR (mv : Int) : Frs := ⟨noneD mv, 0, 0, 0, false, false⟩
def zeroM : Msg := ⟨0, 0, 0, 0, 0, 0, 0⟩
section
variable {β : Type}
variable {o0 o1 : AObj} {g t : Hp} {m : Msg}
theorem le0 (h : Hp) (k : Go.AM.K β) : ldK 1 false (.ep (encM m) 0) h k = k (I m.mv) := rfl
end
end Go.AM


namespace Go.AM
open Go.Proofs
set_option linter.unusedVariables false
set_option linter.unusedSimpArgs false
set_option linter.constructorNameAsVariable false
set_option maxRecDepth 20000
structure InR (mv : Int) (l : List Msg) (s : Frs) : Prop where
  mve : s.d.mv = mv
  stage : s.d.stage = 0
  frm : s.d.frm = (((ofk mv 1 l).getLast?).map (·.frm)).getD 0
  sent : s.d.sent = (((ofk mv 1 l).getLast?).map (·.alc)).getD 0
  to : s.d.to = match (ofk mv 2 l).getLast? with | some c => c.to | none => (((ofk mv 1 l).getLast?).map (·.to)).getD 0
  got : s.d.got = (((ofk mv 3 l).getLast?).map (·.alc)).getD 0
  chg : s.d.chg = (ofk mv 2 l).length
  dis : s.dis = (ofk mv 1 l).length
  ans : s.ans = ((ofk mv 3 l).length + (ofk mv 4 l).length : Nat)
  en : s.en = (ofk mv 5 l).length
  rf : s.rf = !(ofk mv 4 l).isEmpty
  cf : s.cf = decide (¬ ((ofk mv 2 l).map (·.num)).Nodup)
theorem srt_last {l : List Msg} {m p x : Msg} (hs : Srt (l ++ [m])) (hp : (zeroM :: l).getLast? = some p) (hx : x ∈ l) : p ∈ l ∧ (x = p ∨ ltM x p = true) := by
  rcases List.eq_nil_or_concat l with rfl | ⟨l', q, rfl⟩
  · simp at hx
  · rw [List.concat_eq_append] at *
    have : p = q := by rw [← List.cons_append, List.getLast?_append] at hp; simpa using hp.symm
    subst this
    refine ⟨by simp, ?_⟩
    rcases List.mem_append.1 hx with hx | hx
    · right
      rw [Srt, List.append_assoc, List.pairwise_append] at hs
      exact hs.2.2 x hx p (by simp)
    · simp at hx; exact .inl hx
theorem InR.step {mv : Int} {l : List Msg} {s : Frs} {m p : Msg} (H : InR mv l s) (hs : Srt (l ++ [m])) (hm : checkM m = 0) (hp : (zeroM :: l).getLast? = some p) (h0 : mv ≠ 0) (hl : l.length < 1000000) : InR mv (l ++ [m]) (stepR mv p s m) := by
  obtain ⟨k0, k5, -⟩ := checkM_kind hm
  have hlt : ∀ x ∈ l, ltM x m = true := fun x hx => by
    rw [Srt, List.pairwise_append] at hs
    exact hs.2.2 x hx m (by simp)
  by_cases hmv : m.mv = mv
  · have noK : ∀ k, m.kind < k → ofk mv k l = [] := fun k hk => by
      rw [List.eq_nil_iff_forall_not_mem]
      intro x hx
      obtain ⟨h1, h2, h3⟩ := mem_ofk.1 hx
      have := ltM_lex (hlt x h1)
      have h4 := this.2 (by omega)
      omega
    have wr : ∀ k, IntKind.i64.wrap (((ofk mv k l).length : Int) + 1) = ((ofk mv k l).length : Int) + 1 := fun k => by
      have := ofk_len mv k l
      rw [wrap64 (by omega) (by omega)]
    have wa : IntKind.i64.wrap (((((ofk mv 3 l).length + (ofk mv 4 l).length : Nat)) : Int) + 1) = ((((ofk mv 3 l).length + (ofk mv 4 l).length : Nat)) : Int) + 1 := by
      have h3 := ofk_len mv 3 l
      have h4 := ofk_len mv 4 l
      rw [wrap64 (by omega) (by omega)]
    have hk : m.kind = 1 ∨ m.kind = 2 ∨ m.kind = 3 ∨ m.kind = 4 ∨ m.kind = 5 := by omega
    rcases hk with k | k | k | k | k
    · have e2 := noK 2 (by omega)
      have st : stepR mv p s m = { s with d := { s.d with frm := m.frm, to := m.to, sent := m.alc }, dis := IntKind.i64.wrap (s.dis + 1) } := by simp [stepR, hmv, k]
      rw [st]
      exact ⟨H.mve, H.stage, by simp [ofk_snoc, hmv, k], by simp [ofk_snoc, hmv, k], by simp [ofk_snoc, hmv, k, e2], by simp [ofk_snoc, hmv, k, H.got], by simp [ofk_snoc, hmv, k, H.chg], by simp [ofk_snoc, hmv, k, H.dis, wr], by simp [ofk_snoc, hmv, k, H.ans], by simp [ofk_snoc, hmv, k, H.en], by simp [ofk_snoc, hmv, k, H.rf], by simp [ofk_snoc, hmv, k, H.cf]⟩
    · have st : stepR mv p s m = { s with d := { s.d with to := m.to, chg := IntKind.i64.wrap (s.d.chg + 1) }, cf := s.cf || (p.mv == mv && p.kind == m.kind && p.num == m.num) } := by simp [stepR, hmv, k]
      rw [st]
      refine ⟨H.mve, H.stage, by simp [ofk_snoc, hmv, k, H.frm], by simp [ofk_snoc, hmv, k, H.sent], by simp [ofk_snoc, hmv, k], by simp [ofk_snoc, hmv, k, H.got], by simp [ofk_snoc, hmv, k, H.chg, wr], by simp [ofk_snoc, hmv, k, H.dis], by simp [ofk_snoc, hmv, k, H.ans], by simp [ofk_snoc, hmv, k, H.en], by simp [ofk_snoc, hmv, k, H.rf], ?_⟩
      rw [ofk_snoc, if_pos ⟨hmv, k⟩, List.map_append, H.cf]
      rw [Bool.eq_iff_iff]
      simp only [Bool.or_eq_true, Bool.and_eq_true, beq_iff_eq, decide_eq_true_eq]
      rw [List.nodup_append]
      have key : (p.mv = mv ∧ p.kind = m.kind) ∧ p.num = m.num ↔ ∃ x ∈ ofk mv 2 l, x.num = m.num := by
        constructor
        · rintro ⟨⟨h1, h2⟩, h3⟩
          have hpl : p ∈ l := by
            rcases List.eq_nil_or_concat l with rfl | ⟨l', q, rfl⟩
            · simp at hp; subst hp; exact absurd h1.symm h0
            · rw [List.concat_eq_append, ← List.cons_append, List.getLast?_append] at hp
              have : q = p := by simpa using hp
              simp [this]
          exact ⟨p, mem_ofk.2 ⟨hpl, h1, by omega⟩, h3⟩
        · rintro ⟨x, hx, h3⟩
          obtain ⟨h1, h2, h4⟩ := mem_ofk.1 hx
          obtain ⟨hpl, hxp⟩ := srt_last hs hp h1
          rcases hxp with rfl | hxp
          · exact ⟨⟨h2, by omega⟩, h3⟩
          · have a1 := ltM_lex hxp
            have a2 := ltM_lex (hlt p hpl)
            omega
      constructor
      · rintro (h | h)
        · exact fun q => h q.1
        · obtain ⟨x, hx, hxn⟩ := key.1 h
          intro q
          exact q.2.2 x.num (List.mem_map.2 ⟨x, hx, rfl⟩) m.num (by simp) hxn
      · intro h
        by_cases hn : ((ofk mv 2 l).map (·.num)).Nodup
        · right
          refine key.2 ?_
          rcases Classical.em (∃ x ∈ ofk mv 2 l, x.num = m.num) with h2 | h2
          · exact h2
          · refine absurd ⟨hn, by simp, ?_⟩ h
            intro a ha b hb hab
            obtain ⟨x, hx, rfl⟩ := List.mem_map.1 ha
            simp at hb
            exact h2 ⟨x, hx, by rw [hab, hb]⟩
        · exact .inl hn
    · have st : stepR mv p s m = { s with d := { s.d with got := m.alc }, ans := IntKind.i64.wrap (s.ans + 1) } := by simp [stepR, hmv, k]
      rw [st]
      exact ⟨H.mve, H.stage, by simp [ofk_snoc, hmv, k, H.frm], by simp [ofk_snoc, hmv, k, H.sent], by simp [ofk_snoc, hmv, k, H.to], by simp [ofk_snoc, hmv, k], by simp [ofk_snoc, hmv, k, H.chg], by simp [ofk_snoc, hmv, k, H.dis], by rw [H.ans, wa, ofk_snoc, ofk_snoc, if_pos ⟨hmv, k⟩, if_neg (by omega), List.length_append]; simp; omega, by simp [ofk_snoc, hmv, k, H.en], by simp [ofk_snoc, hmv, k, H.rf], by simp [ofk_snoc, hmv, k, H.cf]⟩
    · have st : stepR mv p s m = { s with ans := IntKind.i64.wrap (s.ans + 1), rf := true } := by simp [stepR, hmv, k]
      rw [st]
      exact ⟨H.mve, H.stage, by simp [ofk_snoc, hmv, k, H.frm], by simp [ofk_snoc, hmv, k, H.sent], by simp [ofk_snoc, hmv, k, H.to], by simp [ofk_snoc, hmv, k, H.got], by simp [ofk_snoc, hmv, k, H.chg], by simp [ofk_snoc, hmv, k, H.dis], by rw [H.ans, wa, ofk_snoc, ofk_snoc, if_neg (by omega), if_pos ⟨hmv, k⟩, List.length_append]; simp; omega, by simp [ofk_snoc, hmv, k, H.en], by simp [ofk_snoc, hmv, k], by simp [ofk_snoc, hmv, k, H.cf]⟩
    · have st : stepR mv p s m = { s with en := IntKind.i64.wrap (s.en + 1) } := by simp [stepR, hmv, k]
      rw [st]
      exact ⟨H.mve, H.stage, by simp [ofk_snoc, hmv, k, H.frm], by simp [ofk_snoc, hmv, k, H.sent], by simp [ofk_snoc, hmv, k, H.to], by simp [ofk_snoc, hmv, k, H.got], by simp [ofk_snoc, hmv, k, H.chg], by simp [ofk_snoc, hmv, k, H.dis], by simp [ofk_snoc, hmv, k, H.ans], by simp [ofk_snoc, hmv, k, H.en, wr], by simp [ofk_snoc, hmv, k, H.rf], by simp [ofk_snoc, hmv, k, H.cf]⟩
  · have st : stepR mv p s m = s := by simp [stepR, hmv]
    have ek : ∀ k, ofk mv k (l ++ [m]) = ofk mv k l := fun k => by rw [ofk_snoc, if_neg (by simp [hmv])]
    rw [st]
    exact ⟨H.mve, H.stage, by rw [ek]; exact H.frm, by rw [ek]; exact H.sent, by rw [ek, ek]; exact H.to, by rw [ek]; exact H.got, by rw [ek]; exact H.chg, by rw [ek]; exact H.dis, by rw [ek, ek]; exact H.ans, by rw [ek]; exact H.en, by rw [ek]; exact H.rf, by rw [ek]; exact H.cf⟩
theorem InR.beg (mv : Int) : InR mv [] (begR mv) := ⟨rfl, rfl, rfl, rfl, rfl, rfl, rfl, rfl, rfl, rfl, rfl, rfl⟩
theorem InR.all {mv : Int} (h0 : mv ≠ 0) : ∀ (post pre : List Msg) (p : Msg) (s : Frs), Srt (pre ++ post) → (∀ m ∈ post, checkM m = 0) → (pre ++ post).length < 1000000 → (zeroM :: pre).getLast? = some p → InR mv pre s → InR mv (pre ++ post) (foldR mv p s post)
  | [], pre, p, s, _, _, _, _, H => by simpa [foldR] using H
  | m :: post, pre, p, s, hs, hv, hl, hp, H => by
    have e : pre ++ m :: post = (pre ++ [m]) ++ post := by simp
    rw [e] at hs hl ⊢
    refine InR.all h0 post (pre ++ [m]) m (stepR mv p s m) hs (fun x hx => hv x (by simp [hx])) hl (by rw [← List.cons_append, List.getLast?_append]; simp) (H.step ?_ (hv m (by simp)) hp h0 (by simp at hl; omega))
    exact hs.sublist (List.sublist_append_left _ _)
end Go.AM


namespace Go.AM
open Go.Proofs
set_option linter.unusedVariables false
set_option linter.unusedSimpArgs false
set_option linter.constructorNameAsVariable false
set_option maxRecDepth 20000
attribute [local congr] arithK_cg eqK_cg notK_cg convK_cg pickK_cg buildK_cg ldK_cg nilK_cg sliceK_cg faK_cg fldK_cg iaK_cg iaA_cg lookK_cg capK_cg exK_cg lenK_cg minK_cg maxK_cg effK_cg callK_cg callVK_cg effD_cg gopD_cg grpK_cg condK_cg cond_cg
theorem normL_ok {l : List Msg} (h : errM l = 0) : (normL l).length ≤ 64 ∧ ∀ m ∈ normL l, checkM m = 0 := by
  obtain ⟨h1, h2⟩ := errM_zero.1 h
  exact ⟨Nat.le_trans (normL_length l) h1, fun m hm => h2 m (mem_normL.1 hm)⟩
def allG (n : List Msg) : Int → List Msg → List Docu
  | _, [] => []
  | p, m :: l => if m.mv ≠ p then docS m.mv n :: allG n m.mv l else allG n p l
theorem allG_len (n : List Msg) : ∀ (l : List Msg) (p : Int), (allG n p l).length ≤ l.length
  | [], p => by simp [allG]
  | m :: l, p => by
    have h1 := allG_len n l m.mv
    have h2 := allG_len n l p
    simp only [allG]
    split <;> simp <;> omega
def allS (l : List Msg) : List Docu := if errM l = 0 then allG (normL l) 0 (normL l) else []
theorem allS_len (l : List Msg) : (allS l).length ≤ l.length := by
  have h1 := allG_len (normL l) (normL l) 0
  have h2 := normL_length l
  unfold allS
  split
  · omega
  · simp
section
variable {β : Type}
theorem bxh {h : Hp} (k : AV → Hp → Option β) : effK (boxE 7 (.agg zM) h.length) h k = k (.ptr h.length 0 0 1) (h ++ [.arr 7 [zM] true false]) := effK_box 7 h.length (.agg zM) h k rfl rfl rfl
theorem sth {h : Hp} {m : Msg} (k : AV → Hp → Option β) : effK (stE 7 (.ptr h.length 0 0 1) (.agg (encM m)) (h ++ [.arr 7 [zM] true false])) (h ++ [.arr 7 [zM] true false]) k = k .u (h ++ [.arr 7 [encM m] true false]) := by
  rw [effK_put (v := .u) (id := h.length) (o := .arr 7 [encM m] true false) (ft := [h.length]) (by simp [encM]), set_new0]; rfl
theorem lh0 {h : Hp} {m : Msg} (k : Go.AM.K β) : ldK 1 false (.ptr h.length 0 0 1) (h ++ [.arr 7 [encM m] true false]) k = k (I m.mv) := by simp [encM]
theorem bsD {h : Hp} {d : Docu} (k : AV → Hp → Option β) : effK (bsE 7 zM 1 [(0, .agg (encDo d))] h.length) h k = k (.sl 7 h.length 0 1 1 true) (h ++ [.arr 7 [encDo d] true false]) := by simp [bsE, fillS, encDo, effK, ap]
theorem gro_doc {h : Hp} {v : AV} {o : List Docu} {d : Docu} (O : Gro 7 encDo h v o) (hl : o.length < 1000000) : ∃ v' h', (∀ {β : Type} (k : AV → Hp → Option β), effK (appE 7 56 v (.sl 7 h.length 0 1 1 true) (h ++ [.arr 7 [encDo d] true false]) (h ++ [AObj.arr 7 [encDo d] true false]).length) (h ++ [.arr 7 [encDo d] true false]) k = k v' h') ∧ Gro 7 encDo h' v' (o ++ [d]) := by
  obtain ⟨v', e, a1, a2, -⟩ := Gro.snocE (h := h ++ [AObj.arr 7 [encDo d] true false]) (by_ := 56) (m := h.length) (z := d) (b := true) (O.app [AObj.arr 7 [encDo d] true false]) (by simp) (fun q => by have := O.lt q; omega) (by simp [encDo]) (by omega)
  exact ⟨v', _, fun k => by rw [a1]; rfl, a2⟩
end
theorem All_L2 {N : Nat} {x0 : AV → Hp → Option AV} {X : Option AV} {n : List Msg} {b : Bool} (hs : Srt n) (hv : ∀ m ∈ n, checkM m = 0) (hl : n.length < 1000) (hx : ∀ v h, Gro 7 encDo h v (allG n 0 n) → x0 v h = X) : ∀ (k : Nat) (pre post : List Msg) (p : Int) (o : List Docu) (v : AV) (h : Hp), n = pre ++ post → post.length < k → (pre = [] → p = 0) → (∀ q, pre.getLast? = some q → p = q.mv) → o ++ allG n p post = allG n 0 n → o.length ≤ pre.length → Gro 7 encDo h v o →
    f_document_All_L2 Try.prog t_document_All d_document_All N x0 k (.lst 7 b (n.map encM)) v (.lst 7 b (n.map encM)) (I n.length) (I pre.length) h = X := by
  intro k
  induction k with
  | zero => intro pre post p o v h _ h2; omega
  | succ k ih =>
    intro pre post p o v h hc hn hp0 hp ho hol O
    show f_document_All_b2 Try.prog t_document_All d_document_All N (f_document_All_L2 Try.prog t_document_All d_document_All N x0 k) x0 _ _ _ _ _ h = _
    cases post with
    | nil =>
      have : n = pre := by simpa using hc
      subst this
      have c1 : ¬ ((n.length : Int) < (n.length : Int)) := by omega
      simp -implicitDefEqProofs only [f_document_All_b2, arithK_lss, c1, decide_false, condK_bool, Bool.false_eq_true, if_false]
      simp only [allG, List.append_nil] at ho
      exact hx v h (by rw [← ho]; exact O)
    | cons m post =>
      have hi : pre.length < n.length := by rw [hc]; simp
      have hci : n[pre.length]? = some m := by rw [hc]; simp
      have hmn : m ∈ n := by rw [hc]; simp
      obtain ⟨-, -, hm1, -⟩ := checkM_kind (hv m hmn)
      have hlt : ((pre.length : Int) < (n.length : Int)) := by omega
      have hw : IntKind.i64.wrap ((pre.length : Int) + 1) = (((pre ++ [m]).length : Nat) : Int) := by rw [wrap64 (by omega) (by omega)]; simp
      have ic : ∀ k : Go.AM.K AV, iaK 7 (.lst 7 b (n.map encM)) (I pre.length) k = k (.ep (encM m) 0) := fun k => iaK_at pre.length rfl hci k
      have ld : ∀ k : Go.AM.K AV, ldK 7 true (.ep (encM m) 0) h k = k (.agg (encM m)) := fun k => rfl
      have O1 := O.app [AObj.arr 7 [encM m] true false]
      have cnd : ∀ (K : AV → Hp → Option AV), grpK false (.s (.bool ((pre.length : Int) == 0))) (h ++ [.arr 7 [encM m] true false]) (fun k16 => arithK .sub (I pre.length) (.s (.int .i64 1)) fun x19 => iaK 7 (.lst 7 b (n.map encM)) x19 fun x20 => faK 0 x20 fun x21 => ldK 1 false x21 (h ++ [.arr 7 [encM m] true false]) fun x22 => eqK Try.prog true 3 (I m.mv) x22 (h ++ [.arr 7 [encM m] true false]) fun x23 => k16 x23 (h ++ [.arr 7 [encM m] true false])) K = K (B (!(m.mv == p))) (h ++ [.arr 7 [encM m] true false]) := fun K => by
        rcases List.eq_nil_or_concat pre with e | ⟨pre', q, e⟩
        · subst e
          have : (m.mv == p) = false := by rw [hp0 rfl]; simp; omega
          rw [this]
          rfl
        · rw [List.concat_eq_append] at e
          subst e
          have hq : p = q.mv := hp q (by simp)
          have e0 : (((pre' ++ [q]).length : Nat) : Int) ≠ 0 := by simp; omega
          have e0' : ((((pre' ++ [q]).length : Nat) : Int) == 0) = false := by simpa using e0
          have w1 : IntKind.i64.wrap ((((pre' ++ [q]).length : Nat) : Int) - 1) = ((pre'.length : Nat) : Int) := by
            have hpl : (pre' ++ [q]).length = pre'.length + 1 := by simp
            rw [hpl] at hi ⊢
            rw [wrap64 (by omega) (by omega)]; omega
          have gq : n[pre'.length]? = some q := by rw [hc]; simp
          have iq : ∀ k : Go.AM.K AV, iaK 7 (.lst 7 b (n.map encM)) (I pre'.length) k = k (.ep (encM q) 0) := fun k => iaK_at pre'.length rfl gq k
          simp -implicitDefEqProofs only [e0', grpK_ff, arithK_sub, w1, iq, faK_ep, Nat.add_zero, le0, eqK_int, Bool.true_xor, hq]
      simp -implicitDefEqProofs only [f_document_All_b2, arithK_lss, hlt, decide_true, condK_bool, if_true, ic, ld, bxh, sth, eqK_int, Bool.false_xor, faK_ptr, Nat.zero_add, lh0, cnd]
      by_cases hmp : m.mv = p
      · have e : (m.mv == p) = true := by simpa using hmp
        simp -implicitDefEqProofs only [e, Bool.not_true, Bool.false_eq_true, if_false, f_document_All_j4, f_document_All_j3, arithK_add, hw]
        simp only [allG, hmp, ne_eq, not_true_eq_false, if_false] at ho
        refine ih (pre ++ [m]) post p o v _ (by simpa using hc) (by simpa using hn) (by simp) (fun q hq => ?_) ho (by simp; omega) O1
        simp at hq; rw [← hq]; exact hmp.symm
      · have e : (m.mv == p) = false := by simpa using hmp
        have fo := fun h => F_document_of_val n b m.mv (by omega) h
        rw [docF_eq hs hv (by omega)] at fo
        have hoN : o.length < 1000000 := by omega
        obtain ⟨v', h', g1, g2⟩ := gro_doc (d := docS m.mv n) O1 hoN
        simp -implicitDefEqProofs only [e, Bool.not_false, if_true, t_document_All_66, callK_F, fo, bsD, g1, f_document_All_j4, f_document_All_j3, arithK_add, hw]
        simp only [allG, if_pos hmp] at ho
        exact ih (pre ++ [m]) post m.mv (o ++ [docS m.mv n]) v' h' (by simpa using hc) (by simpa using hn) (by simp) (fun q hq => by simp at hq; rw [hq]) (by simpa using ho) (by simp; omega) g2
theorem All_key (l : List Msg) (b : Bool) (hl : l.length < 1000) : ∃ w, (∀ st, f_document_All Try.prog t_document_All d_document_All NN (fun v g => cvt st g v) (SLm b l) [] = some (.tup [w, I (errM l)])) ∧ nrm (.l 7) w = .lst 7 (allS l).isEmpty ((allS l).map encDo) := by
  have fN := F_document_Normal_val l b (by omega)
  have x0 : ∀ k : Go.AM.K AV, exK (normR b l) 0 k = k (if errM l = 0 then SLm b (normL l) else .lst 7 true []) := fun k => rfl
  have x1 : ∀ k : Go.AM.K AV, exK (normR b l) 1 k = k (I (errM l)) := fun k => rfl
  by_cases he : errM l = 0
  · have hn := normL_length l
    obtain ⟨w, hw1, hw2⟩ : ∃ w, (∀ st v h, Gro 7 encDo h v (allG (normL l) 0 (normL l)) → f_document_All_j1 Try.prog t_document_All d_document_All NN (fun v g => cvt st g v) v h = some (.tup [w, I 0])) ∧ nrm (.l 7) w = .lst 7 (allG (normL l) 0 (normL l)).isEmpty ((allG (normL l) 0 (normL l)).map encDo) := by
      by_cases hz : allG (normL l) 0 (normL l) = []
      · refine ⟨nilS, fun st v h O => ?_, by rw [hz]; rfl⟩
        rcases O with ⟨-, rfl⟩ | ⟨h1, -⟩
        · rfl
        · exact absurd hz h1
      · refine ⟨.lst 7 false ((allG (normL l) 0 (normL l)).map encDo), fun st v h O => ?_, ?_⟩
        · rcases O with ⟨h1, -⟩ | ⟨h1, k, rfl, h2⟩
          · exact absurd h1 hz
          · have := cvt_whole (st := st) (full := false) h2 (n := (allG (normL l) 0 (normL l)).length) (fr := (allG (normL l) 0 (normL l)).length) (by simp) (by simp) (okE_map fun x => by cases st <;> simp [encDo, isS])
            simp only [f_document_All_j1, cvt_tup, cvts_cons, cvts_nil, this, cvt_s]
            rfl
        · have : (allG (normL l) 0 (normL l)).isEmpty = false := by simpa using hz
          rw [this]; rfl
    refine ⟨w, fun st => ?_, by unfold allS; rw [if_pos he]; exact hw2⟩
    simp -implicitDefEqProofs only [f_document_All, t_document_All_38, callK_F, fN, x0, x1, he, eqK_int, beq_self_eq_true, Bool.true_xor, Bool.not_true, condK_bool, Bool.false_eq_true, if_false, if_true, SLm, lenK_lst, List.length_map]
    exact All_L2 (normL_srt l) (normL_ok he).2 (by omega) (hw1 st) NN [] (normL l) 0 [] nilS [] rfl (by have := NN_ge; omega) (fun _ => rfl) (by simp) rfl (by simp) .nil
  · have e : (errM l == 0) = false := by simpa using he
    refine ⟨nilS, fun st => ?_, by unfold allS; rw [if_neg he]; rfl⟩
    simp -implicitDefEqProofs only [f_document_All, t_document_All_38, callK_F, fN, x0, x1, eqK_int, e, Bool.true_xor, Bool.not_false, condK_bool, if_true]
    rfl
def allV (l : List Msg) : AV := .tup [.lst 7 (allS l).isEmpty ((allS l).map encDo), I (errM l)]
end Go.AM


namespace Go.AM
open Go.Proofs
set_option linter.unusedVariables false
set_option linter.unusedSimpArgs false
set_option linter.constructorNameAsVariable false
set_option maxRecDepth 20000
section
variable {β : Type} {P : Program} {T : Tab} {D : DTab} {N : Nat} {K : AV → Hp → Option β}
theorem slices_Equal_Document_L2 {T : Tab} {D : DTab} {N : Nat} {x0 : Hp → Option AV} {xr : AV → Hp → Option AV} {a b : List Docu} {p q : Bool} {h : Hp} (hab : a.length = b.length) (hl : a.length < 1000000) (hx : x0 h = xr (B true) h) (heq : ∀ (x y : Docu) (k : Go.AM.K AV), eqK Try.prog true 67 (.agg (encDo x)) (.agg (encDo y)) h k = k (B (!(x == y)))) : ∀ (n i : Nat), i ≤ a.length → a.length < i + n →
    f_slices_Equal_Document_L2 Try.prog T D N x0 xr n (.lst 7 p (a.map encDo)) (.lst 7 q (b.map encDo)) (I a.length) (I i) h = xr (B (decide (a.drop i = b.drop i))) h := by
  intro n
  induction n with
  | zero => intro i h1 h2; omega
  | succ n ih =>
    intro i h1 h2
    show f_slices_Equal_Document_b2 Try.prog T D N (f_slices_Equal_Document_L2 Try.prog T D N x0 xr n) x0 xr _ _ _ _ h = _
    rcases Nat.lt_or_ge i a.length with hi | hi
    · have c1 : ((i : Int) < (a.length : Int)) := by omega
      have hw : IntKind.i64.wrap ((i : Int) + 1) = ((i + 1 : Nat) : Int) := by rw [wrap64 (by omega) (by omega)]; omega
      have ia : ∀ k : Go.AM.K AV, iaK 7 (.lst 7 p (a.map encDo)) (I i) k = k (.ep (encDo a[i]) 0) := fun k => iaK_at i rfl (List.getElem?_eq_getElem hi) k
      have ib : ∀ k : Go.AM.K AV, iaK 7 (.lst 7 q (b.map encDo)) (I i) k = k (.ep (encDo (b[i]'(by omega))) 0) := fun k => iaK_at i rfl (List.getElem?_eq_getElem (by omega)) k
      have ld : ∀ (x : Docu) (k : Go.AM.K AV), ldK 7 true (.ep (encDo x) 0) h k = k (.agg (encDo x)) := fun x k => rfl
      rw [List.drop_eq_getElem_cons hi, List.drop_eq_getElem_cons (show i < b.length by omega)]
      simp -implicitDefEqProofs only [f_slices_Equal_Document_b2, lenK_lst, List.length_map, arithK_lss, c1, decide_true, condK_bool, if_true, ia, ib, ld, heq, arithK_add, hw, ih (i + 1) (by omega) (by omega), List.cons.injEq, Bool.decide_and]
      by_cases e : a[i] = b[i]
      · simp [e]
      · simp [e]
    · have : i = a.length := by omega
      subst this
      have c1 : ¬ ((a.length : Int) < (a.length : Int)) := by omega
      simp -implicitDefEqProofs only [f_slices_Equal_Document_b2, lenK_lst, List.length_map, arithK_lss, c1, decide_false, condK_bool, Bool.false_eq_true, if_false, hx]
      rw [List.drop_eq_nil_of_le (Nat.le_refl _), List.drop_eq_nil_of_le (by omega)]
      rfl
theorem F_slices_Equal_Document_val (a b : List Docu) (p q : Bool) (hl : a.length < 1000000) (heq : ∀ (x y : Docu) (h : Hp) (k : Go.AM.K AV), eqK Try.prog true 67 (.agg (encDo x)) (.agg (encDo y)) h k = k (B (!(x == y)))) (h : Hp) : F_slices_Equal_Document [.lst 7 p (a.map encDo), .lst 7 q (b.map encDo)] h = some (B (decide (a = b)), h) := by
  refine F_slices_Equal_Document_run rfl ?_ h
  simp only [nrm, nrmC]
  by_cases hab : a.length = b.length
  · have e : ((a.length : Int) == (b.length : Int)) = true := by simp [hab]
    have := slices_Equal_Document_L2 (T := t_slices_Equal_Document) (D := d_slices_Equal_Document) (N := NN) (x0 := fun h => f_slices_Equal_Document_j1 Try.prog t_slices_Equal_Document d_slices_Equal_Document NN (fun v g => cvt false g v) h) (xr := fun w13_4 h => cvt false h w13_4) (a := a) (b := b) (p := p) (q := q) (h := []) hab hl rfl (fun x y k => heq x y [] k) NN 0 (by omega) (by have := NN_ge; omega)
    simp only [List.drop_zero] at this
    simp -implicitDefEqProofs only [f_slices_Equal_Document, lenK_lst, List.length_map, eqK_int, e, Bool.true_xor, Bool.not_true, condK_bool, Bool.false_eq_true, if_false]
    exact this
  · have e : ((a.length : Int) == (b.length : Int)) = false := by simp; omega
    have hne : a ≠ b := fun h => hab (by rw [h])
    simp [f_slices_Equal_Document, e, hne]
end
attribute [local congr] arithK_cg eqK_cg notK_cg convK_cg pickK_cg buildK_cg ldK_cg nilK_cg sliceK_cg faK_cg fldK_cg iaK_cg iaA_cg lookK_cg capK_cg exK_cg lenK_cg minK_cg maxK_cg effK_cg callK_cg callVK_cg effD_cg gopD_cg grpK_cg condK_cg cond_cg
theorem any_perm {α : Type} {f : α → Bool} {a b : List α} (h : a.Perm b) : a.any f = b.any f := by
  rw [Bool.eq_iff_iff, List.any_eq_true, List.any_eq_true]
  constructor
  · rintro ⟨x, h1, h2⟩; exact ⟨x, h.mem_iff.1 h1, h2⟩
  · rintro ⟨x, h1, h2⟩; exact ⟨x, h.mem_iff.2 h1, h2⟩
theorem ask_perm {l : List Envl} {a b : List Int} (h : a.Perm b) : askS l a = askS l b := by
  unfold askS
  rw [h.length_eq, any_perm h]
theorem toL_perm {l : List Envl} {a b : List Int} {node : Int} (h : a.Perm b) : (toL l a node).Perm (toL l b node) := (h.filterMap _).filter _
theorem mem_uniqM : ∀ (r : List Envl) (o : List Msg) (x : Msg), x ∈ uniqM o r ↔ x ∈ o ∨ ∃ e ∈ r, e.msg = x
  | [], o, x => by simp [uniqM]
  | e :: r, o, x => by
    simp only [uniqM]
    split
    · rename_i h
      rw [mem_uniqM r o x]
      have hm : e.msg ∈ o := by simpa using h
      constructor
      · rintro (h | ⟨y, h1, h2⟩)
        · exact .inl h
        · exact .inr ⟨y, by simp [h1], h2⟩
      · rintro (h | ⟨y, h1, h2⟩)
        · exact .inl h
        · rcases List.mem_cons.1 h1 with rfl | h1
          · exact .inl (h2 ▸ hm)
          · exact .inr ⟨y, h1, h2⟩
    · rw [mem_uniqM r _ x]
      simp only [List.mem_append, List.mem_cons, List.not_mem_nil, or_false, exists_eq_or_imp]
      constructor
      · rintro ((h | h) | h)
        · exact .inl h
        · exact .inr (.inl h.symm)
        · exact .inr (.inr h)
      · rintro (h | h | h)
        · exact .inl (.inl h)
        · exact .inl (.inr h.symm)
        · exact .inr h
theorem uniqM_nodup : ∀ (r : List Envl) (o : List Msg), o.Nodup → (uniqM o r).Nodup
  | [], o, h => h
  | e :: r, o, h => by
    simp only [uniqM]
    split
    · exact uniqM_nodup r o h
    · rename_i hc
      refine uniqM_nodup r _ (List.nodup_append.2 ⟨h, by simp, fun x hx y hy => ?_⟩)
      simp only [List.mem_singleton] at hy
      subst hy
      rintro rfl
      exact hc (by simpa using hx)
theorem errM_perm {a b : List Msg} (h : a.Perm b) : errM a = errM b := by
  unfold errM
  rw [h.length_eq, any_perm h]
theorem kn_perm {l : List Envl} {a b : List Int} {node : Int} (h : a.Perm b) : knS l a node = knS l b node := by
  have h1 := ask_perm (l := l) h
  have h2 : (toS l a node).2 = (toS l b node).2 := by
    unfold toS
    rw [h1]
    split
    · rfl
    · split <;> rfl
  have h3 : (toS l a node).1.Perm (toS l b node).1 := by
    unfold toS
    rw [h1]
    split
    · exact .refl _
    · split
      · exact .refl _
      · exact toL_perm h
  have h4 : (uniqM [] (toS l a node).1).Perm (uniqM [] (toS l b node).1) := (List.perm_ext_iff_of_nodup (uniqM_nodup _ _ .nil) (uniqM_nodup _ _ .nil)).2 fun x => by
    rw [mem_uniqM, mem_uniqM]
    simp only [h3.mem_iff]
  unfold knS
  rw [h2, errM_perm h4, normL_congr fun x => h4.mem_iff]
theorem kn_ok {l : List Envl} {sch : List Int} {node : Int} (h : (knS l sch node).2 = 0) : errM (knS l sch node).1 = 0 := by
  unfold knS at h ⊢
  split at h
  · rename_i h1; exact absurd h h1
  · rename_i h1
    rw [if_neg h1]
    split at h
    · rename_i h2
      rw [if_pos h2]
      obtain ⟨n1, n2⟩ := normL_ok h2
      exact errM_zero.2 ⟨n1, n2⟩
    · rename_i h2; exact absurd h h2
theorem kn_zero {l : List Envl} {sch : List Int} {node : Int} (h : (knS l sch node).2 ≠ 0) : (knS l sch node).1 = [] := by
  unfold knS at h ⊢
  split
  · rfl
  · rename_i h1
    rw [if_neg h1] at h
    split
    · rename_i h2; rw [if_pos h2] at h; exact absurd rfl h
    · rfl
abbrev enU (n : Fin 256) : List AV := [.s (.int .u8 (n.1 : Int))]
theorem has_Bytes {a : AV} (h : HasT (.sl [.int .u8]) a) : ∃ (l : List (Fin 256)) (b : Bool), a = SL 1 enU b l := has_list (fun cs h => by
  simp only [HasTs, HasT] at h
  obtain ⟨_, _, rfl, ⟨x, rfl, hx⟩, rfl⟩ := h
  have hx' : 0 ≤ x ∧ x < 256 := by
    simp only [Lit.wf, Bool.and_eq_true, decide_eq_true_eq] at hx
    have e1 : IntKind.u8.min = 0 := by kernel_rfl
    have e2 : IntKind.u8.max = 255 := by kernel_rfl
    rw [e1, e2] at hx
    omega
  exact ⟨⟨x.toNat, by omega⟩, by simp [Int.toNat_of_nonneg hx'.1]⟩) h
def OwnI (h : Hp) (v : AV) (W : List Int) : Prop := (W = [] ∧ v = nilS) ∨ ∃ id, v = .sl 1 id 0 W.length W.length false ∧ h[id]? = some (.arr 1 (W.map enI) true false)
theorem OwnI.cvt {h : Hp} {v : AV} {W : List Int} (O : OwnI h v W) : ∃ a, cvt false h v = some a ∧ ∃ b, nrm (.l 1) a = .lst 1 b (W.map enI) := by
  rcases O with ⟨rfl, rfl⟩ | ⟨id, rfl, h1⟩
  · exact ⟨nilS, rfl, true, rfl⟩
  · exact ⟨.lst 1 false (W.map enI), cvt_whole h1 (by simp) (by simp) (okE_map fun x => by simp), false, rfl⟩
theorem OwnI.len {β : Type} {h : Hp} {v : AV} {W : List Int} (O : OwnI h v W) (k : Go.AM.K β) : lenK v k = k (I W.length) := by
  rcases O with ⟨rfl, rfl⟩ | ⟨id, rfl, h1⟩ <;> rfl
theorem OwnI.mono {h h' : Hp} {v : AV} {W : List Int} (O : OwnI h v W) (hk : ∀ j < h.length, h'[j]? = h[j]?) : OwnI h' v W := by
  rcases O with O | ⟨id, rfl, h1⟩
  · exact .inl O
  · exact .inr ⟨id, rfl, by rw [hk id (List.getElem?_eq_some_iff.1 h1).1, h1]⟩
theorem R_Clone_I (s : List Int) (b : Bool) (hl : s.length < 1000000) (h : Hp) : ∃ v h', R_slices_Clone_int [.lst 1 (b && s.isEmpty) (s.map enI)] h = some (v, h') ∧ OwnI h' v s ∧ ∀ j < h.length, h'[j]? = h[j]? := by
  rw [R_slices_Clone_int_raw]
  by_cases hb : (b && s.isEmpty) = true
  · have : s = [] := by simpa using (Bool.and_eq_true_iff.1 hb).2
    refine ⟨nilS, h, by simp [f_slices_Clone_int, hb], .inl ⟨this, rfl⟩, fun _ _ => rfl⟩
  · have hb' : (b && s.isEmpty) = false := by simpa using hb
    have hle : s.length * 8 ≤ 140737488355328 := by omega
    have h2 : ((s.map enI).all fun e => e.length == 1) = true := by simp
    refine ⟨.sl 1 (h.length + 1) 0 s.length s.length false, h ++ [.arr 1 [] true false, .arr 1 (s.map enI) true false], by simp [f_slices_Clone_int, hb', bsE, fillS, appE, readSl, hle, h2, ap], .inr ⟨h.length + 1, rfl, by rw [get_new]; rfl⟩, fun j hj => List.getElem?_append_left hj⟩
theorem Docs_L2 {x0 : AV → AV → AV → AV → Hp → Option AV} {X : Option AV} {v0 v1 v3 : AV} {sch : List Int} {order : List (Fin 256)} {b3 : Bool} (ho : order.length < 100000) (hl : sch.length < 100000) (hx : ∀ v h W, OwnI h v W → W.Perm sch → x0 v0 v1 v3 v h = X) : ∀ (n i : Nat) (v : AV) (h : Hp) (W : List Int), i ≤ order.length → order.length < i + n → OwnI h v W → W.Perm sch →
    f_law41_NetworkDocuments_L2 Try.prog t_law41_NetworkDocuments d_law41_NetworkDocuments NN x0 n v0 v1 v3 v (.lst 1 b3 (order.map enU)) (I order.length) (I i) h = X := by
  intro n
  induction n with
  | zero => intro i v h W h1 h2; omega
  | succ n ih =>
    intro i v h W h1 h2 O hp
    show f_law41_NetworkDocuments_b2 Try.prog t_law41_NetworkDocuments d_law41_NetworkDocuments NN (f_law41_NetworkDocuments_L2 Try.prog t_law41_NetworkDocuments d_law41_NetworkDocuments NN x0 n) x0 _ _ _ _ _ _ _ h = _
    rcases Nat.lt_or_ge i order.length with hi | hi
    · have hlt : ((i : Int) < (order.length : Int)) := by omega
      have hw : IntKind.i64.wrap ((i : Int) + 1) = ((i + 1 : Nat) : Int) := by rw [wrap64 (by omega) (by omega)]; omega
      have hk : order[i]? = some order[i] := List.getElem?_eq_getElem hi
      generalize order[i] = q at hk
      have ic : ∀ k : Go.AM.K AV, iaK 1 (.lst 1 b3 (order.map enU)) (I i) k = k (.ep (enU q) 0) := fun k => iaK_at i rfl hk k
      have ld : ∀ k : Go.AM.K AV, ldK 1 false (.ep (enU q) 0) h k = k (.s (.int .u8 (q.1 : Int))) := fun k => rfl
      have cvq : ∀ k : Go.AM.K AV, convK Try.prog 5 3 (.s (.int .u8 (q.1 : Int))) k = k (I (q.1 : Int)) := fun k => by
        rw [convK_int Try.underlying5 Try.underlying3, wrap64 (by omega) (by have := q.2; omega)]
      have hlen := fun k : Go.AM.K AV => O.len k
      by_cases hz : W.length = 0
      · have c0 : ¬ ((W.length : Int) > 0) := by omega
        simp -implicitDefEqProofs only [f_law41_NetworkDocuments_b2, arithK_lss, hlt, decide_true, condK_bool, if_true, ic, ld, hlen, arithK_gtr, c0, decide_false, Bool.false_eq_true, if_false, f_law41_NetworkDocuments_j4, f_law41_NetworkDocuments_j3, arithK_add, hw]
        exact ih (i + 1) v h W hi (by omega) O hp
      · have c0 : (W.length : Int) > 0 := by omega
        rcases O with ⟨rfl, -⟩ | ⟨id, rfl, hid⟩
        · simp at hz
        obtain ⟨x, hxd⟩ : ∃ x, x = i % W.length := ⟨_, rfl⟩
        obtain ⟨y, hyd⟩ : ∃ y, y = q.1 % W.length := ⟨_, rfl⟩
        have hxl : x < W.length := by rw [hxd]; exact Nat.mod_lt _ (by omega)
        have hyl : y < W.length := by rw [hyd]; exact Nat.mod_lt _ (by omega)
        have rx : ∀ k : Go.AM.K AV, reckK Try.prog .rem 3 (I i) (I W.length) k = k (I x) := fun k => by rw [reck_remI i W.length hz, hxd]
        have ry : ∀ k : Go.AM.K AV, reckK Try.prog .rem 3 (I (q.1 : Int)) (I W.length) k = k (I y) := fun k => by rw [reck_remI q.1 W.length hz, hyd]
        have ia : ∀ (m : Nat) (hm : m < W.length) (k' : Go.AM.K AV), iaK 1 (.sl 1 id 0 W.length W.length false) (I m) k' = k' (.ptr id m 0 W.length) := fun m hm k' => by
          have e2 : ((m : Nat) : Int) < ((W.length : Nat) : Int) := by omega
          simp [iaK, e2]
        have wx : W[x]? = some W[x] := List.getElem?_eq_getElem hxl
        have wy : W[y]? = some W[y] := List.getElem?_eq_getElem hyl
        have lx : ∀ k' : Go.AM.K AV, ldK 1 false (.ptr id x 0 W.length) h k' = k' (I W[x]) := fun k' => ldI hid rfl wx k'
        have ly : ∀ k' : Go.AM.K AV, ldK 1 false (.ptr id y 0 W.length) h k' = k' (I W[y]) := fun k' => ldI hid rfl wy k'
        obtain ⟨h1', hh1⟩ : ∃ h1' : Hp, h1' = h.set id (.arr 1 ((W.set x W[y]).map enI) true false) := ⟨_, rfl⟩
        have s1 : ∀ k' : AV → Hp → Option AV, effK (stE 1 (.ptr id x 0 W.length) (I W[y]) h) h k' = k' .u h1' := fun k' => by rw [hh1]; exact stI hid rfl hxl k'
        have hid1 : h1'[id]? = some (.arr 1 ((W.set x W[y]).map enI) true false) := by rw [hh1]; exact getSelfN hid
        have s2 : ∀ k' : AV → Hp → Option AV, effK (stE 1 (.ptr id y 0 W.length) (I W[x]) h1') h1' k' = k' .u (h1'.set id (.arr 1 (((W.set x W[y]).set y W[x]).map enI) true false)) := fun k' => stI hid1 (by simp) (by simpa using hyl) k'
        have hpm : ((W.set x W[y]).set y W[x]).Perm W := List.set_set_perm hxl hyl
        have hl2 : ((W.set x W[y]).set y W[x]).length = W.length := by simp
        simp -implicitDefEqProofs only [f_law41_NetworkDocuments_b2, arithK_lss, hlt, decide_true, condK_bool, if_true, ic, ld, hlen, arithK_gtr, c0, rx, cvq, ry, ia x hxl, ia y hyl, lx, ly, s1, s2, f_law41_NetworkDocuments_j4, f_law41_NetworkDocuments_j3, arithK_add, hw]
        refine ih (i + 1) _ _ ((W.set x W[y]).set y W[x]) hi (by omega) (.inr ⟨id, by rw [hl2], getSelfN hid1⟩) (hpm.trans hp)
    · have : i = order.length := by omega
      subst this
      have c1 : ¬ ((order.length : Int) < (order.length : Int)) := by omega
      simp -implicitDefEqProofs only [f_law41_NetworkDocuments_b2, arithK_lss, c1, decide_false, condK_bool, Bool.false_eq_true, if_false]
      exact hx v h W O hp
def fewS (l : List Envl) (sch : List Int) : Bool := decide (l.length ≤ 14) && decide (sch.length ≤ 24)
theorem F_law41_few_val (l : List Envl) (b : Bool) (sch : List Int) (b2 : Bool) (h : Hp) : F_law41_few [.lst 10 b (l.map encV), .lst 1 b2 (sch.map enI)] h = some (B (fewS l sch), h) := by
  refine F_law41_few_run (a0 := .lst 10 b (l.map encV)) (a1 := .lst 1 b2 (sch.map enI)) rfl ?_ h
  have e1 : decide ((l.length : Int) ≤ 14) = decide (l.length ≤ 14) := by rw [decide_eq_decide]; omega
  have e2 : decide ((sch.length : Int) ≤ 24) = decide (sch.length ≤ 24) := by rw [decide_eq_decide]; omega
  simp only [nrm, nrmC]
  simp -implicitDefEqProofs only [f_law41_few, lenK_lst, List.length_map, arithK_leq, grpK_and, e1, e2]
  rfl
theorem documents41_law (l : List Envl) (b1 : Bool) (sch : List Int) (b2 : Bool) (order : List (Fin 256)) (b3 : Bool) (node : Int) : F_law41_NetworkDocuments [SL 10 encV b1 l, SL 1 enI b2 sch, SL 1 enU b3 order, I node] [] = some (B true, []) := by
  refine F_law41_NetworkDocuments_run (a0 := SL 10 encV b1 l) (a1 := SL 1 enI b2 sch) (a2 := SL 1 enU b3 order) (a3 := I node) rfl ?_ []
  simp only [nrm, nrmC]
  have fw := F_law41_awake_val
  have ff := F_law41_few_val l (b1 && l.isEmpty) sch (b2 && sch.isEmpty)
  simp -implicitDefEqProofs only [f_law41_NetworkDocuments, t_law41_NetworkDocuments_10, t_law41_NetworkDocuments_29, callK_F, fw, ff, notK_bool, Bool.not_true, condK_bool, Bool.false_eq_true, if_false, SL, lenK_lst, List.length_map, arithK_gtr, grpK_or]
  by_cases hb : fewS l sch = true ∧ ¬ (order.length : Int) > 24
  · obtain ⟨hf, hb3⟩ := hb
    have hf' := hf
    simp only [fewS, Bool.and_eq_true, decide_eq_true_eq] at hf'
    obtain ⟨q1, q2⟩ := hf'
    obtain ⟨v, h0, r1, r2, -⟩ := R_Clone_I sch b2 (by omega) []
    simp -implicitDefEqProofs only [hf, hb3, Bool.not_true, decide_false, Bool.or_self, Bool.false_eq_true, if_false, t_law41_NetworkDocuments_16, callK_F, r1]
    refine Docs_L2 (sch := sch) (by omega) (by omega) (fun v h W O hp => ?_) NN 0 v h0 sch (by omega) (by have := NN_ge; omega) r2 (.refl _)
    have fcE : ∀ h, F_slices_Clone_Envelope [.lst 10 (b1 && l.isEmpty) (l.map encV)] h = some (.lst 10 (b1 && l.isEmpty) (l.map encV), h) := fun h => F_slices_Clone_Envelope_val l b1 (by omega) h
    obtain ⟨u, h1, t1, t2, t3⟩ := R_Clone_I sch b2 (by omega) h
    obtain ⟨a, a1, c, a2⟩ := t2.cvt
    obtain ⟨w, h2, k1, k2, k3, k4⟩ := Known_key l (b1 && l.isEmpty) sch node (by omega) (by omega) a1 a2
    have O2 : OwnI h2 v W := (O.mono t3).mono k4
    obtain ⟨a', a3, c', a4⟩ := O2.cvt
    have hWl := hp.length_eq
    obtain ⟨w', h3, k5, k6, k7, k8⟩ := Known_key l (b1 && l.isEmpty) W node (by omega) (by omega) a3 a4
    rw [kn_perm hp] at k5 k6 k7
    have fk1 : R_network_Known [.lst 10 (b1 && l.isEmpty) (l.map encV), u, I node] h1 = some (.tup [w, I (knS l sch node).2], h2) := by rw [R_network_Known_raw]; exact k1 _
    have fk2 : R_network_Known [.lst 10 (b1 && l.isEmpty) (l.map encV), v, I node] h2 = some (.tup [w', I (knS l sch node).2], h3) := by rw [R_network_Known_raw]; exact k5 _
    have tp : ∀ (a b : AV) (k : Go.AM.K AV), exK (.tup [a, b]) 0 k = k a := fun a b k => rfl
    have tq : ∀ (a b : AV) (k : Go.AM.K AV), exK (.tup [a, b]) 1 k = k b := fun a b k => rfl
    have wl : ∀ (w : AV), (w = nilS ∨ ∃ x, w = .lst 7 x ((knS l sch node).1.map encM)) → nrm (.l 7) w = .lst 7 (knS l sch node).1.isEmpty ((knS l sch node).1.map encM) → ∀ k : Go.AM.K AV, lenK w k = k (I (knS l sch node).1.length) := fun w hw hn k => by
      rcases hw with rfl | ⟨x, rfl⟩
      · have : (knS l sch node).1 = [] := by
          simp only [nrm, nrmC, AV.lst.injEq] at hn
          simpa using hn.2.2.symm
        rw [this]; rfl
      · simp
    simp -implicitDefEqProofs only [f_law41_NetworkDocuments_j1, t_law41_NetworkDocuments_13, t_law41_NetworkDocuments_16, t_law41_NetworkDocuments_18, callK_F, fcE, t1, fk1, fk2, tp, tq, eqK_int, Bool.true_xor, Bool.false_xor, condK_bool]
    by_cases z : (knS l sch node).2 = 0
    · have ez : ((knS l sch node).2 == 0) = true := by simpa using z
      have hok := kn_ok z
      have hK := errM_zero.1 hok
      have fA : ∀ (w : AV) (h : Hp), (w = nilS ∨ ∃ x, w = .lst 7 x ((knS l sch node).1.map encM)) → nrm (.l 7) w = .lst 7 (knS l sch node).1.isEmpty ((knS l sch node).1.map encM) → F_document_All [w] h = some (allV (knS l sch node).1, h) := fun w h hw hn => by
        obtain ⟨x, hx1, hx2⟩ := All_key (knS l sch node).1 true (by omega)
        refine (F_document_All_own (a0 := w) (x0 := w) (by rcases hw with rfl | ⟨x, rfl⟩ <;> rfl) (fun st => by rw [hn]; exact hx1 st)).trans ?_
        show some (AV.tup [nrm (.l 7) x, I (errM (knS l sch node).1)], h) = _
        rw [hx2]
        rfl
      have f1 := fA w h3 k2 k3
      have f2 := fA w' h3 k6 k7
      have y0 : ∀ k : Go.AM.K AV, exK (allV (knS l sch node).1) 0 k = k (.lst 7 (allS (knS l sch node).1).isEmpty ((allS (knS l sch node).1).map encDo)) := fun k => rfl
      have y1 : ∀ k : Go.AM.K AV, exK (allV (knS l sch node).1) 1 k = k (I (errM (knS l sch node).1)) := fun k => rfl
      have hal := allS_len (knS l sch node).1
      have fE := F_slices_Equal_Document_val (allS (knS l sch node).1) (allS (knS l sch node).1) (allS (knS l sch node).1).isEmpty (allS (knS l sch node).1).isEmpty (by omega) (fun x y h k => by rw [eqs_Do, Bool.true_xor])
      simp -implicitDefEqProofs only [ez, Bool.not_true, Bool.false_eq_true, if_false, t_law41_NetworkDocuments_43, t_law41_NetworkDocuments_44, callK_F, f1, f2, y0, y1, hok, beq_self_eq_true, grpK_tt, fE, eqK_int, Bool.false_xor]
      simp
    · have ez : ((knS l sch node).2 == 0) = false := by simpa using z
      have hz := kn_zero z
      have l1 := wl w k2 k3
      have l2 := wl w' k6 k7
      have w0 : IntKind.i64.wrap (0 + 0) = 0 := by kernel_rfl
      simp -implicitDefEqProofs only [ez, Bool.not_false, if_true, beq_self_eq_true, grpK_tt, l1, l2, hz, List.length_nil, arithK_add, show (((0 : Nat) : Int)) = 0 from rfl, w0, eqK_int, Bool.false_xor]
      rfl
  · have e : (!fewS l sch || decide ((order.length : Int) > 24)) = true := by
      cases hf : fewS l sch with
      | false => simp
      | true =>
        have : (order.length : Int) > 24 := Classical.byContradiction fun h => hb ⟨hf, h⟩
        simp [this]
    simp only [e, if_true]
    rfl
end Go.AM


import Derived.Test.YtflcobokgfellaaG4
import Derived.Below
import Derived.ChangeOld
import Derived.Carry
import Derived.OpenShut
set_option linter.unusedSectionVars false
set_option linter.unusedVariables false
set_option linter.unusedSimpArgs false
set_option linter.constructorNameAsVariable false
namespace Go.AM
open Go.Proofs
set_option linter.unusedVariables false
set_option linter.unusedSimpArgs false
set_option linter.constructorNameAsVariable false
set_option maxRecDepth 20000
attribute [local congr] arithK_cg eqK_cg notK_cg convK_cg pickK_cg buildK_cg ldK_cg nilK_cg sliceK_cg faK_cg fldK_cg iaK_cg iaA_cg lookK_cg capK_cg exK_cg lenK_cg minK_cg maxK_cg effK_cg callK_cg callVK_cg effD_cg gopD_cg grpK_cg condK_cg cond_cg
theorem fstP_len : ∀ (r : List Int) (c : List (Int × Int)) (n : Nat), (fstP c n r).length ≤ c.length + r.length
  | [], c, n => by simp [fstP]
  | s :: r, c, n => by
    have h1 := fstP_len r c (n + 1)
    have h2 := fstP_len r (c ++ [(s, (n : Int))]) (n + 1)
    rw [List.length_append] at h2
    simp only [fstP, List.length_cons, List.length_nil] at h2 ⊢
    split <;> omega
def lostA (c : List (Int × Int)) (n : Nat) : List Int := ((List.range n).filter fun i : Nat => !hasK c (i : Int)).map fun i : Nat => (i : Int)
theorem lostA_succ (c : List (Int × Int)) (n : Nat) : lostA c (n + 1) = if hasK c (n : Int) = true then lostA c n else lostA c n ++ [(n : Int)] := by
  unfold lostA
  rw [List.range_succ, List.filter_append, List.map_append]
  cases h : hasK c (n : Int) <;> simp [h]
theorem lostA_len (c : List (Int × Int)) (n : Nat) : (lostA c n).length ≤ n := by
  unfold lostA
  rw [List.length_map]
  exact Nat.le_trans (List.length_filter_le _ _) (by simp)
def lostS (l : List Envl) (sch : List Int) : List Int × Int := if askS l sch ≠ 0 then ([], askS l sch) else (lostA (fstS sch) l.length, 0)
theorem Lost_L2 {T : Tab} {D : DTab} {N : Nat} {x0 : AV → Hp → Option AV} {X : Option AV} {c : List (Int × Int)} {m : Nat} (hm : m < 100000) (hx : ∀ v h, Gro 1 enI h v (lostA c m) → x0 v h = X) : ∀ (n i : Nat) (v : AV) (h : Hp), i ≤ m → m < i + n → Gro 1 enI h v (lostA c i) → (∀ k, idOf v = some k → k ≠ 0) → h[0]? = some (.map (kvI c)) →
    f_network_Lost_L2 Try.prog T D N x0 n (.mp 0) v (I m) (I i) h = X := by
  intro n
  induction n with
  | zero => intro i v h h1 h2; omega
  | succ n ih =>
    intro i v h h1 h2 G hv h0
    show f_network_Lost_b2 Try.prog T D N (f_network_Lost_L2 Try.prog T D N x0 n) x0 _ _ _ _ h = _
    rcases Nat.lt_or_ge i m with hi | hi
    · have hlt : ((i : Int) < (m : Int)) := by omega
      have hw : IntKind.i64.wrap ((i : Int) + 1) = ((i + 1 : Nat) : Int) := by rw [wrap64 (by omega) (by omega)]; omega
      obtain ⟨lv, lk⟩ := lookI (z := .s (.int .i64 0)) (n := (i : Int)) Try.underlying3 h0
      have e0 : ∀ k : Go.AM.K AV, exK (.tup [lv, B (hasK c i)]) 0 k = k lv := fun k => rfl
      have e1 : ∀ k : Go.AM.K AV, exK (.tup [lv, B (hasK c i)]) 1 k = k (B (hasK c i)) := fun k => rfl
      have hsn := lostA_succ c i
      have hal := lostA_len c i
      simp -implicitDefEqProofs only [f_network_Lost_b2, arithK_lss, hlt, decide_true, condK_bool, if_true, lk, e0, e1, notK_bool]
      cases hk : hasK c (i : Int) with
      | true =>
        rw [hk, if_pos rfl] at hsn
        simp -implicitDefEqProofs only [Bool.not_true, Bool.false_eq_true, if_false, f_network_Lost_j4, f_network_Lost_j3, arithK_add, hw]
        exact ih (i + 1) v h hi (by omega) (by rw [hsn]; exact G) hv h0
      | false =>
        rw [hk, if_neg (by simp)] at hsn
        have bs : ∀ k : AV → Hp → Option AV, effK (bsE 1 [.s (.int .i64 0)] 1 [(0, I i)] h.length) h k = k (.sl 1 h.length 0 1 1 true) (h ++ [.arr 1 [[I i]] true false]) := fun k => by simp [bsE, fillS, effK, ap]
        obtain ⟨v', h', q1, q2, q3, q4, q5⟩ := Gro.snoc AV (G.app [.arr 1 [[I i]] true false]) (by_ := 8) (m := h.length) (z := (i : Int)) (b := true) (by rw [get_new0]; rfl) (fun hk => by have := G.lt hk; omega) (fun x _ => rfl) (by omega)
        have h0l : 0 < h.length := (List.getElem?_eq_some_iff.1 h0).1
        simp -implicitDefEqProofs only [Bool.not_false, if_true, bs, q1, f_network_Lost_j4, f_network_Lost_j3, arithK_add, hw]
        refine ih (i + 1) v' h' hi (by omega) (by rw [hsn]; exact q2) (fun k hk => ?_) (q4 0 _ (get_app h0) fun hk => hv 0 hk rfl)
        rcases q5 with e | e
        · exact hv k (e ▸ hk)
        · rw [e] at hk; simp at hk; omega
    · have : i = m := by omega
      subst this
      have c1 : ¬ ((i : Int) < (i : Int)) := by omega
      simp -implicitDefEqProofs only [f_network_Lost_b2, arithK_lss, c1, decide_false, condK_bool, Bool.false_eq_true, if_false]
      exact hx v h G
theorem Lost_run (l : List Envl) (b : Bool) (sch : List Int) (b2 : Bool) (hl : l.length < 1000000) (hs : sch.length < 1000000) : ∃ w, (∀ st, f_network_Lost Try.prog t_network_Lost d_network_Lost NN (fun v g => cvt st g v) (.lst 10 b (l.map encV)) (.lst 1 b2 (sch.map enI)) [] = some (.tup [w, I (lostS l sch).2])) ∧ nrm (.l 1) w = .lst 1 (lostS l sch).1.isEmpty ((lostS l sch).1.map enI) := by
  have fa := F_network_asked_val l b sch b2 hl hs
  simp -implicitDefEqProofs only [f_network_Lost, t_network_Lost_53, callK_F, fa, eqK_int, Bool.true_xor, condK_bool]
  by_cases q : askS l sch = 0
  · have e1 : (askS l sch == 0) = true := by simpa using q
    obtain ⟨-, k1, k2, k3⟩ := askS_ok q
    obtain ⟨h', f1, f2⟩ := firsts_run (l := l) (b := b) (sch := sch) (b2 := b2) (by omega) k3
    have hS : lostS l sch = (lostA (fstS sch) l.length, 0) := if_neg (by simp [q])
    rw [hS]
    simp -implicitDefEqProofs only [e1, Bool.not_true, Bool.false_eq_true, if_false, t_network_Lost_54, callK_F, f1, lenK_lst, List.length_map]
    by_cases hz : lostA (fstS sch) l.length = []
    · refine ⟨nilS, fun st => Lost_L2 (c := fstS sch) (by omega) (fun v h G => ?_) NN 0 nilS h' (by omega) (by have := NN_ge; omega) .nil (by simp) f2, by rw [hz]; rfl⟩
      rw [hz] at G
      rcases G with ⟨-, rfl⟩ | ⟨h1, -⟩
      · rfl
      · exact absurd rfl h1
    · refine ⟨.lst 1 false ((lostA (fstS sch) l.length).map enI), fun st => Lost_L2 (c := fstS sch) (by omega) (fun v h G => ?_) NN 0 nilS h' (by omega) (by have := NN_ge; omega) .nil (by simp) f2, ?_⟩
      · rcases G with ⟨h1, -⟩ | ⟨h1, k, rfl, h2⟩
        · exact absurd h1 hz
        · have := cvt_whole (st := st) (full := false) h2 (n := (lostA (fstS sch) l.length).length) (fr := (lostA (fstS sch) l.length).length) (by simp) (by simp) (okE_map fun x => by cases st <;> simp [isS])
          simp only [f_network_Lost_j1, cvt_tup, cvts_cons, cvts_nil, this, cvt_s]
          rfl
      · have : (lostA (fstS sch) l.length).isEmpty = false := by simpa using hz
        rw [this]; rfl
  · have e1 : (askS l sch == 0) = false := by simpa using q
    have hS : lostS l sch = ([], askS l sch) := if_pos q
    rw [hS]
    exact ⟨nilS, fun st => by simp only [e1, Bool.not_false, if_true]; rfl, rfl⟩
theorem F_network_Lost_at (l : List Envl) (b : Bool) (sch : List Int) {b2 : Bool} (hl : l.length < 1000000) (hs : sch.length < 1000000) {h : Hp} {v a : AV} (hv : cvt false h v = some a) (ha : nrm (.l 1) a = .lst 1 b2 (sch.map enI)) : F_network_Lost [.lst 10 b (l.map encV), v] h = some (.tup [.lst 1 (lostS l sch).1.isEmpty ((lostS l sch).1.map enI), I (lostS l sch).2], h) := by
  obtain ⟨w, w1, w2⟩ := Lost_run l b sch b2 hl hs
  refine (F_network_Lost_own (a0 := .lst 10 b (l.map encV)) (a1 := a) (by simp only [cvts_cons, cvts_nil, hv]; rfl) (fun st => by rw [ha]; exact w1 st)).trans ?_
  show some (AV.tup [nrm (.l 1) w, I (lostS l sch).2], h) = _
  rw [w2]
def repS (l : List Envl) (sch : List Int) : Int × Int := if askS l sch ≠ 0 then (0, askS l sch) else ((sch.length : Int) - (fstS sch).length, 0)
theorem F_network_Repeated_val (l : List Envl) (b : Bool) (sch : List Int) (b2 : Bool) (hl : l.length < 1000000) (hs : sch.length < 1000000) (h : Hp) : F_network_Repeated [.lst 10 b (l.map encV), .lst 1 b2 (sch.map enI)] h = some (tupP (repS l sch), h) := by
  have fa := F_network_asked_val l b sch b2 hl hs
  refine (F_network_Repeated_run (a0 := .lst 10 b (l.map encV)) (a1 := .lst 1 b2 (sch.map enI)) (v := tupP (repS l sch)) rfl ?_ h).trans rfl
  simp only [nrm, nrmC]
  simp -implicitDefEqProofs only [f_network_Repeated, t_network_Repeated_53, callK_F, fa, eqK_int, Bool.true_xor, condK_bool]
  by_cases q : askS l sch = 0
  · have e1 : (askS l sch == 0) = true := by simpa using q
    obtain ⟨-, k1, k2, k3⟩ := askS_ok q
    obtain ⟨h', f1, f2⟩ := firsts_run (l := l) (b := b) (sch := sch) (b2 := b2) (by omega) k3
    have hS : repS l sch = ((sch.length : Int) - (fstS sch).length, 0) := if_neg (by simp [q])
    have hfl : (fstS sch).length ≤ sch.length := by simpa using fstP_len sch [] 0
    have lm : ∀ k : Go.AM.K AV, lenM (.mp 0) h' k = k (I (fstS sch).length) := fun k => by
      unfold lenM
      simp only [f2]
      rw [kvI, List.length_map]
    have hw : IntKind.i64.wrap ((sch.length : Int) - ((fstS sch).length : Int)) = (sch.length : Int) - ((fstS sch).length : Int) := wrap64 (by omega) (by omega)
    rw [hS]
    simp -implicitDefEqProofs only [e1, Bool.not_true, Bool.false_eq_true, if_false, t_network_Repeated_54, callK_F, f1, lenK_lst, List.length_map, lm, arithK_sub, hw]
    rfl
  · have e1 : (askS l sch == 0) = false := by simpa using q
    have hS : repS l sch = (0, askS l sch) := if_pos q
    rw [hS]
    simp only [e1, Bool.not_false, if_true]
    rfl
theorem sum_rm {g : Nat → Int} {j : Nat} : ∀ {L : List Nat}, L.Nodup → j ∈ L → ((L.filter fun i => i != j).map g).sum + g j = (L.map g).sum
  | x :: L, hn, hj => by
    rw [List.nodup_cons] at hn
    by_cases e : x = j
    · subst e
      have : L.filter (fun i => i != x) = L := List.filter_eq_self.2 fun y hy => by
        simp only [bne_iff_ne, ne_eq]
        rintro rfl
        exact hn.1 hy
      rw [List.filter_cons_of_neg (by simp), this, List.map_cons, List.sum_cons]
      omega
    · have hj2 : j ∈ L := by
        rcases List.mem_cons.1 hj with h | h
        · exact absurd h.symm e
        · exact h
      have ih := sum_rm (g := g) hn.2 hj2
      rw [List.filter_cons_of_pos (by simpa using e), List.map_cons, List.sum_cons, List.map_cons, List.sum_cons]
      omega
theorem left_snoc {n j : Nat} {seen : List Nat} : leftIt n (seen ++ [j]) = (leftIt n seen).filter fun i => i != j := by
  unfold leftIt
  rw [List.filter_filter]
  congr 1
  funext i
  simp [List.contains_append]
  by_cases e : i = j <;> simp [e]
theorem left_sum {g : Nat → Int} {n j : Nat} {seen : List Nat} (hj : j ∈ leftIt n seen) : ((leftIt n (seen ++ [j])).map g).sum + g j = ((leftIt n seen).map g).sum := by
  rw [left_snoc]
  exact sum_rm (List.nodup_range.sublist List.filter_sublist) hj
theorem Kept.trans {h h1 h2 : Hp} {k : Nat} (a : Kept h h1 k) (b : Kept h1 h2 k) : Kept h h2 k := ⟨by have := a.len; have := b.len; omega, fun j h1 h2 => by rw [b.same j h1 (by have := a.len; omega), a.same j h1 h2]⟩
def crG (c : List (Int × Int)) (i a : Int) (j : Nat) : Int := match c[j]? with | some e => if i < e.1 ∧ a > e.2 then 1 else 0 | none => 0
def crRow (c : List (Int × Int)) (i a : Int) : Int := ((List.range c.length).map (crG c i a)).sum
def crF (c : List (Int × Int)) (j : Nat) : Int := match c[j]? with | some e => crRow c e.1 e.2 | none => 0
def crN (c : List (Int × Int)) : Int := ((List.range c.length).map (crF c)).sum
theorem crG_bd (c : List (Int × Int)) (i a : Int) (j : Nat) : 0 ≤ crG c i a j ∧ crG c i a j ≤ 1 := by
  unfold crG
  cases c[j]? with
  | none => simp
  | some e => dsimp only; split <;> simp
theorem sum_bd {g : Nat → Int} {m : Int} (hg : ∀ j, 0 ≤ g j ∧ g j ≤ m) : ∀ L : List Nat, 0 ≤ (L.map g).sum ∧ (L.map g).sum ≤ m * L.length
  | [] => by simp
  | x :: L => by
    have h1 := hg x
    have h2 := sum_bd hg L
    simp only [List.map_cons, List.sum_cons, List.length_cons]
    have e : m * ((L.length + 1 : Nat) : Int) = m * (L.length : Int) + m := by push_cast; rw [Int.mul_add, Int.mul_one]
    rw [e]
    omega
theorem crRow_bd (c : List (Int × Int)) (i a : Int) : 0 ≤ crRow c i a ∧ crRow c i a ≤ c.length := by
  have := sum_bd (crG_bd c i a) (List.range c.length)
  rw [List.length_range, Int.one_mul] at this
  exact this
theorem cross_L5 {T : Tab} {D : DTab} {N : Nat} {x2 : AV → AV → AV → Hp → Option AV} {X : Option AV} {c : List (Int × Int)} {i a : Int} {v23 : AV} {it : Nat} (hit : it ≠ 0) : ∀ (n : Nat) (seen : List Nat) (cnt : Int) (h : Hp), (leftIt c.length seen).length < n → h[it]? = some (.iter 0 c.length seen) → h[0]? = some (.map (kvI c)) → 0 ≤ cnt → cnt + (leftIt c.length seen).length ≤ 1000000 →
    (∀ h', Kept h h' it → x2 (.mp 0) (I (cnt + ((leftIt c.length seen).map (crG c i a)).sum)) v23 h' = X) →
    f_network_Crossed_L5 Try.prog T D N x2 n (.mp 0) (I cnt) (I i) (I a) v23 (.it it) h = X := by
  intro n
  induction n with
  | zero => intro seen cnt h h1; omega
  | succ n ih =>
    intro seen cnt h h1 h2 h3 h4 h5 hx
    show f_network_Crossed_b5 Try.prog T D N (f_network_Crossed_L5 Try.prog T D N x2 n) x2 _ _ _ _ _ _ h = _
    unfold f_network_Crossed_b5
    refine nextK_of h2 h3 (by rw [kvI, List.length_map]) _ (fun e => ?_) (fun j hj => ?_)
    · have := hx h (.refl h it)
      rw [e] at this
      simp only [List.map_nil, List.sum_nil, Int.add_zero] at this
      have e0 : ∀ k : Go.AM.K AV, exK (.tup [.s (.bool false)]) 0 k = k (B false) := fun k => rfl
      simp -implicitDefEqProofs only [e0, condK_bool, Bool.false_eq_true, if_false]
      exact this
    · have hjm := leftIt_mem.1 hj
      have hl := leftIt_snoc hj
      have hsum := left_sum (g := crG c i a) hj
      have hcj : c[j]? = some c[j] := List.getElem?_eq_getElem hjm.1
      have hg : crG c i a j = if i < c[j].1 ∧ a > c[j].2 then 1 else 0 := by unfold crG; rw [hcj]
      generalize c[j] = e at hcj hg
      have hset : (h.set it (.iter 0 c.length (seen ++ [j])))[it]? = some (.iter 0 c.length (seen ++ [j])) := getSelfN h2
      have hm : (h.set it (.iter 0 c.length (seen ++ [j])))[0]? = some (.map (kvI c)) := getSetN h3 hit
      have hkv : (kvI c)[j]? = some (Value.int .i64 e.1, I e.2) := by rw [kvI, List.getElem?_map, hcj]; rfl
      have en := fun k : Go.AM.K AV => entryK_at hset hm (by rw [kvI, List.length_map]) hkv k
      have kept : Kept h (h.set it (.iter 0 c.length (seen ++ [j]))) it := (Kept.refl h it).set _
      have e0 : ∀ (y z : AV) (k : Go.AM.K AV), exK (.tup [.s (.bool true), y, z]) 0 k = k (B true) := fun y z k => rfl
      have x0 : ∀ k : Go.AM.K AV, exK (.tup [keyAV (Value.int .i64 e.1), I e.2]) 0 k = k (I e.1) := fun k => rfl
      have x1 : ∀ k : Go.AM.K AV, exK (.tup [keyAV (Value.int .i64 e.1), I e.2]) 1 k = k (I e.2) := fun k => rfl
      generalize h.set it (.iter 0 c.length (seen ++ [j])) = h' at *
      simp -implicitDefEqProofs only [e0, condK_bool, if_true, en, x0, x1, arithK_lss, arithK_gtr, grpK_and]
      by_cases q : i < e.1 ∧ a > e.2
      · rw [if_pos q] at hg
        have d : (decide (i < e.1) && decide (a > e.2)) = true := by simp [q.1]; omega
        have hw : IntKind.i64.wrap (cnt + 1) = cnt + 1 := wrap64 (by omega) (by omega)
        simp -implicitDefEqProofs only [d, if_true, arithK_add, hw, f_network_Crossed_j6]
        refine ih (seen ++ [j]) (cnt + 1) h' (by omega) hset hm (by omega) (by omega) fun h'' hk => ?_
        have := hx h'' (kept.trans hk)
        rw [← hsum, hg] at this
        rw [show cnt + 1 + ((leftIt c.length (seen ++ [j])).map (crG c i a)).sum = cnt + (((leftIt c.length (seen ++ [j])).map (crG c i a)).sum + 1) by omega]
        exact this
      · rw [if_neg q] at hg
        have d : (decide (i < e.1) && decide (a > e.2)) = false := by
          rw [Bool.eq_false_iff]
          intro h
          simp only [Bool.and_eq_true, decide_eq_true_eq] at h
          exact q h
        simp -implicitDefEqProofs only [d, Bool.false_eq_true, if_false, f_network_Crossed_j6]
        refine ih (seen ++ [j]) cnt h' (by omega) hset hm h4 (by omega) fun h'' hk => ?_
        have := hx h'' (kept.trans hk)
        rw [← hsum, hg, Int.add_zero] at this
        exact this
theorem cross_L2 {T : Tab} {D : DTab} {x0 : AV → Hp → Option AV} {X : Option AV} {c : List (Int × Int)} (hc : c.length ≤ 256) {o : Nat} (ho : o ≠ 0) : ∀ (n : Nat) (seen : List Nat) (cnt : Int) (h : Hp), (leftIt c.length seen).length < n → h[o]? = some (.iter 0 c.length seen) → h[0]? = some (.map (kvI c)) → 0 ≤ cnt → cnt + 256 * (leftIt c.length seen).length ≤ 100000 →
    (∀ h', x0 (I (cnt + ((leftIt c.length seen).map (crF c)).sum)) h' = X) →
    f_network_Crossed_L2 Try.prog T D NN x0 n (.mp 0) (I cnt) (.it o) h = X := by
  intro n
  induction n with
  | zero => intro seen cnt h h1; omega
  | succ n ih =>
    intro seen cnt h h1 h2 h3 h4 h5 hx
    show f_network_Crossed_b2 Try.prog T D NN (f_network_Crossed_L2 Try.prog T D NN x0 n) x0 _ _ _ h = _
    unfold f_network_Crossed_b2
    refine nextK_of h2 h3 (by rw [kvI, List.length_map]) _ (fun e => ?_) (fun j hj => ?_)
    · have := hx h
      rw [e] at this
      simp only [List.map_nil, List.sum_nil, Int.add_zero] at this
      have e0 : ∀ k : Go.AM.K AV, exK (.tup [.s (.bool false)]) 0 k = k (B false) := fun k => rfl
      simp -implicitDefEqProofs only [e0, condK_bool, Bool.false_eq_true, if_false]
      exact this
    · have hjm := leftIt_mem.1 hj
      have hl := leftIt_snoc hj
      have hsum := left_sum (g := crF c) hj
      have hcj : c[j]? = some c[j] := List.getElem?_eq_getElem hjm.1
      have hg : crF c j = crRow c c[j].1 c[j].2 := by unfold crF; rw [hcj]
      generalize c[j] = e at hcj hg
      have hset : (h.set o (.iter 0 c.length (seen ++ [j])))[o]? = some (.iter 0 c.length (seen ++ [j])) := getSelfN h2
      have hm : (h.set o (.iter 0 c.length (seen ++ [j])))[0]? = some (.map (kvI c)) := getSetN h3 ho
      have hkv : (kvI c)[j]? = some (Value.int .i64 e.1, I e.2) := by rw [kvI, List.getElem?_map, hcj]; rfl
      have en := fun k : Go.AM.K AV => entryK_at hset hm (by rw [kvI, List.length_map]) hkv k
      have e0 : ∀ (y z : AV) (k : Go.AM.K AV), exK (.tup [.s (.bool true), y, z]) 0 k = k (B true) := fun y z k => rfl
      have y0 : ∀ k : Go.AM.K AV, exK (.tup [keyAV (Value.int .i64 e.1), I e.2]) 0 k = k (I e.1) := fun k => rfl
      have y1 : ∀ k : Go.AM.K AV, exK (.tup [keyAV (Value.int .i64 e.1), I e.2]) 1 k = k (I e.2) := fun k => rfl
      generalize h.set o (.iter 0 c.length (seen ++ [j])) = h' at *
      have hol : o < h'.length := (List.getElem?_eq_some_iff.1 hset).1
      have h0l : 0 < h'.length := (List.getElem?_eq_some_iff.1 hm).1
      have rg : ∀ k : AV → Hp → Option AV, effK (rngE (.mp 0) h' h'.length) h' k = k (.it h'.length) (h' ++ [.iter 0 c.length []]) := fun k => by
        unfold rngE
        simp only [hm]
        rw [kvI, List.length_map]
        rfl
      have hl0 : leftIt c.length [] = List.range c.length := by unfold leftIt; exact List.filter_eq_self.2 fun x _ => by simp
      have hrb := crRow_bd c e.1 e.2
      simp -implicitDefEqProofs only [e0, condK_bool, if_true, en, y0, y1, rg]
      refine cross_L5 (it := h'.length) (by omega) NN [] cnt (h' ++ [.iter 0 c.length []]) (by rw [hl0, List.length_range]; have := NN_ge; omega) (by rw [get_new0]; rfl) (get_app hm) h4 (by rw [hl0, List.length_range]; omega) fun h'' hk => ?_
      rw [hl0]
      show f_network_Crossed_j4 Try.prog T D NN (f_network_Crossed_L2 Try.prog T D NN x0 n) x0 (.mp 0) (I (cnt + crRow c e.1 e.2)) (.it o) h'' = X
      have hk' : ∀ j < h'.length, h''[j]? = h'[j]? := fun j hj => by rw [hk.same j (by omega) (by simp; omega), List.getElem?_append_left hj]
      simp -implicitDefEqProofs only [f_network_Crossed_j4, f_network_Crossed_j3]
      refine ih (seen ++ [j]) (cnt + crRow c e.1 e.2) h'' (by omega) (by rw [hk' o hol]; exact hset) (by rw [hk' 0 h0l]; exact hm) (by omega) (by omega) fun h3 => ?_
      have := hx h3
      rw [← hsum, hg] at this
      rw [show cnt + crRow c e.1 e.2 + ((leftIt c.length (seen ++ [j])).map (crF c)).sum = cnt + (((leftIt c.length (seen ++ [j])).map (crF c)).sum + crRow c e.1 e.2) by omega]
      exact this
def croS (l : List Envl) (sch : List Int) : Int × Int := if askS l sch ≠ 0 then (0, askS l sch) else (crN (fstS sch), 0)
theorem Crossed_key (l : List Envl) (b : Bool) (sch : List Int) (b2 : Bool) (hl : l.length < 1000000) (hs : sch.length < 1000000) (st : Bool) : f_network_Crossed Try.prog t_network_Crossed d_network_Crossed NN (fun v g => cvt st g v) (.lst 10 b (l.map encV)) (.lst 1 b2 (sch.map enI)) [] = some (tupP (croS l sch)) := by
  have fa := F_network_asked_val l b sch b2 hl hs
  simp -implicitDefEqProofs only [f_network_Crossed, t_network_Crossed_53, callK_F, fa, eqK_int, Bool.true_xor, condK_bool]
  by_cases q : askS l sch = 0
  · have e1 : (askS l sch == 0) = true := by simpa using q
    obtain ⟨-, k1, k2, k3⟩ := askS_ok q
    obtain ⟨h', f1, f2⟩ := firsts_run (l := l) (b := b) (sch := sch) (b2 := b2) (by omega) k3
    have hS : croS l sch = (crN (fstS sch), 0) := if_neg (by simp [q])
    have hfl : (fstS sch).length ≤ sch.length := by simpa using fstP_len sch [] 0
    have h0l : 0 < h'.length := (List.getElem?_eq_some_iff.1 f2).1
    have rg : ∀ k : AV → Hp → Option AV, effK (rngE (.mp 0) h' h'.length) h' k = k (.it h'.length) (h' ++ [.iter 0 (fstS sch).length []]) := fun k => by
      unfold rngE
      simp only [f2]
      rw [kvI, List.length_map]
      rfl
    have hl0 : leftIt (fstS sch).length [] = List.range (fstS sch).length := by unfold leftIt; exact List.filter_eq_self.2 fun x _ => by simp
    rw [hS]
    simp -implicitDefEqProofs only [e1, Bool.not_true, Bool.false_eq_true, if_false, t_network_Crossed_54, callK_F, f1, rg]
    refine cross_L2 (c := fstS sch) (by omega) (o := h'.length) (by omega) NN [] 0 _ (by rw [hl0, List.length_range]; have := NN_ge; omega) (by rw [get_new0]; rfl) (get_app f2) (by omega) (by rw [hl0, List.length_range]; omega) fun h'' => ?_
    rw [hl0, Int.zero_add]
    rfl
  · have e1 : (askS l sch == 0) = false := by simpa using q
    have hS : croS l sch = (0, askS l sch) := if_pos q
    rw [hS]
    simp only [e1, Bool.not_false, if_true]
    rfl
theorem scal_P (r : Int × Int) : scal (tupP r) = true := rfl
theorem F_network_Repeated_at (l : List Envl) (b : Bool) (sch : List Int) {b2 : Bool} (hl : l.length < 1000000) (hs : sch.length < 1000000) {h : Hp} {v a : AV} (hv : cvt false h v = some a) (ha : nrm (.l 1) a = .lst 1 b2 (sch.map enI)) : F_network_Repeated [.lst 10 b (l.map encV), v] h = some (tupP (repS l sch), h) :=
  closedX_scal' (as' := [.lst 10 b (l.map encV), a]) (asl := [.lst 10 b (l.map encV), .lst 1 b2 (sch.map enI)]) (by simp only [cvts_cons, cvts_nil, hv]; rfl) (by simp only [nrms, ha]; rfl) rfl (F_network_Repeated_val l b sch b2 hl hs []) (scal_P _)
theorem F_network_Crossed_at (l : List Envl) (b : Bool) (sch : List Int) {b2 : Bool} (hl : l.length < 1000000) (hs : sch.length < 1000000) {h : Hp} {v a : AV} (hv : cvt false h v = some a) (ha : nrm (.l 1) a = .lst 1 b2 (sch.map enI)) : F_network_Crossed [.lst 10 b (l.map encV), v] h = some (tupP (croS l sch), h) :=
  F_network_Crossed_own (a0 := .lst 10 b (l.map encV)) (a1 := a) (by simp only [cvts_cons, cvts_nil, hv]; rfl) fun st => by rw [ha]; exact Crossed_key l b sch b2 hl hs st
end Go.AM


namespace Go.AM
open Go.Proofs
set_option linter.unusedVariables false
set_option linter.unusedSimpArgs false
set_option linter.constructorNameAsVariable false
set_option maxRecDepth 20000
section
variable {β : Type} {P : Program} {T : Tab} {D : DTab} {N : Nat} {K : AV → Hp → Option β}
theorem Index_Message_L2 {T : Tab} {D : DTab} {N : Nat} {x0 : Hp → Option β} {xr : AV → Hp → Option β} {l : List Msg} {b : Bool} {v : Msg} {h : Hp} {m : Nat} (hm : h[m]? = some (.arr 7 [encM v] true false)) (hl : l.length < 4611686018427387904) (heq : ∀ (x y : Msg) (h : Hp) (k : Go.AM.K β), eqK Try.prog false 31 (.agg (encM x)) (.agg (encM y)) h k = k (B (x == y))) :
    ∀ (n i : Nat), i ≤ l.length → l.length < i + n → f_slices_Index_Message_L2 Try.prog T D N x0 xr n (.lst 7 b (l.map encM)) (.ptr m 0 0 1) (I l.length) (I i) h = match (l.drop i).findIdx? (fun y => v == y) with | some j => xr (I ((i + j : Nat) : Int)) h | none => x0 h := by
  intro n
  induction n with
  | zero => intro i h1 h2; omega
  | succ n ih =>
    intro i h1 h2
    show f_slices_Index_Message_b2 Try.prog T D N (f_slices_Index_Message_L2 Try.prog T D N x0 xr n) x0 xr _ _ _ _ h = _
    unfold f_slices_Index_Message_b2
    rcases Nat.lt_or_ge i l.length with hi | hi
    · have hx : l[i]? = some l[i] := List.getElem?_eq_getElem hi
      have hlt : ((i : Int) < (l.length : Int)) := by omega
      have hw : IntKind.i64.wrap ((i : Int) + 1) = ((i + 1 : Nat) : Int) := by rw [wrap64 (by omega) (by omega)]; omega
      have hpx := fun k => heq v l[i] h k
      have h3 := ih (i + 1) hi (by omega)
      have ic : ∀ k : Go.AM.K β, iaK 7 (.lst 7 b (l.map encM)) (I i) k = k (.ep (encM l[i]) 0) := fun k => iaK_at i rfl hx k
      have ld : ∀ k : Go.AM.K β, ldK 7 true (.ep (encM l[i]) 0) h k = k ((fun y => .agg (encM y)) l[i]) := fun k => by simp [encM]
      rw [List.drop_eq_getElem_cons hi, List.findIdx?_cons]
      have lv : ∀ k : Go.AM.K β, ldK 7 true (.ptr m 0 0 1) h k = k ((fun x => .agg (encM x)) v) := fun k => by simp [hm, encM]
      dsimp only at h3 ld lv ⊢
      simp only [arithK_lss, hlt, decide_true, condK_bool, if_true, ic, ld, lv, hpx]
      cases hc : (v == l[i]) with
      | true => simp
      | false =>
        simp only [Bool.false_eq_true, if_false, arithK_add, hw]
        refine h3.trans ?_
        cases (List.drop (i + 1) l).findIdx? (fun y => v == y) with
        | none => rfl
        | some j =>
          show xr (I ((i + 1 + j : Nat) : Int)) h = xr (I ((i + (j + 1) : Nat) : Int)) h
          rw [show i + 1 + j = i + (j + 1) by omega]
    · have : i = l.length := by omega
      subst this
      simp
theorem F_slices_Contains_Message_val (l : List Msg) (b : Bool) (v : Msg) (hl : l.length < 1000000) (heq : ∀ (x y : Msg) (h : Hp) (k : Go.AM.K AV), eqK Try.prog false 31 (.agg (encM x)) (.agg (encM y)) h k = k (B (x == y))) (h : Hp) : F_slices_Contains_Message [.lst 7 b (l.map encM), (fun x => .agg (encM x)) v] h = some (B (l.contains v), h) := by
  have e : ∀ h, F_slices_Index_Message [.lst 7 b (l.map encM), (fun x => .agg (encM x)) v] h = some (I (match l.findIdx? (fun y => v == y) with | some j => (j : Int) | none => -1), h) :=
    F_slices_Index_Message_run rfl (by
      have := Index_Message_L2 (l := l) (T := t_slices_Index_Message) (D := d_slices_Index_Message) (N := NN) (b := b) (v := v) (h := [.arr 7 [encM v] true false]) (m := 0) (x0 := fun h => f_slices_Index_Message_j1 Try.prog t_slices_Index_Message d_slices_Index_Message NN (fun v g => cvt false g v) h) (xr := fun a h => cvt false h a) rfl (by omega) heq NN 0 (Nat.zero_le _) (by have := NN_ge; omega)
      have bx : ∀ k : AV → Hp → Option AV, effK (boxE 7 ((fun x => .agg (encM x)) v) ([] : Hp).length) [] k = k (.ptr 0 0 0 1) [.arr 7 [encM v] true false] := fun k => by simp [boxE, encM]
      simp only [nrm, nrmC, f_slices_Index_Message, lenK_lst, List.length_map, bx]
      simp only [List.drop_zero] at this
      refine this.trans ?_
      cases l.findIdx? (fun y => v == y) with
      | none => rfl
      | some j => simp)
  have bx : ∀ k : AV → Hp → Option AV, effK (boxE 7 ((fun x => .agg (encM x)) v) ([] : Hp).length) [] k = k (.ptr 0 0 0 1) [.arr 7 [encM v] true false] := fun k => by simp [boxE, encM]
  have lv : ∀ k : Go.AM.K AV, ldK 7 true (.ptr 0 0 0 1) [.arr 7 [encM v] true false] k = k ((fun x => .agg (encM x)) v) := fun k => by simp [encM]
  refine F_slices_Contains_Message_run rfl ?_ h
  simp only [nrm, nrmC, f_slices_Contains_Message, bx, lv, t_slices_Contains_Message_60, callK_F, e]
  have : l.contains v = (l.findIdx? (fun y => v == y)).isSome := by rw [List.findIdx?_isSome, List.contains_eq_any_beq]
  rw [this]
  cases l.findIdx? (fun y => v == y) <;> simp
end
attribute [local congr] arithK_cg eqK_cg notK_cg convK_cg pickK_cg buildK_cg ldK_cg nilK_cg sliceK_cg faK_cg fldK_cg iaK_cg iaA_cg lookK_cg capK_cg exK_cg lenK_cg minK_cg maxK_cg effK_cg callK_cg callVK_cg effD_cg gopD_cg grpK_cg condK_cg cond_cg
theorem contains_M {o : List Msg} {m : Msg} {h : Hp} {v a : AV} {b : Bool} (hl : o.length < 1000000) (hv : cvt false h v = some a) (ha : nrm (.l 7) a = .lst 7 b (o.map encM)) : F_slices_Contains_Message [v, .agg (encM m)] h = some (B (o.contains m), h) :=
  closedX_scal' (as' := [a, .agg (encM m)]) (asl := [.lst 7 b (o.map encM), .agg (encM m)]) (by simp only [cvts_cons, cvts_nil, hv]; rfl) (by simp only [nrms, ha]; rfl) rfl (F_slices_Contains_Message_val o b m hl (fun x y h k => by rw [eqs_Me, Bool.false_xor]) []) rfl
def uniqM : List Msg → List Envl → List Msg
  | o, [] => o
  | o, e :: r => if o.contains e.msg = true then uniqM o r else uniqM (o ++ [e.msg]) r
theorem uniqM_len : ∀ (r : List Envl) (o : List Msg), (uniqM o r).length ≤ o.length + r.length
  | [], o => by simp [uniqM]
  | e :: r, o => by
    have h1 := uniqM_len r o
    have h2 := uniqM_len r (o ++ [e.msg])
    rw [List.length_append] at h2
    simp only [uniqM, List.length_cons, List.length_nil] at h2 ⊢
    split <;> omega
theorem Known_L2 {E : List Envl} {b : Bool} {base : Nat} (hl : E.length < 100000) : ∀ (n i : Nat) (v : AV) (h : Hp) (o : List Msg), i ≤ E.length → E.length < i + n → Gro 7 encM h v o → o.length ≤ i → (∀ k, idOf v = some k → base ≤ k) → base ≤ h.length →
    ∃ v' h', (∀ {β : Type} (x0 : AV → Hp → Option β), f_network_Known_L2 Try.prog t_network_Known d_network_Known NN x0 n v (.lst 10 b (E.map encV)) (I E.length) (I i) h = x0 v' h') ∧ Gro 7 encM h' v' (uniqM o (E.drop i)) ∧ (∀ j < base, h'[j]? = h[j]?) := by
  intro n
  induction n with
  | zero => intro i v h o h1 h2; omega
  | succ n ih =>
    intro i v h o h1 h2 G ho hv hb
    rcases Nat.lt_or_ge i E.length with hi | hi
    · have hx : E[i]? = some E[i] := List.getElem?_eq_getElem hi
      rw [List.drop_eq_getElem_cons hi]
      generalize E[i] = e at hx
      have hlt : ((i : Int) < (E.length : Int)) := by omega
      have hw : IntKind.i64.wrap ((i : Int) + 1) = ((i + 1 : Nat) : Int) := by rw [wrap64 (by omega) (by omega)]; omega
      obtain ⟨x, hhx⟩ : ∃ x, x = h ++ [AObj.arr 10 [encV e] true false] := ⟨_, rfl⟩
      have Gx : Gro 7 encM x v o := by rw [hhx]; exact G.app _
      obtain ⟨w, w1, w2⟩ := Gx.cvts (fun x st => by cases st <;> simp [encM, isS])
      have fc := contains_M (m := e.msg) (by omega) (w1 false) w2
      have hxl : x.length = h.length + 1 := by rw [hhx]; simp
      simp only [uniqM]
      cases hk : o.contains e.msg with
      | true =>
        rw [if_pos rfl]
        obtain ⟨v', h', a1, a2, a3⟩ := ih (i + 1) v x o hi (by omega) Gx (by omega) hv (by omega)
        refine ⟨v', h', fun {β} x0 => ?_, a2, fun j hj => by rw [a3 j hj, hhx, List.getElem?_append_left (by omega)]⟩
        rw [← a1 x0]
        have ic : ∀ k : Go.AM.K β, iaK 10 (.lst 10 b (E.map encV)) (I i) k = k (.ep (encV e) 0) := fun k => iaK_at i rfl hx k
        have ld : ∀ k : Go.AM.K β, ldK 10 true (.ep (encV e) 0) h k = k (.agg (encV e)) := fun k => rfl
        have ns : ∀ k : AV → Hp → Option β, effK (stE 10 (.ptr h.length 0 0 1) (.agg (encV e)) (h ++ [.arr 10 [zE] true false])) (h ++ [.arr 10 [zE] true false]) k = k .u x := fun k => by rw [hhx]; exact nst k
        have m3 : ∀ k : Go.AM.K β, ldK 7 true (.ptr h.length 0 3 1) x k = k (.agg (encM e.msg)) := fun k => by rw [hhx]; exact nl3 k
        show f_network_Known_b2 Try.prog t_network_Known d_network_Known NN (f_network_Known_L2 Try.prog t_network_Known d_network_Known NN x0 n) x0 _ _ _ _ h = _
        simp -implicitDefEqProofs only [f_network_Known_b2, arithK_lss, hlt, decide_true, condK_bool, if_true, ic, ld, nbx, ns, faK_ptr, Nat.zero_add, m3, t_network_Known_37, callK_F, fc, hk, notK_bool, Bool.not_true, Bool.false_eq_true, if_false, f_network_Known_j4, f_network_Known_j3, arithK_add, hw]
      | false =>
        rw [if_neg (by simp)]
        obtain ⟨v1, e1, g1, g2, g3, g4, g5⟩ := Gro.snocE (f := encM) (sz := 7) (h := x ++ [AObj.arr 7 [encM e.msg] true false]) (Gx.app [AObj.arr 7 [encM e.msg] true false]) (by_ := 56) (m := x.length) (z := e.msg) (b := true) (by rw [get_new0]; rfl) (fun hk => by have := Gx.lt hk; omega) (fun x _ => rfl) (by omega)
        obtain ⟨v', h', a1, a2, a3⟩ := ih (i + 1) v1 (ap (x ++ [.arr 7 [encM e.msg] true false]) e1) (o ++ [e.msg]) hi (by omega) g2 (by simp; omega) (fun k hk => by
          rcases g5 with q | q
          · exact hv k (q ▸ hk)
          · rw [q] at hk; simp at hk; omega) (by simp at g3; omega)
        have kp : ∀ j < base, (ap (x ++ [.arr 7 [encM e.msg] true false]) e1)[j]? = h[j]? := fun j hj => by
          have hjh : j < h.length := by omega
          have hg : h[j]? = some h[j] := List.getElem?_eq_getElem hjh
          rw [hg]
          refine g4 j _ (get_app (by rw [hhx]; exact get_app hg)) fun hk => ?_
          have := hv j hk; omega
        refine ⟨v', h', fun {β} x0 => ?_, a2, fun j hj => by rw [a3 j hj, kp j hj]⟩
        rw [← a1 x0]
        have ic : ∀ k : Go.AM.K β, iaK 10 (.lst 10 b (E.map encV)) (I i) k = k (.ep (encV e) 0) := fun k => iaK_at i rfl hx k
        have ld : ∀ k : Go.AM.K β, ldK 10 true (.ep (encV e) 0) h k = k (.agg (encV e)) := fun k => rfl
        have ns : ∀ k : AV → Hp → Option β, effK (stE 10 (.ptr h.length 0 0 1) (.agg (encV e)) (h ++ [.arr 10 [zE] true false])) (h ++ [.arr 10 [zE] true false]) k = k .u x := fun k => by rw [hhx]; exact nst k
        have m3 : ∀ k : Go.AM.K β, ldK 7 true (.ptr h.length 0 3 1) x k = k (.agg (encM e.msg)) := fun k => by rw [hhx]; exact nl3 k
        have bs : ∀ k : AV → Hp → Option β, effK (bsE 7 zM 1 [(0, .agg (encM e.msg))] x.length) x k = k (.sl 7 x.length 0 1 1 true) (x ++ [.arr 7 [encM e.msg] true false]) := fun k => by simp [bsE, fillS, encM, effK, ap]
        have ae : ∀ k : AV → Hp → Option β, effK (appE 7 56 v (.sl 7 x.length 0 1 1 true) (x ++ [.arr 7 [encM e.msg] true false]) (x ++ [AObj.arr 7 [encM e.msg] true false]).length) (x ++ [.arr 7 [encM e.msg] true false]) k = k v1 (ap (x ++ [.arr 7 [encM e.msg] true false]) e1) := fun k => by rw [g1]; rfl
        show f_network_Known_b2 Try.prog t_network_Known d_network_Known NN (f_network_Known_L2 Try.prog t_network_Known d_network_Known NN x0 n) x0 _ _ _ _ h = _
        simp -implicitDefEqProofs only [f_network_Known_b2, arithK_lss, hlt, decide_true, condK_bool, if_true, ic, ld, nbx, ns, faK_ptr, Nat.zero_add, m3, t_network_Known_37, callK_F, fc, hk, notK_bool, Bool.not_false, bs, ae, f_network_Known_j4, f_network_Known_j3, arithK_add, hw]
    · have : i = E.length := by omega
      subst this
      refine ⟨v, h, fun {β} x0 => ?_, by rw [List.drop_length]; exact G, fun _ _ => rfl⟩
      have c1 : ¬ ((E.length : Int) < (E.length : Int)) := by omega
      show f_network_Known_b2 Try.prog t_network_Known d_network_Known NN (f_network_Known_L2 Try.prog t_network_Known d_network_Known NN x0 n) x0 _ _ _ _ h = _
      simp -implicitDefEqProofs only [f_network_Known_b2, arithK_lss, c1, decide_false, condK_bool, Bool.false_eq_true, if_false]
def knS (l : List Envl) (sch : List Int) (node : Int) : List Msg × Int := if (toS l sch node).2 ≠ 0 then ([], (toS l sch node).2) else if errM (uniqM [] (toS l sch node).1) = 0 then (normL (uniqM [] (toS l sch node).1), 0) else ([], errM (uniqM [] (toS l sch node).1))
theorem toS_len (l : List Envl) (sch : List Int) (node : Int) : (toS l sch node).1.length ≤ sch.length := by
  have := toL_len l sch node
  unfold toS
  split
  · simp
  · split
    · simp
    · exact this
def knW (l : List Envl) (sch : List Int) (node : Int) : AV := if (toS l sch node).2 ≠ 0 then nilS else if errM (uniqM [] (toS l sch node).1) = 0 then SLm true (normL (uniqM [] (toS l sch node).1)) else .lst 7 true []
theorem knW_form (l : List Envl) (sch : List Int) (node : Int) : (knW l sch node = nilS ∨ ∃ x, knW l sch node = .lst 7 x ((knS l sch node).1.map encM)) ∧ nrm (.l 7) (knW l sch node) = .lst 7 (knS l sch node).1.isEmpty ((knS l sch node).1.map encM) := by
  unfold knW knS
  by_cases q : (toS l sch node).2 ≠ 0
  · rw [if_pos q, if_pos q]; exact ⟨.inl rfl, rfl⟩
  · rw [if_neg q, if_neg q]
    by_cases z : errM (uniqM [] (toS l sch node).1) = 0
    · rw [if_pos z, if_pos z]; exact ⟨.inr ⟨_, rfl⟩, rfl⟩
    · rw [if_neg z, if_neg z]; exact ⟨.inr ⟨true, rfl⟩, rfl⟩
theorem knW_ok {l : List Envl} {sch : List Int} {node : Int} (h : (knS l sch node).2 = 0) : knW l sch node = .lst 7 (knS l sch node).1.isEmpty ((knS l sch node).1.map encM) := by
  unfold knS at h ⊢
  unfold knW
  by_cases q : (toS l sch node).2 ≠ 0
  · rw [if_pos q] at h; exact absurd h q
  · rw [if_neg q] at h
    rw [if_neg q, if_neg q]
    by_cases z : errM (uniqM [] (toS l sch node).1) = 0
    · rw [if_pos z, if_pos z]; rfl
    · rw [if_neg z] at h; exact absurd h z
theorem Known_keyW (l : List Envl) (b : Bool) (sch : List Int) {b2 : Bool} (node : Int) (hl : l.length < 1000000) (hs : sch.length < 100000) {h : Hp} {v a : AV} (hv : cvt false h v = some a) (ha : nrm (.l 1) a = .lst 1 b2 (sch.map enI)) :
    ∃ h', (∀ {β : Type} (K : AV → Hp → Option β), f_network_Known Try.prog t_network_Known d_network_Known NN K (.lst 10 b (l.map encV)) v (I node) h = K (.tup [knW l sch node, I (knS l sch node).2]) h') ∧ ∀ j < h.length, h'[j]? = h[j]? := by
  have ft := F_network_to_at l b sch node hl (by omega) hv ha
  have hlen := toS_len l sch node
  by_cases q : (toS l sch node).2 = 0
  · have e1 : ((toS l sch node).2 == 0) = true := by simpa using q
    obtain ⟨E, hE⟩ : ∃ E, E = (toS l sch node).1 := ⟨_, rfl⟩
    rw [← hE] at hlen
    obtain ⟨v', h', a1, a2, a3⟩ := Known_L2 (E := E) (b := E.isEmpty) (base := h.length) (by omega) NN 0 nilS h [] (by omega) (by have := NN_ge; omega) .nil (by simp) (by simp) (Nat.le_refl _)
    rw [List.drop_zero] at a2
    have hu := uniqM_len E []
    simp only [List.length_nil, Nat.zero_add] at hu
    obtain ⟨w, w1, w2⟩ := a2.cvts (fun x st => by cases st <;> simp [encM, isS])
    have fN := F_document_Normal_at (uniqM [] E) (b := true) (by omega) (h := h') (v := v') (a := w) (by simp only [cvts_cons, cvts_nil, w1]) (by rw [w2]; rfl)
    have hS : knS l sch node = if errM (uniqM [] E) = 0 then (normL (uniqM [] E), 0) else ([], errM (uniqM [] E)) := by unfold knS; rw [if_neg (by simp [q]), hE]
    have hW : knW l sch node = if errM (uniqM [] E) = 0 then SLm true (normL (uniqM [] E)) else .lst 7 true [] := by unfold knW; rw [if_neg (by simp [q]), hE]
    rw [hW]
    refine ⟨h', fun {β} K => ?_, a3⟩
    · have x0 : ∀ k : Go.AM.K β, exK (dlvV l sch node) 0 k = k (.lst 10 E.isEmpty (E.map encV)) := fun k => by rw [hE]; rfl
      have x1 : ∀ k : Go.AM.K β, exK (dlvV l sch node) 1 k = k (I (toS l sch node).2) := fun k => rfl
      have y0 : ∀ k : Go.AM.K β, exK (normR true (uniqM [] E)) 0 k = k (if errM (uniqM [] E) = 0 then SLm true (normL (uniqM [] E)) else .lst 7 true []) := fun k => rfl
      have y1 : ∀ k : Go.AM.K β, exK (normR true (uniqM [] E)) 1 k = k (I (errM (uniqM [] E))) := fun k => rfl
      have hS2 : (knS l sch node).2 = errM (uniqM [] E) := by rw [hS]; by_cases z : errM (uniqM [] E) = 0 <;> simp [z]
      rw [hS2]
      simp -implicitDefEqProofs only [f_network_Known, t_network_Known_49, callK_F, ft, x0, x1, eqK_int, e1, Bool.true_xor, Bool.not_true, condK_bool, Bool.false_eq_true, if_false, lenK_lst, List.length_map]
      refine (a1 _).trans ?_
      simp -implicitDefEqProofs only [f_network_Known_j1, t_network_Known_38, callK_F, fN, y0, y1]
  · have e1 : ((toS l sch node).2 == 0) = false := by simpa using q
    have hS : knS l sch node = ([], (toS l sch node).2) := if_pos q
    have hW : knW l sch node = nilS := if_pos q
    rw [hS, hW]
    refine ⟨h, fun {β} K => ?_, fun _ _ => rfl⟩
    have x0 : ∀ k : Go.AM.K β, exK (dlvV l sch node) 0 k = k (.lst 10 (toS l sch node).1.isEmpty ((toS l sch node).1.map encV)) := fun k => rfl
    have x1 : ∀ k : Go.AM.K β, exK (dlvV l sch node) 1 k = k (I (toS l sch node).2) := fun k => rfl
    simp -implicitDefEqProofs only [f_network_Known, t_network_Known_49, callK_F, ft, x0, x1, eqK_int, e1, Bool.true_xor, Bool.not_false, condK_bool, if_true]
theorem Known_key (l : List Envl) (b : Bool) (sch : List Int) {b2 : Bool} (node : Int) (hl : l.length < 1000000) (hs : sch.length < 100000) {h : Hp} {v a : AV} (hv : cvt false h v = some a) (ha : nrm (.l 1) a = .lst 1 b2 (sch.map enI)) :
    ∃ w h', (∀ {β : Type} (K : AV → Hp → Option β), f_network_Known Try.prog t_network_Known d_network_Known NN K (.lst 10 b (l.map encV)) v (I node) h = K (.tup [w, I (knS l sch node).2]) h') ∧ (w = nilS ∨ ∃ x, w = .lst 7 x ((knS l sch node).1.map encM)) ∧ nrm (.l 7) w = .lst 7 (knS l sch node).1.isEmpty ((knS l sch node).1.map encM) ∧ ∀ j < h.length, h'[j]? = h[j]? := by
  obtain ⟨h', h1, h2⟩ := Known_keyW l b sch node hl hs hv ha
  obtain ⟨f1, f2⟩ := knW_form l sch node
  exact ⟨knW l sch node, h', h1, f1, f2, h2⟩
end Go.AM


namespace Go.AM
open Go.Proofs
set_option linter.unusedVariables false
set_option linter.unusedSimpArgs false
set_option linter.constructorNameAsVariable false
theorem ltM_irrefl (a : Msg) : ltM a a = false := ltZ_irrefl _
theorem ltM_trans {a b c : Msg} (h1 : ltM a b = true) (h2 : ltM b c = true) : ltM a c = true := ltZ_trans (n := 7) rfl rfl rfl h1 h2
theorem ltM_total {a b : Msg} (h1 : ltM a b = false) (h2 : ltM b a = false) : a = b := by
  have := ltZ_total (n := 7) (a := cellsM a) (b := cellsM b) rfl rfl h1 h2
  obtain ⟨a0, a1, a2, a3, a4, a5, a6⟩ := a
  obtain ⟨b0, b1, b2, b3, b4, b5, b6⟩ := b
  simpa [cellsM] using this
theorem ltM_asymm {a b : Msg} (h : ltM a b = true) : ltM b a = false := by
  cases h2 : ltM b a with
  | false => rfl
  | true => have := ltM_trans h h2; rw [ltM_irrefl] at this; cases this
abbrev Srt (l : List Msg) : Prop := l.Pairwise fun a b => ltM a b = true
theorem srt_unique : ∀ {a b : List Msg}, Srt a → Srt b → (∀ x, x ∈ a ↔ x ∈ b) → a = b
  | [], [], _, _, _ => rfl
  | [], y :: b, _, _, h => by have := (h y).2 (by simp); simp at this
  | x :: a, [], _, _, h => by have := (h x).1 (by simp); simp at this
  | x :: a, y :: b, ha, hb, h => by
    rw [Srt, List.pairwise_cons] at ha hb
    have e : x = y := by
      rcases List.mem_cons.1 ((h x).1 (by simp)) with e | h1
      · exact e
      · rcases List.mem_cons.1 ((h y).2 (by simp)) with e | h2
        · exact e.symm
        · have h3 := hb.1 x h1
          have h4 := ha.1 y h2
          have := ltM_asymm h3
          rw [h4] at this
          cases this
    subst e
    rw [srt_unique ha.2 hb.2 fun z => ?_]
    have hz := h z
    simp only [List.mem_cons] at hz
    constructor
    · intro hm
      rcases hz.1 (.inr hm) with rfl | h1
      · have := ha.1 z hm; rw [ltM_irrefl] at this; cases this
      · exact h1
    · intro hm
      rcases hz.2 (.inr hm) with rfl | h1
      · have := hb.1 z hm; rw [ltM_irrefl] at this; cases this
      · exact h1
theorem mem_compL : ∀ {l : List Msg} {x : Msg}, x ∈ compL l ↔ x ∈ l
  | [], x => by simp [compL]
  | [a], x => by simp [compL]
  | a :: b :: l, x => by
    have ih := @mem_compL (b :: l) x
    simp only [compL]
    split
    · rename_i e
      subst e
      rw [ih]; simp
    · rw [List.mem_cons, ih, List.mem_cons (a := x) (b := a)]
theorem srt_compL : ∀ {l : List Msg}, l.Pairwise (fun a b => ltM b a = false) → Srt (compL l)
  | [], _ => by simp [compL]
  | [a], _ => by simp [compL]
  | a :: b :: l, h => by
    rw [List.pairwise_cons] at h
    have ih := srt_compL h.2
    simp only [compL]
    split
    · exact ih
    · rename_i hne
      rw [Srt, List.pairwise_cons]
      refine ⟨fun x hx => ?_, ih⟩
      rw [mem_compL] at hx
      cases h1 : ltM a x with
      | true => rfl
      | false =>
        have e := ltM_total h1 (h.1 x hx)
        subst e
        rcases List.mem_cons.1 hx with e | hx
        · exact absurd e hne
        · rw [List.pairwise_cons] at h
          exact absurd (ltM_total (h.2.1 a hx) (h.1 b (by simp))) hne
theorem sortM_pw (l : List Msg) : (sortM l).Pairwise fun a b => ltM b a = false := by
  have := List.pairwise_mergeSort (le := fun x y : Msg => !ltM y x) (fun a b c h1 h2 => ?_) (fun a b => ?_) l
  · exact this.imp fun h => by simpa using h
  · simp only [Bool.not_eq_true'] at h1 h2 ⊢
    cases h3 : ltM c a with
    | false => rfl
    | true =>
      cases h4 : ltM a b with
      | true => rw [ltM_trans h3 h4] at h2; cases h2
      | false =>
        have := ltM_total h4 h1
        subst this
        rw [h3] at h2; cases h2
  · cases h1 : ltM b a with
    | false => rfl
    | true => simp [ltM_asymm h1]
theorem mem_sortM {l : List Msg} {x : Msg} : x ∈ sortM l ↔ x ∈ l := by
  unfold sortM
  exact (List.mergeSort_perm l _).mem_iff
theorem normL_srt (l : List Msg) : Srt (normL l) := srt_compL (sortM_pw l)
theorem mem_normL {l : List Msg} {x : Msg} : x ∈ normL l ↔ x ∈ l := by unfold normL; rw [mem_compL, mem_sortM]
theorem normL_eq {l o : List Msg} (h1 : Srt o) (h2 : ∀ x, x ∈ o ↔ x ∈ l) : o = normL l := srt_unique h1 (normL_srt l) fun x => by rw [h2, mem_normL]
theorem normL_of_srt {l : List Msg} (h : Srt l) : normL l = l := (normL_eq h fun _ => Iff.rfl).symm
theorem normL_congr {l m : List Msg} (h : ∀ x, x ∈ l ↔ x ∈ m) : normL l = normL m := normL_eq (normL_srt l) fun x => by rw [mem_normL, h]
theorem errM_zero {l : List Msg} : errM l = 0 ↔ l.length ≤ 64 ∧ ∀ m ∈ l, checkM m = 0 := by
  unfold errM
  constructor
  · intro h
    split at h
    · simp at h
    · split at h
      · simp at h
      · rename_i h1 h2
        refine ⟨by omega, fun m hm => ?_⟩
        simp only [Bool.not_eq_true, List.any_eq_false] at h2
        simpa using h2 m hm
  · rintro ⟨h1, h2⟩
    rw [if_neg (by omega), if_neg]
    simp only [Bool.not_eq_true, List.any_eq_false]
    intro m hm
    simpa using h2 m hm
end Go.AM


namespace Go.AM
open Go.Proofs
set_option linter.unusedVariables false
set_option linter.unusedSimpArgs false
set_option linter.constructorNameAsVariable false
set_option maxRecDepth 20000
abbrev SL {α : Type} (sz : Nat) (f : α → List AV) (b : Bool) (l : List α) : AV := .lst sz (b && l.isEmpty) (l.map f)
section
variable {β : Type} {P : Program} {T : Tab} {D : DTab} {N : Nat} {K : AV → Hp → Option β}
theorem F_slices_Clone_Envelope_val (l : List Envl) (b : Bool) (hl : l.length < 1000000) (h : Hp) : F_slices_Clone_Envelope [SL 10 encV b l] h = some (SL 10 encV b l, h) := by
  refine (F_slices_Clone_Envelope_run (v := if b && l.isEmpty then nilS else SL 10 encV b l) rfl ?_ h).trans ?_
  · by_cases hb : (b && l.isEmpty) = true
    · simp [f_slices_Clone_Envelope, hb]
    · have hb' : (b && l.isEmpty) = false := by simpa using hb
      have hle : l.length * 80 ≤ 140737488355328 := by omega
      have h2 : ((l.map encV).all fun e => e.length == 10) = true := by simp [encV]
      have h3 : okE false (l.map encV) = true := okE_map (by intro x; simp [encV])
      simp [f_slices_Clone_Envelope, hb', bsE, fillS, appE, readSl, hle, h2, ap]
      rw [cvt_whole rfl (by simp) (by simp) h3, SL, hb']
  · by_cases hb : (b && l.isEmpty) = true
    · obtain ⟨rfl, hl0⟩ := Bool.and_eq_true_iff.1 hb
      have : l = [] := by simpa using hl0
      subst this
      rfl
    · rw [if_neg hb]
      rfl
theorem F_slices_Clone_int_val (l : List Int) (b : Bool) (hl : l.length < 1000000) (h : Hp) : F_slices_Clone_int [SL 1 enI b l] h = some (SL 1 enI b l, h) := by
  refine (F_slices_Clone_int_run (v := if b && l.isEmpty then nilS else SL 1 enI b l) rfl ?_ h).trans ?_
  · by_cases hb : (b && l.isEmpty) = true
    · simp [f_slices_Clone_int, hb]
    · have hb' : (b && l.isEmpty) = false := by simpa using hb
      have hle : l.length * 8 ≤ 140737488355328 := by omega
      have h2 : ((l.map enI).all fun e => e.length == 1) = true := by simp [enI]
      have h3 : okE false (l.map enI) = true := okE_map (by intro x; simp [enI])
      simp [f_slices_Clone_int, hb', bsE, fillS, appE, readSl, hle, h2, ap]
      rw [cvt_whole rfl (by simp) (by simp) h3, SL, hb']
  · by_cases hb : (b && l.isEmpty) = true
    · obtain ⟨rfl, hl0⟩ := Bool.and_eq_true_iff.1 hb
      have : l = [] := by simpa using hl0
      subst this
      rfl
    · rw [if_neg hb]
      rfl
end
attribute [local congr] arithK_cg eqK_cg notK_cg convK_cg pickK_cg buildK_cg ldK_cg nilK_cg sliceK_cg faK_cg fldK_cg iaK_cg iaA_cg lookK_cg capK_cg exK_cg lenK_cg minK_cg maxK_cg effK_cg callK_cg callVK_cg effD_cg gopD_cg grpK_cg condK_cg cond_cg
abbrev g1 : Envl := ⟨1, 2, 1, ⟨1, 1, 0, 0, 1, 2, 10⟩⟩
abbrev g2 : Envl := ⟨1, 2, 2, ⟨2, 1, 0, 0, 1, 2, 10⟩⟩
abbrev g3 : Envl := ⟨1, 2, 3, ⟨3, 1, 0, 0, 1, 2, 10⟩⟩
abbrev exE : List Envl := [g1, g2, g3]
theorem exE_L (T : Tab) (D : DTab) (N n : Nat) : f_law41_example_L2 Try.prog T D N (fun w11_1 h => f_law41_example_j1 Try.prog T D N (fun v g => cvt false g v) w11_1 h) (n + 4) nilS (I 0) [] = some (.lst 10 false (exE.map encV)) := by kernel_rfl
theorem F_law41_example_val (h : Hp) : F_law41_example [] h = some (.lst 10 false (exE.map encV), h) := by
  refine (F_law41_example_run (v := .lst 10 false (exE.map encV)) rfl ?_ h).trans rfl
  obtain ⟨n, hn⟩ : ∃ n, NN = n + 4 := ⟨NN - 4, by have := NN_ge; omega⟩
  refine Eq.trans ?_ (exE_L t_law41_example d_law41_example NN n)
  rw [← hn]
  rfl
abbrev exS : List Int := [2, 0, 2]
theorem ex_to : toS exE exS 2 = ([g3, g1, g3], 0) := by decide +kernel
theorem ex_lost : lostS exE exS = ([1], 0) := by decide +kernel
theorem ex_rep : repS exE exS = (1, 0) := by decide +kernel
theorem ex_cro : croS exE exS = (1, 0) := by decide +kernel
theorem ex_uniq : uniqM [] [g3, g1, g3] = [g3.msg, g1.msg] := by decide +kernel
theorem ex_normN : normL [g3.msg, g1.msg] = [g1.msg, g3.msg] := by
  refine (normL_eq (o := [g1.msg, g3.msg]) (by decide) fun x => ?_).symm
  simp only [List.mem_cons, List.not_mem_nil, or_false]
  constructor
  · rintro (h | h) <;> simp [h]
  · rintro (h | h) <;> simp [h]
theorem ex_kn : knS exE exS 2 = ([g1.msg, g3.msg], 0) := by
  unfold knS
  rw [ex_to]
  simp only [ne_eq, not_true_eq_false, if_false]
  rw [ex_uniq, if_pos (by decide +kernel), ex_normN]
theorem eqI_L (T : Tab) (D : DTab) (N n : Nat) : f_slices_Equal_int_L2 Try.prog T D N (fun h => f_slices_Equal_int_j1 Try.prog T D N (fun v g => cvt false g v) h) (fun w13_4 h => cvt false h w13_4) (n + 2) (.lst 1 false [[I 1]]) (.lst 1 false [[I 1]]) (I 1) (I 0) [] = some (B true) := by kernel_rfl
theorem eq_one (h : Hp) : F_slices_Equal_int [.lst 1 false [[I 1]], .lst 1 false [[I 1]]] h = some (B true, h) := by
  refine F_slices_Equal_int_run rfl ?_ h
  obtain ⟨n, hn⟩ : ∃ n, NN = n + 2 := ⟨NN - 2, by have := NN_ge; omega⟩
  refine Eq.trans ?_ (eqI_L t_slices_Equal_int d_slices_Equal_int NN n)
  rw [← hn]
  rfl
theorem F_law41_awake_val (h : Hp) : F_law41_awake [] h = some (B true, h) := by
  refine F_law41_awake_run rfl ?_ h
  obtain ⟨H, hH⟩ : ∃ H : Hp, H = [.arr 1 [[I 2], [I 0], [I 2]] true false] := ⟨_, rfl⟩
  have bs : ∀ k : AV → Hp → Option AV, effK (bsE 1 [.s (.int .i64 0)] 3 [(0, .s (.int .i64 2)), (1, .s (.int .i64 0)), (2, .s (.int .i64 2))] 0) [] k = k (.sl 1 0 0 3 3 true) H := fun k => by rw [hH]; rfl
  have cv : cvt false H (.sl 1 0 0 3 3 true) = some (.lst 1 false (exS.map enI)) := by rw [hH]; exact cvt_whole (es := exS.map enI) rfl rfl rfl (okE_map fun x => by simp)
  have ft := F_network_to_at exE false exS (b2 := false) 2 (by decide) (by decide) cv rfl
  have fd : R_network_Deliver [.lst 10 false (exE.map encV), .sl 1 0 0 3 3 true, I 2] H = some (dlvV exE exS 2, H) := by
    rw [R_network_Deliver_raw]
    simp -implicitDefEqProofs only [f_network_Deliver, t_network_Deliver_49, callK_F, ft]
    rfl
  have fl := F_network_Lost_at exE false exS (b2 := false) (by decide) (by decide) cv rfl
  have fr := F_network_Repeated_at exE false exS (b2 := false) (by decide) (by decide) cv rfl
  have fc := F_network_Crossed_at exE false exS (b2 := false) (by decide) (by decide) cv rfl
  obtain ⟨w, h', k1, -, k3, k4⟩ := Known_key exE false exS (b2 := false) 2 (by decide) (by decide) cv rfl
  rw [ex_kn] at k1 k3
  have fk : R_network_Known [.lst 10 false (exE.map encV), .sl 1 0 0 3 3 true, I 2] H = some (.tup [w, I 0], h') := by
    rw [R_network_Known_raw]
    exact k1 _
  have hwl : ∀ k : Go.AM.K AV, lenK w k = k (I 2) := fun k => by
    cases w with
    | s v =>
      by_cases hv : v = .slice none 0 0
      · subst hv; simp [nrm, nrmC] at k3
      · exfalso
        have : nrm (.l 7) (.s v) = .s v := by
          cases v <;> try rfl
          rename_i a b c
          cases a <;> try rfl
          cases b <;> try rfl
          cases c <;> try rfl
          exact absurd rfl hv
        rw [this] at k3
        simp at k3
    | lst sz nil es =>
      simp only [nrm, nrmC, AV.lst.injEq] at k3
      obtain ⟨-, -, rfl⟩ := k3
      rfl
    | _ => simp [nrm, nrmC] at k3
  have fe := F_law41_example_val
  have x0 : ∀ k : Go.AM.K AV, exK (dlvV exE exS 2) 0 k = k (.lst 10 false ([g3, g1, g3].map encV)) := fun k => by unfold dlvV; rw [ex_to]; rfl
  have x1 : ∀ k : Go.AM.K AV, exK (dlvV exE exS 2) 1 k = k (I 0) := fun k => by unfold dlvV; rw [ex_to]; rfl
  rw [ex_lost] at fl
  rw [ex_rep] at fr
  rw [ex_cro] at fc
  have tp : ∀ (a b : AV) (k : Go.AM.K AV), exK (.tup [a, b]) 0 k = k a := fun a b k => rfl
  have tq : ∀ (a b : AV) (k : Go.AM.K AV), exK (.tup [a, b]) 1 k = k b := fun a b k => rfl
  have i0 : ∀ k : Go.AM.K AV, iaK 10 (.lst 10 false ([g3, g1, g3].map encV)) (.s (.int .i64 0)) k = k (.ep (encV g3) 0) := fun k => rfl
  have i1 : ∀ k : Go.AM.K AV, iaK 10 (.lst 10 false ([g3, g1, g3].map encV)) (.s (.int .i64 1)) k = k (.ep (encV g1) 0) := fun k => rfl
  have ln : ∀ (h : Hp) (e : Envl) (k : Go.AM.K AV), ldK 1 false (.ep (encV e) 2) h k = k (I e.num) := fun h e k => rfl
  have bq : ∀ k : AV → Hp → Option AV, effK (bsE 1 [.s (.int .i64 0)] 1 [(0, .s (.int .i64 1))] h'.length) h' k = k (.sl 1 h'.length 0 1 1 true) (h' ++ [.arr 1 [[I 1]] true false]) := fun k => by simp [bsE, fillS, effK, ap]
  have fq : F_slices_Equal_int [.lst 1 ([1] : List Int).isEmpty (([1] : List Int).map enI), .sl 1 h'.length 0 1 1 true] (h' ++ [.arr 1 [[I 1]] true false]) = some (B true, h' ++ [.arr 1 [[I 1]] true false]) :=
    closedX_scal' (as' := [.lst 1 false [[I 1]], .lst 1 false [[I 1]]]) (asl := [.lst 1 false [[I 1]], .lst 1 false [[I 1]]]) (by
      have : cvt false (h' ++ [.arr 1 [[I 1]] true false]) (.sl 1 h'.length 0 1 1 true) = some (.lst 1 false [[I 1]]) := cvt_whole (es := [[I 1]]) (by rw [get_new0]; rfl) rfl rfl rfl
      simp only [cvts_cons, cvts_nil, this]
      rfl) rfl rfl (eq_one []) rfl
  have w0 : IntKind.i64.wrap (0 + 0) = 0 := by kernel_rfl
  simp -implicitDefEqProofs only [f_law41_awake, bs, t_law41_awake_45, t_law41_awake_15, t_law41_awake_22, t_law41_awake_24, t_law41_awake_26, t_law41_awake_18, t_law41_awake_46, callK_F, fe, fd, fl, fr, fc, fk, x0, x1, tp, tq, tupP, lenK_lst, List.length_map, List.length_cons, List.length_nil, eqK_int, Bool.false_xor, grpK_tt, i0, i1, faK_ep, Nat.zero_add, ln, beq_self_eq_true, bq, fq, hwl, arithK_add, w0, show (((0 + 1 + 1 + 1 : Nat) : Int) == 3) = true from rfl, show (((1 + 1 + 1 : Nat) : Int) == 3) = true from rfl, show (g3.num == 3) = true from rfl, show (g1.num == 1) = true from rfl, show (((0 + 1 + 1 : Nat) : Int) == 2) = true from rfl]
  rfl
end Go.AM


namespace Go.AM
open Go.RowKit
set_option linter.unusedVariables false
def mu0 (w : World) : Mu := ⟨fun _ => .virt none, w, fun k => k < w.heap.size⟩
theorem rel0 (w : World) : Rel (mu0 w) [] w where
  obj := fun id o h => by simp at h
  sep := fun i j o p b x c y d h => by simp at h
  apart := fun i sz es nil b x c h => by simp at h
  imm := fun k hk => ⟨hk, rfl, fun ⟨id, o, off, c, h, _⟩ => by simp at h⟩
theorem own0 (w : World) (b : Nat) : ¬ Own (mu0 w) [] b := fun ⟨id, o, off, c, h, _⟩ => by simp at h
theorem below0 {w w' : World} {μ' : Mu} {h' : Hp} (s : Step (mu0 w) [] w μ' h' w') : Below w.heap.size w w' :=
  ⟨s.frame.os, s.frame.tape, s.frame.output, s.frame.size, fun k hk => s.frame.block k hk (own0 w k)⟩
theorem row_calls {P : Program} {f : FuncId} {F : Fun} {args : List AV} {h' : Hp} {b : Bool} {W : World} {cargs : Array Value} (hc : CSound P f F) (hF : F args [] = some (.s (.bool b), h')) (hv : VRs (mu0 W) [] args cargs.toList) :
    Calls P f cargs W fun e W' => e = .returned (.bool b) ∧ Below W.heap.size W W' := by
  refine (hc args [] _ h' hF (mu0 W) W cargs (rel0 W) hv).2.mono fun e W' => ?_
  rintro ⟨cv, μ', rfl, s, hr⟩
  simp only [VR] at hr
  exact ⟨by rw [hr.2], below0 s⟩

inductive Ty where
  | int (k : IntKind)
  | bool
  | str
  | sl (e : List Ty)
def tyFs (f : TypeId → Option (List Ty)) (size : TypeId → Nat) : List Field → Nat → Option (List Ty)
  | [], _ => some []
  | x :: l, pos => match f x.type, tyFs f size l (pos + size x.type) with
    | some a, some b => if x.offset = pos ∧ a.length = size x.type then some (a ++ b) else none
    | _, _ => none
def tyOf (P : Program) : Nat → TypeId → Option (List Ty)
  | 0, _ => none
  | n + 1, t => match P.underlying t with
    | some .bool => some [.bool]
    | some (.int k) => some [.int k]
    | some .string => some [.str]
    | some (.slice e) => match tyOf P n e with
      | some l => if l.length = P.cellsOf e ∧ 0 < l.length then some [.sl l] else none
      | none => none
    | some (.struct fs) => match tyFs (tyOf P n) P.cellsOf fs.toList 0 with
      | some l => if l.length = P.cellsOf t then some l else none
      | none => none
    | some (.array m e) => match tyOf P n e with
      | some l => if l.length = P.cellsOf e ∧ m * P.cellsOf e = P.cellsOf t then some (List.replicate m l).flatten else none
      | none => none
    | _ => none
mutual
def HasT : Ty → AV → Prop
  | .int k, a => ∃ n, a = .s (.int k n) ∧ (Lit.int k n).wf = true
  | .bool, a => ∃ b, a = .s (.bool b)
  | .str, a => ∃ s : ByteArray, a = .s (.string s) ∧ s.size ≤ maxLen
  | .sl ts, a => ∃ nil es, a = .lst ts.length nil es ∧ (nil = true → es = []) ∧ es.length ≤ maxLen ∧ ∀ e ∈ es, HasTs ts e
def HasTs : List Ty → List AV → Prop
  | [], asl => asl = []
  | t :: ts, asl => ∃ a as', asl = a :: as' ∧ HasT t a ∧ HasTs ts as'
end
theorem HasTs.app : ∀ {ts us : List Ty} {asl bs : List AV}, HasTs ts asl → HasTs us bs → HasTs (ts ++ us) (asl ++ bs)
  | [], us, asl, bs, h, k => by simp only [HasTs] at h; subst h; exact k
  | t :: ts, us, asl, bs, h, k => by
    simp only [HasTs] at h
    obtain ⟨a, as', rfl, h1, h2⟩ := h
    simp only [List.cons_append, HasTs]
    exact ⟨a, _, rfl, h1, HasTs.app h2 k⟩
theorem HasTs.len : ∀ {ts : List Ty} {asl : List AV}, HasTs ts asl → asl.length = ts.length
  | [], asl, h => by simp only [HasTs] at h; subst h; rfl
  | t :: ts, asl, h => by
    simp only [HasTs] at h
    obtain ⟨a, as', rfl, h1, h2⟩ := h
    simp [HasTs.len h2]
theorem HasT.ok : ∀ {t : Ty} {a : AV}, HasT t a → okC a = true
  | .int k, a, h => by simp only [HasT] at h; obtain ⟨n, rfl, _⟩ := h; rfl
  | .bool, a, h => by simp only [HasT] at h; obtain ⟨n, rfl⟩ := h; rfl
  | .str, a, h => by simp only [HasT] at h; obtain ⟨n, rfl, _⟩ := h; rfl
  | .sl ts, a, h => by simp only [HasT] at h; obtain ⟨n, es, rfl, _⟩ := h; rfl
theorem HasTs.ok : ∀ {ts : List Ty} {asl : List AV}, HasTs ts asl → ∀ x ∈ asl, okC x = true
  | [], asl, h, x, hx => by simp only [HasTs] at h; subst h; simp at hx
  | t :: ts, asl, h, x, hx => by
    simp only [HasTs] at h
    obtain ⟨a, as', rfl, h1, h2⟩ := h
    rcases List.mem_cons.1 hx with rfl | hx
    · exact h1.ok
    · exact h2.ok x hx
theorem VRs_app' {μ : Mu} {h : Hp} : ∀ {asl bs : List AV} {cs ds : List Value}, VRs μ h asl cs → VRs μ h bs ds → VRs μ h (asl ++ bs) (cs ++ ds)
  | [], bs, cs, ds, h1, h2 => by simp only [VRs] at h1; subst h1; exact h2
  | a :: asl, bs, cs, ds, h1, h2 => by
    simp only [VRs] at h1
    obtain ⟨v, vs, rfl, h3, h4⟩ := h1
    simp only [List.cons_append, VRs]
    exact ⟨v, _, rfl, h3, VRs_app' h4 h2⟩
section
variable {H : Type} {enc : TypeId × Value → H} {P : Program} {w : World} {base : Nat} {spare : Nat → Bool} {held : Bool}
def Opened (w : World) (ts : List Ty) (cs : List Value) : Prop := ∃ asl, HasTs ts asl ∧ VRs (mu0 w) [] asl cs ∧ ∀ u ∈ cs, u.oneCell' = true
theorem open_one {t : Ty} {u : Value} {a : AV} (h1 : HasT t a) (h2 : VR (mu0 w) [] a u) (h3 : u.oneCell' = true) : Opened w [t] [u] :=
  ⟨[a], by simp only [HasTs]; exact ⟨a, [], rfl, h1, rfl⟩, by simp only [VRs]; exact ⟨u, [], rfl, h2, rfl⟩, by simpa using h3⟩
theorem open_fs {f : TypeId → Option (List Ty)} {g : TypeId → List Value → Prop} {cs : List Value} (hg : ∀ t ts cs', f t = some ts → g t cs' → Opened w ts cs') : ∀ (l : List Field) (pos : Nat) (ts : List Ty), tyFs f P.cellsOf l pos = some ts →
    (∀ x ∈ l, g x.type ((cs.drop x.offset).take (P.cellsOf x.type))) → Opened w ts ((cs.drop pos).take ts.length)
  | [], pos, ts, h, _ => by
    simp only [tyFs, Option.some.injEq] at h
    subst h
    exact ⟨[], rfl, rfl, by simp⟩
  | x :: l, pos, ts, h, hx => by
    simp only [tyFs] at h
    split at h
    · rename_i a b h1 h2
      split at h
      · rename_i hc
        simp only [Option.some.injEq] at h
        subst h
        obtain ⟨h3, h4⟩ := hc
        obtain ⟨asl, p1, p2, p3⟩ := hg _ _ _ h1 (hx x (by simp))
        obtain ⟨bs, q1, q2, q3⟩ := open_fs hg l _ b h2 (fun y hy => hx y (by simp [hy]))
        have e : (cs.drop pos).take (a ++ b).length = (cs.drop x.offset).take (P.cellsOf x.type) ++ (cs.drop (pos + P.cellsOf x.type)).take b.length := by
          rw [List.length_append, h4, h3, ← List.drop_drop, List.take_add]
        rw [e]
        refine ⟨asl ++ bs, p1.app q1, VRs_app' p2 q2, ?_⟩
        intro u hu
        rcases List.mem_append.1 hu with hu | hu
        · exact p3 u hu
        · exact q3 u hu
      · simp at h
    · simp at h
theorem open_arr {ts : List Ty} {sz : Nat} {cs : List Value} : ∀ (n i0 : Nat), (∀ i, i < n → Opened w ts ((cs.drop ((i0 + i) * sz)).take sz)) → Opened w (List.replicate n ts).flatten ((cs.drop (i0 * sz)).take (n * sz))
  | 0, i0, _ => ⟨[], rfl, by simp [VRs], by simp⟩
  | n + 1, i0, h => by
    obtain ⟨asl, p1, p2, p3⟩ := h 0 (by omega)
    obtain ⟨bs, q1, q2, q3⟩ := open_arr n (i0 + 1) (fun i hi => by have := h (i + 1) (by omega); rwa [show i0 + (i + 1) = i0 + 1 + i by omega] at this)
    have e : (cs.drop (i0 * sz)).take ((n + 1) * sz) = (cs.drop (i0 * sz)).take sz ++ (cs.drop ((i0 + 1) * sz)).take (n * sz) := by
      rw [show (n + 1) * sz = sz + n * sz by rw [Nat.add_mul]; omega, show (i0 + 1) * sz = i0 * sz + sz by rw [Nat.add_mul]; omega, ← List.drop_drop, List.take_add]
    rw [e, List.replicate_succ, List.flatten_cons]
    refine ⟨asl ++ bs, p1.app q1, VRs_app' p2 q2, ?_⟩
    intro u hu
    rcases List.mem_append.1 hu with hu | hu
    · exact p3 u hu
    · exact q3 u hu
theorem open_es {ts : List Ty} {sz b : Nat} (hts : ts.length = sz) : ∀ (n o : Nat), (∀ i, i < n → ∃ cs, Opened w ts cs ∧ cs.length = sz ∧ ∀ j u, cs[j]? = some u → w.cell? ⟨b, o + i * sz + j, none⟩ = some u) →
    ∃ es vs, es.length = n ∧ (∀ e ∈ es, HasTs ts e) ∧ VRf (mu0 w) [] es vs ∧ ∀ j u, vs[j]? = some u → w.cell? ⟨b, o + j, none⟩ = some u ∧ u.oneCell' = true
  | 0, o, h => ⟨[], [], rfl, by simp, rfl, by simp⟩
  | n + 1, o, h => by
    obtain ⟨cs, ⟨asl, h1, h2, h3⟩, h4, h5⟩ := h 0 (by omega)
    obtain ⟨es, vs, k1, k2, k3, k4⟩ := open_es hts n (o + sz) (fun i hi => by
      obtain ⟨cs', q1, q2, q3⟩ := h (i + 1) (by omega)
      refine ⟨cs', q1, q2, fun j u hu => ?_⟩
      rw [← q3 j u hu]
      congr 2
      rw [Nat.add_mul]; omega)
    refine ⟨asl :: es, cs ++ vs, by simp [k1], ?_, ?_, ?_⟩
    · intro e he
      rcases List.mem_cons.1 he with rfl | he
      · exact h1
      · exact k2 e he
    · simp only [VRf]; exact ⟨cs, vs, rfl, h2, k3⟩
    · intro j u hj
      by_cases hlt : j < cs.length
      · rw [List.getElem?_append_left hlt] at hj
        have := h5 j u hj
        exact ⟨by simpa using this, h3 u (List.mem_of_getElem? hj)⟩
      · rw [List.getElem?_append_right (by omega)] at hj
        have := k4 _ _ hj
        rw [show o + sz + (j - cs.length) = o + j by omega] at this
        exact this
theorem cell_lt {a : Addr} {v : Value} (h : w.cell? a = some v) : a.block < w.heap.size := by
  rcases Nat.lt_or_ge a.block w.heap.size with h1 | h1
  · exact h1
  · have : w.heap[a.block]? = none := by simpa using h1
    simp [World.cell?, this] at h
theorem open_cells : ∀ (fuel n : Nat) (t : TypeId) (ts : List Ty) (cs : List Value) (x : DataW H × List MemPlace), tyOf P n t = some ts → DataW.trod enc P w base spare held fuel t cs = some x → Opened w ts cs
  | 0, n, t, ts, cs, x, _, h => by simp [DataW.trod] at h
  | fuel + 1, 0, t, ts, cs, x, h0, _ => by simp [tyOf] at h0
  | fuel + 1, n + 1, t, ts, cs, x, h0, h => by
    unfold tyOf at h0
    cases hu : P.underlying t with
    | none => rw [hu] at h0; simp at h0
    | some T =>
      rw [hu] at h0
      cases T with
      | bool =>
        simp only [Option.some.injEq] at h0
        subst h0
        obtain ⟨b, rfl, _⟩ := DataW.trod_bool hu h
        exact open_one (a := .s (.bool b)) (by simp [HasT]) (by simp [VR, gv]) rfl
      | int k =>
        simp only [Option.some.injEq] at h0
        subst h0
        obtain ⟨m, rfl, _, hw⟩ := DataW.trod_int hu h
        exact open_one (a := .s (.int k m)) (by simp [HasT, hw]) (by simp [VR, gv]) rfl
      | string =>
        simp only [Option.some.injEq] at h0
        subst h0
        obtain ⟨s, rfl, _, hs⟩ := DataW.trod_string hu h
        exact open_one (a := .s (.string s)) (by simp [HasT, hs]) (by simp [VR, gv]) rfl
      | slice e =>
        simp only at h0
        cases he : tyOf P n e with
        | none => rw [he] at h0; simp at h0
        | some l =>
          rw [he] at h0
          simp only at h0
          split at h0
          · rename_i hl
            simp only [Option.some.injEq] at h0
            subst h0
            rcases DataW.trod_slice hu h with ⟨rfl, _⟩ | ⟨a, len, cap, elems, rest, m, hm, rfl, _, hb, h1, h2, h3, h4, _, _⟩
            · refine open_one (a := .lst l.length true []) ?_ ?_ rfl
              · simp only [HasT]; exact ⟨true, [], rfl, fun _ => rfl, by simp, by simp⟩
              · simp only [VR]
                exact ⟨none, 0, rfl, by simp, by simp, rfl, fun _ => rfl, by simp, by simp⟩
            · have hm' : m = fuel := by omega
              subst hm'
              have cell : ∀ i, i < len → ∃ cs, Opened w l cs ∧ cs.length = P.cellsOf e ∧ ∀ j, j < P.cellsOf e → w.cell? ((a.add (i * P.cellsOf e)).add j) = cs[j]? := by
                intro i hi
                have hi' := h4 i hi
                rw [List.getElem?_eq_getElem (by omega), Option.bind_eq_some_iff] at hi'
                obtain ⟨cs, q1, q2⟩ := hi'
                have q3 := World.cells?_some q1
                exact ⟨cs, open_cells m n e l cs _ he q2, q3.2.1, q3.2.2⟩
              obtain ⟨b, off, spot⟩ := a
              have hsp : len ≠ 0 → spot = none := fun hn => by
                obtain ⟨cs, _, q2, q3⟩ := cell 0 (by omega)
                have q4 := q3 0 (by omega)
                rw [List.getElem?_eq_getElem (by omega)] at q4
                simpa [Addr.add] using World.cell?_spot q4
              by_cases hn : len = 0
              · subst hn
                refine open_one (a := .lst l.length false []) ?_ ?_ rfl
                · simp only [HasT]; exact ⟨false, [], rfl, fun _ => rfl, by simp, by simp⟩
                · simp only [VR]
                  exact ⟨_, cap, rfl, by simp, h2, rfl, by simp, by simp, by simp⟩
              · have hs := hsp hn
                subst hs
                obtain ⟨es, vs, k1, k2, k3, k4⟩ := open_es (w := w) (ts := l) (sz := P.cellsOf e) (b := b) hl.1 len off (fun i hi => by
                  obtain ⟨cs, q1, q2, q3⟩ := cell i hi
                  refine ⟨cs, q1, q2, fun j u hj => ?_⟩
                  have hjl := (List.getElem?_eq_some_iff.1 hj).1
                  have := q3 j (by omega)
                  rw [hj] at this
                  rw [← this, Go.WideShapes.add_plain, Go.WideShapes.add_plain])
                refine open_one (a := .lst l.length false es) ?_ ?_ rfl
                · simp only [HasT]; exact ⟨false, es, rfl, by simp, by omega, k2⟩
                · simp only [VR]
                  refine ⟨_, cap, by rw [k1], by omega, h2, rfl, by simp, fun e' he' => ⟨(k2 e' he').len, (k2 e' he').ok⟩, fun _ => ⟨b, off, vs, rfl, ?_, k3, k4⟩⟩
                  obtain ⟨cs, q1, q2, q3⟩ := cell 0 (by omega)
                  have q4 := q3 0 (by omega)
                  rw [List.getElem?_eq_getElem (by omega)] at q4
                  show b < w.heap.size
                  rw [Go.WideShapes.add_plain, Go.WideShapes.add_plain] at q4
                  exact cell_lt q4
          · simp at h0
      | struct fs =>
        simp only at h0
        cases he : tyFs (tyOf P n) P.cellsOf fs.toList 0 with
        | none => rw [he] at h0; simp at h0
        | some l =>
          rw [he] at h0
          simp only at h0
          split at h0
          · rename_i hl
            simp only [Option.some.injEq] at h0
            subst h0
            obtain ⟨xs, m, hm, _, h2, h3, h4⟩ := DataW.trod_struct hu h
            have hm' : m = fuel := by omega
            subst hm'
            have := open_fs (w := w) (P := P) (f := tyOf P n) (g := fun t cs' => ∃ y, DataW.trod enc P w base spare held m t cs' = some y) (cs := cs) (fun t ts cs' q1 ⟨y, q2⟩ => open_cells m n t ts cs' y q1 q2) fs.toList 0 l he (fun y hy => by
              obtain ⟨i, hi⟩ := List.getElem?_of_mem hy
              have hi2 : fs[i]? = some y := by simpa using hi
              have := h4 i y hi2
              have hlt : i < xs.length := by rw [h3]; exact (Array.getElem?_eq_some_iff.1 hi2).1
              rw [List.getElem?_eq_getElem hlt] at this
              exact ⟨_, this⟩)
            rw [List.drop_zero, hl, ← h2, List.take_length] at this
            exact this
          · simp at h0
      | array k e =>
        simp only at h0
        cases he : tyOf P n e with
        | none => rw [he] at h0; simp at h0
        | some l =>
          rw [he] at h0
          simp only at h0
          split at h0
          · rename_i hl
            simp only [Option.some.injEq] at h0
            subst h0
            obtain ⟨xs, m, hm, _, h2, h3, h4⟩ := DataW.trod_array hu h
            have hm' : m = fuel := by omega
            subst hm'
            have := open_arr (w := w) (ts := l) (sz := P.cellsOf e) (cs := cs) k 0 (fun i hi => by
              have h5 := h4 i hi
              rw [List.getElem?_eq_getElem (by omega)] at h5
              have h6 := open_cells m n e l _ _ he h5
              rwa [Nat.zero_add])
            rw [Nat.zero_mul, List.drop_zero, hl.2, ← h2, List.take_length] at this
            exact this
          · simp at h0
      | _ => simp at h0
theorem open_cell {t : TypeId} {v : Value} {d : DataW H} {ps : List MemPlace} {n : Nat} {ty : Ty} (hv : v.cells = #[v]) (ht : tyOf P n t = some [ty]) (hd : DataW.Trod enc P w base spare held t v d ps) : ∃ a, HasT ty a ∧ VR (mu0 w) [] a v := by
  obtain ⟨fuel, hf⟩ := hd
  rw [hv] at hf
  obtain ⟨asl, h1, h2, _⟩ := open_cells fuel n t [ty] _ _ ht hf
  simp only [HasTs] at h1
  obtain ⟨a, as', rfl, h1, rfl⟩ := h1
  simp only [VRs] at h2
  obtain ⟨v', vs', h3, h4, _⟩ := h2
  simp at h3
  exact ⟨a, h1, by rw [h3.1]; exact h4⟩
end
theorem wf_u8 {n : Int} (h : (Lit.int .u8 n).wf = true) : 0 ≤ n ∧ n ≤ 255 := by
  simp [Lit.wf, IntKind.min, IntKind.max, IntKind.signed, IntKind.bits] at h; omega
theorem has_list {α : Type} {ts : List Ty} {f : α → List AV} (hf : ∀ cs, HasTs ts cs → ∃ x, cs = f x) {a : AV} (h : HasT (.sl ts) a) : ∃ (l : List α) (b : Bool), a = .lst ts.length (b && l.isEmpty) (l.map f) := by
  simp only [HasT] at h
  obtain ⟨nil, es, rfl, hn, hm, he⟩ := h
  have : ∃ l : List α, es = l.map f := by
    clear hn hm
    induction es with
    | nil => exact ⟨[], rfl⟩
    | cons e es ih =>
      obtain ⟨x, hx⟩ := hf e (he e (by simp))
      obtain ⟨l, hl⟩ := ih (fun e' h' => he e' (by simp [h']))
      exact ⟨x :: l, by simp [hx, hl]⟩
  obtain ⟨l, rfl⟩ := this
  refine ⟨l, nil, ?_⟩
  cases nil with
  | false => rfl
  | true =>
    have : l = [] := by simpa using hn rfl
    subst this; rfl
end Go.AM


namespace Go.AM
open Go.Proofs
set_option linter.unusedVariables false
set_option linter.unusedSimpArgs false
set_option linter.constructorNameAsVariable false
set_option maxRecDepth 20000
attribute [local congr] arithK_cg eqK_cg notK_cg convK_cg pickK_cg buildK_cg ldK_cg nilK_cg sliceK_cg faK_cg fldK_cg iaK_cg iaA_cg lookK_cg capK_cg exK_cg lenK_cg minK_cg maxK_cg effK_cg callK_cg callVK_cg effD_cg gopD_cg grpK_cg condK_cg cond_cg
theorem has_Env {cs : List AV} (h : HasTs [.int .i64, .int .i64, .int .i64, .int .i64, .int .i64, .int .i64, .int .i64, .int .i64, .int .i64, .int .i64] cs) : ∃ p : Envl, cs = encV p := by
  simp only [HasTs, HasT] at h
  obtain ⟨_, _, rfl, ⟨x, rfl, _⟩, _, _, rfl, ⟨y, rfl, _⟩, _, _, rfl, ⟨z, rfl, _⟩, _, _, rfl, ⟨a, rfl, _⟩, _, _, rfl, ⟨b, rfl, _⟩, _, _, rfl, ⟨c, rfl, _⟩, _, _, rfl, ⟨d, rfl, _⟩, _, _, rfl, ⟨e, rfl, _⟩, _, _, rfl, ⟨f, rfl, _⟩, _, _, rfl, ⟨g, rfl, _⟩, rfl⟩ := h
  exact ⟨⟨x, y, z, ⟨a, b, c, d, e, f, g⟩⟩, rfl⟩
theorem has_Envs {a : AV} (h : HasT (.sl [.int .i64, .int .i64, .int .i64, .int .i64, .int .i64, .int .i64, .int .i64, .int .i64, .int .i64, .int .i64]) a) : ∃ (l : List Envl) (b : Bool), a = SL 10 encV b l := has_list (fun _ h => has_Env h) h
theorem has_IntsN {a : AV} (h : HasT (.sl [.int .i64]) a) : ∃ (l : List Int) (b : Bool), a = SL 1 enI b l := has_list (fun cs h => by
  simp only [HasTs, HasT] at h
  obtain ⟨_, _, rfl, ⟨x, rfl, _⟩, rfl⟩ := h
  exact ⟨x, rfl⟩) h
theorem stI {β : Type} {W : List Int} {id i n : Nat} {h : Hp} {x : Int} (hid : h[id]? = some (.arr 1 (W.map enI) true false)) (hn : W.length = n) (hi : i < W.length) (k : AV → Hp → Option β) : effK (stE 1 (.ptr id i 0 n) (I x) h) h k = k .u (h.set id (.arr 1 ((W.set i x).map enI) true false)) := by
  have hx : W[i]? = some W[i] := List.getElem?_eq_getElem hi
  have : stE 1 (.ptr id i 0 n) (I x) h = some (.u, ⟨[(id, .arr 1 ((W.map enI).set i (enI x)) true false)], [], [id]⟩) := by
    rw [stE_ptr, hid]
    simp [hn, hx, putAt]
  rw [effK_putg this, List.map_set]
theorem ldI {β : Type} {W : List Int} {id i n : Nat} {h : Hp} {x : Int} (hid : h[id]? = some (.arr 1 (W.map enI) true false)) (hn : W.length = n) (hx : W[i]? = some x) (k : Go.AM.K β) : ldK 1 false (.ptr id i 0 n) h k = k (I x) := by
  simp [hid, hn, hx, pickC]
theorem rev_L2 {β : Type} {x0 : Hp → Option β} {s : List Int} {id : Nat} (hl : s.length < 1000000) : ∀ (n i : Nat) (W : List Int) (h : Hp), s.length ≤ i + n → 0 < n → i ≤ s.length → h[id]? = some (.arr 1 (W.map enI) true false) → W.length = s.length → (∀ p, p < s.length → W[p]? = if p < i ∨ s.length < p + 1 + i then s[s.length - 1 - p]? else s[p]?) →
    ∃ h' : Hp, f_slices_Reverse_int_L2 Try.prog t_slices_Reverse_int d_slices_Reverse_int NN x0 n (.sl 1 id 0 s.length s.length false) (I i) (I ((s.length : Int) - 1 - i)) h = x0 h' ∧ h'[id]? = some (.arr 1 (s.reverse.map enI) true false) ∧ Kept h h' id := by
  intro n
  induction n with
  | zero => intro i W h h1 h2; omega
  | succ n ih =>
    intro i W h h1 _ h3 hid hW hp
    by_cases hc : 2 * i + 1 < s.length
    · have hi : i < s.length := by omega
      obtain ⟨j, hj⟩ : ∃ j, j = s.length - 1 - i := ⟨_, rfl⟩
      have hjc : (s.length : Int) - 1 - i = (j : Int) := by omega
      have hjl : j < s.length := by omega
      have c1 : ((i : Int) < (j : Int)) := by omega
      have ia : ∀ (m : Nat) (hm : m < s.length) (k' : Go.AM.K β), iaK 1 (.sl 1 id 0 s.length s.length false) (I m) k' = k' (.ptr id m 0 s.length) := fun m hm k' => by
        have e2 : ((m : Nat) : Int) < ((s.length : Nat) : Int) := by omega
        simp [iaK, e2]
      have wi : W[i]? = some W[i] := List.getElem?_eq_getElem (by omega)
      have wj : W[j]? = some W[j] := List.getElem?_eq_getElem (by omega)
      have pi := hp i hi
      have pj := hp j hjl
      rw [if_neg (by omega), wi] at pi
      rw [if_neg (by omega), wj] at pj
      generalize W[i] = x at wi pi
      generalize W[j] = y at wj pj
      have lj : ∀ k' : Go.AM.K β, ldK 1 false (.ptr id j 0 s.length) h k' = k' (I y) := fun k' => ldI hid hW wj k'
      have li : ∀ k' : Go.AM.K β, ldK 1 false (.ptr id i 0 s.length) h k' = k' (I x) := fun k' => ldI hid hW wi k'
      have s1 : ∀ k' : AV → Hp → Option β, effK (stE 1 (.ptr id i 0 s.length) (I y) h) h k' = k' .u (h.set id (.arr 1 ((W.set i y).map enI) true false)) := fun k' => stI hid hW (by omega) k'
      have hid1 : (h.set id (.arr 1 ((W.set i y).map enI) true false))[id]? = some (.arr 1 ((W.set i y).map enI) true false) := getSelfN hid
      have kp1 : Kept h (h.set id (.arr 1 ((W.set i y).map enI) true false)) id := (Kept.refl h id).set _
      generalize h.set id (.arr 1 ((W.set i y).map enI) true false) = h1' at *
      have s2 : ∀ k' : AV → Hp → Option β, effK (stE 1 (.ptr id j 0 s.length) (I x) h1') h1' k' = k' .u (h1'.set id (.arr 1 (((W.set i y).set j x).map enI) true false)) := fun k' => stI hid1 (by simpa using hW) (by simp; omega) k'
      have w1 : IntKind.i64.wrap ((i : Int) + 1) = ((i + 1 : Nat) : Int) := by rw [wrap64 (by omega) (by omega)]; omega
      have w2 : IntKind.i64.wrap ((j : Int) - 1) = (s.length : Int) - 1 - ((i + 1 : Nat) : Int) := by rw [wrap64 (by omega) (by omega)]; omega
      obtain ⟨h', a1, a2, a3⟩ := ih (i + 1) ((W.set i y).set j x) (h1'.set id (.arr 1 (((W.set i y).set j x).map enI) true false)) (by omega) (by omega) (by omega) (getSelfN hid1) (by simpa using hW) (fun p hpl => by
        by_cases q1 : p = j
        · subst q1
          rw [List.getElem?_set_self (by simp; omega), if_pos (by omega), show s.length - 1 - p = i by omega, pi]
        · rw [List.getElem?_set_ne (Ne.symm q1)]
          by_cases q2 : p = i
          · subst q2
            rw [List.getElem?_set_self (by omega), if_pos (by omega), ← hj, pj]
          · rw [List.getElem?_set_ne (Ne.symm q2), hp p hpl]
            by_cases q3 : p < i ∨ s.length < p + 1 + i
            · rw [if_pos q3, if_pos (by omega)]
            · rw [if_neg q3, if_neg (by omega)])
      refine ⟨h', ?_, a2, (kp1.set _).trans a3⟩
      rw [← a1, hjc]
      show f_slices_Reverse_int_b2 Try.prog t_slices_Reverse_int d_slices_Reverse_int NN (f_slices_Reverse_int_L2 Try.prog t_slices_Reverse_int d_slices_Reverse_int NN x0 n) x0 _ _ _ h = _
      simp -implicitDefEqProofs only [f_slices_Reverse_int_b2, arithK_lss, c1, decide_true, condK_bool, if_true, ia i hi, ia j hjl, lj, li, s1, s2, arithK_add, w1, arithK_sub, w2]
    · have c1 : ¬ ((i : Int) < (s.length : Int) - 1 - i) := by omega
      refine ⟨h, ?_, ?_, .refl h id⟩
      · show f_slices_Reverse_int_b2 Try.prog t_slices_Reverse_int d_slices_Reverse_int NN (f_slices_Reverse_int_L2 Try.prog t_slices_Reverse_int d_slices_Reverse_int NN x0 n) x0 _ _ _ h = _
        simp -implicitDefEqProofs only [f_slices_Reverse_int_b2, arithK_lss, c1, decide_false, condK_bool, Bool.false_eq_true, if_false]
      · have : W = s.reverse := List.ext_getElem? fun p => by
          by_cases hpl : p < s.length
          · rw [hp p hpl, List.getElem?_reverse hpl]
            by_cases q : p < i ∨ s.length < p + 1 + i
            · rw [if_pos q]
            · rw [if_neg q, show s.length - 1 - p = p by omega]
          · rw [List.getElem?_eq_none (by omega), List.getElem?_eq_none (by simp; omega)]
        rw [← this]; exact hid
theorem rev_gro {s : List Int} {h : Hp} {v : AV} (G : Gro 1 enI h v s) (hl : s.length < 1000000) : ∃ h', R_slices_Reverse_int [v] h = some (.tup [], h') ∧ Gro 1 enI h' v s.reverse := by
  have hN := NN_ge
  rw [R_slices_Reverse_int_raw]
  rcases G with ⟨rfl, rfl⟩ | ⟨h1, k, rfl, h2⟩
  · refine ⟨h, ?_, .nil⟩
    obtain ⟨n, hn⟩ : ∃ n, NN = n + 1 := ⟨NN - 1, by omega⟩
    have w : IntKind.i64.wrap (0 - 1) = -1 := by rw [wrap64 (by omega) (by omega)]; rfl
    have ln : ∀ k : Go.AM.K (AV × Hp), lenK nilS k = k (I 0) := fun k => rfl
    have key : ∀ x0 : Hp → Option (AV × Hp), f_slices_Reverse_int_L2 Try.prog t_slices_Reverse_int d_slices_Reverse_int NN x0 NN nilS (I 0) (I (-1)) h = x0 h := fun x0 => by
      conv => lhs; arg 6; rw [hn]
      show f_slices_Reverse_int_b2 Try.prog t_slices_Reverse_int d_slices_Reverse_int NN (f_slices_Reverse_int_L2 Try.prog t_slices_Reverse_int d_slices_Reverse_int NN x0 n) x0 _ _ _ h = _
      have c1 : ¬ ((0 : Int) < -1) := by decide
      simp -implicitDefEqProofs only [f_slices_Reverse_int_b2, arithK_lss, c1, decide_false, condK_bool, Bool.false_eq_true, if_false]
    simp -implicitDefEqProofs only [f_slices_Reverse_int, ln, arithK_sub, w, key, f_slices_Reverse_int_j1]
  · have hpos : 0 < s.length := List.length_pos_iff.2 h1
    have w : IntKind.i64.wrap ((s.length : Int) - 1) = (s.length : Int) - 1 := wrap64 (by omega) (by omega)
    obtain ⟨h', a1, a2, a3⟩ := rev_L2 (x0 := fun h => f_slices_Reverse_int_j1 Try.prog t_slices_Reverse_int d_slices_Reverse_int NN (fun v h => some (v, h)) h) (id := k) hl NN 0 s h (by omega) (by omega) (by omega) h2 rfl (fun p hp => by rw [if_neg (by omega)])
    have ln : ∀ k' : Go.AM.K (AV × Hp), lenK (.sl 1 k 0 s.length s.length false) k' = k' (I s.length) := fun k' => rfl
    refine ⟨h', ?_, .inr ⟨by simpa using h1, k, by rw [List.length_reverse], a2⟩⟩
    rw [show ((s.length : Int) - 1 - ((0 : Nat) : Int)) = (s.length : Int) - 1 by omega] at a1
    simp -implicitDefEqProofs only [f_slices_Reverse_int, ln, arithK_sub, w]
    exact a1
end Go.AM


namespace Go.AM
open Go.Proofs
set_option linter.unusedVariables false
set_option linter.unusedSimpArgs false
set_option linter.constructorNameAsVariable false
set_option maxRecDepth 20000
attribute [local congr] arithK_cg eqK_cg notK_cg convK_cg pickK_cg buildK_cg ldK_cg nilK_cg sliceK_cg faK_cg fldK_cg iaK_cg iaA_cg lookK_cg capK_cg exK_cg lenK_cg minK_cg maxK_cg effK_cg callK_cg callVK_cg effD_cg gopD_cg grpK_cg condK_cg cond_cg
end Go.AM


namespace Go.AM
open Go.Proofs
set_option linter.unusedVariables false
set_option linter.unusedSimpArgs false
set_option linter.constructorNameAsVariable false
set_option maxRecDepth 20000
attribute [local congr] arithK_cg eqK_cg notK_cg convK_cg pickK_cg buildK_cg ldK_cg nilK_cg sliceK_cg faK_cg fldK_cg iaK_cg iaA_cg lookK_cg capK_cg exK_cg lenK_cg minK_cg maxK_cg effK_cg callK_cg callVK_cg effD_cg gopD_cg grpK_cg condK_cg cond_cg
structure Fol where
  d : Docu
  en : Bool
  an : Int
  cnt : List ((Int × Int) × Int)
def cntP (c : List ((Int × Int) × Int)) (p : Int × Int) : Int := ((fndT c p).map (·.2)).getD 0
def bumpP (c : List ((Int × Int) × Int)) (p : Int × Int) : List ((Int × Int) × Int) := updT c p (IntKind.i64.wrap (cntP c p + 1))
def stepF (mv : Int) (s : Fol) (m : Msg) : Fol :=
  if m.mv ≠ mv then s
  else if m.kind = 1 then { s with d := { s.d with stage := 1, frm := m.frm, to := m.to, sent := m.alc }, cnt := bumpP s.cnt (m.kind, m.num) }
  else if m.kind = 2 then { s with d := { s.d with to := m.to, chg := IntKind.i64.wrap (s.d.chg + 1) }, cnt := bumpP s.cnt (m.kind, m.num) }
  else if m.kind = 3 then { s with d := { s.d with got := m.alc }, an := 2, cnt := bumpP s.cnt (m.kind, m.num) }
  else if m.kind = 4 then { s with an := 3, cnt := bumpP s.cnt (3, m.num) }
  else if m.kind = 5 then { s with en := true }
  else { s with cnt := bumpP s.cnt (m.kind, m.num) }
def begF (mv : Int) : Fol := ⟨⟨mv, 0, 0, 0, 0, 0, 0⟩, false, 0, []⟩
def folF (mv : Int) (l : List Msg) : Fol := l.foldl (stepF mv) (begF mv)
def noneD (mv : Int) : Docu := ⟨mv, 0, 0, 0, 0, 0, 0⟩
section
variable {β : Type}
variable {o0 o1 o2 : AObj} {g t : Hp} {m : Msg}
end
end Go.AM


namespace Go.AM
open Go.Proofs
set_option linter.unusedVariables false
set_option linter.unusedSimpArgs false
set_option linter.constructorNameAsVariable false
set_option maxRecDepth 20000
def ofk (mv k : Int) (l : List Msg) : List Msg := l.filter fun m => m.mv == mv && m.kind == k
theorem ofk_snoc (mv k : Int) (l : List Msg) (m : Msg) : ofk mv k (l ++ [m]) = if m.mv = mv ∧ m.kind = k then ofk mv k l ++ [m] else ofk mv k l := by
  unfold ofk
  rw [List.filter_append]
  by_cases h : m.mv = mv ∧ m.kind = k
  · simp [h]
  · rw [if_neg h]
    have : (m.mv == mv && m.kind == k) = false := by
      rw [Bool.eq_false_iff]; intro q; simp at q; exact h q
    simp [this]
theorem mem_ofk {mv k : Int} {l : List Msg} {m : Msg} : m ∈ ofk mv k l ↔ m ∈ l ∧ m.mv = mv ∧ m.kind = k := by unfold ofk; simp
theorem checkM_kind {m : Msg} (h : checkM m = 0) : 1 ≤ m.kind ∧ m.kind ≤ 5 ∧ 1 ≤ m.mv ∧ m.mv ≤ 1073741824 ∧ formM m = true := by
  unfold checkM at h
  split at h
  · simp at h
  · rename_i hr
    split at h
    · rename_i hf
      simp [rangeM] at hr
      exact ⟨by omega, by omega, by omega, by omega, hf⟩
    · simp at h
theorem ltM_lex {a b : Msg} (h : ltM a b = true) : a.mv ≤ b.mv ∧ (a.mv = b.mv → a.kind ≤ b.kind ∧ (a.kind = b.kind → a.num ≤ b.num)) := by
  unfold ltM cellsM at h
  simp only [ltZ_cons, Bool.or_eq_true, Bool.and_eq_true, decide_eq_true_eq] at h
  omega
def partM (m : Msg) : Option (Int × Int) := if m.kind = 5 then none else if m.kind = 4 then some (3, m.num) else some (m.kind, m.num)
abbrev keysD {α : Type} (c : List ((Int × Int) × α)) : Prop := c.Pairwise fun a b => a.1 ≠ b.1
theorem updT_mem {α : Type} : ∀ {c : List ((Int × Int) × α)} {p : Int × Int} {x : α} {e : (Int × Int) × α}, e ∈ updT c p x → e = (p, x) ∨ e ∈ c
  | [], p, x, e, h => by simp [updT] at h; exact .inl h
  | (q, y) :: c, p, x, e, h => by
    simp only [updT] at h
    split at h
    · rcases List.mem_cons.1 h with h | h
      · exact .inl h
      · exact .inr (by simp [h])
    · rcases List.mem_cons.1 h with h | h
      · exact .inr (by simp [h])
      · rcases updT_mem h with h | h
        · exact .inl h
        · exact .inr (by simp [h])
theorem keysD_upd {α : Type} : ∀ {c : List ((Int × Int) × α)} (p : Int × Int) (x : α), keysD c → keysD (updT c p x)
  | [], p, x, h => by simp [updT]
  | (q, y) :: c, p, x, h => by
    rw [keysD, List.pairwise_cons] at h
    simp only [updT]
    split
    · rename_i e
      subst e
      rw [keysD, List.pairwise_cons]
      exact h
    · rename_i e
      rw [keysD, List.pairwise_cons]
      refine ⟨fun z hz => ?_, keysD_upd p x h.2⟩
      rcases updT_mem hz with rfl | hz
      · exact fun q => e q.symm
      · exact h.1 z hz
theorem cntP_bump (c : List ((Int × Int) × Int)) (p q : Int × Int) : cntP (bumpP c p) q = if q = p then IntKind.i64.wrap (cntP c p + 1) else cntP c q := by
  unfold cntP bumpP
  rw [fndT_upd]
  split <;> rfl
structure InF (mv : Int) (l : List Msg) (s : Fol) : Prop where
  mve : s.d.mv = mv
  stage : s.d.stage = if ofk mv 1 l = [] then 0 else 1
  frm : s.d.frm = (((ofk mv 1 l).getLast?).map (·.frm)).getD 0
  sent : s.d.sent = (((ofk mv 1 l).getLast?).map (·.alc)).getD 0
  to : s.d.to = match (ofk mv 2 l).getLast? with | some c => c.to | none => (((ofk mv 1 l).getLast?).map (·.to)).getD 0
  got : s.d.got = (((ofk mv 3 l).getLast?).map (·.alc)).getD 0
  chg : s.d.chg = (ofk mv 2 l).length
  en : s.en = !(ofk mv 5 l).isEmpty
  an : s.an = if ofk mv 4 l ≠ [] then 3 else if ofk mv 3 l ≠ [] then 2 else 0
  cnt : ∀ p, cntP s.cnt p = (l.countP fun m => m.mv == mv && partM m == some p : Nat)
  keys : keysD s.cnt
theorem ofk_len (mv k : Int) (l : List Msg) : (ofk mv k l).length ≤ l.length := List.length_filter_le _ _
theorem InF.step {mv : Int} {l : List Msg} {s : Fol} {m : Msg} (H : InF mv l s) (hs : Srt (l ++ [m])) (hm : checkM m = 0) (hl : l.length < 1000000) : InF mv (l ++ [m]) (stepF mv s m) := by
  obtain ⟨k0, k5, -⟩ := checkM_kind hm
  have hlt : ∀ x ∈ l, ltM x m = true := fun x hx => by
    rw [Srt, List.pairwise_append] at hs
    exact hs.2.2 x hx m (by simp)
  by_cases hmv : m.mv = mv
  · have noK : ∀ k, m.kind < k → ofk mv k l = [] := fun k hk => by
      rw [List.eq_nil_iff_forall_not_mem]
      intro x hx
      obtain ⟨h1, h2, h3⟩ := mem_ofk.1 hx
      have := ltM_lex (hlt x h1)
      have h4 := this.2 (by omega)
      omega
    have wr : IntKind.i64.wrap (((ofk mv 2 l).length : Int) + 1) = (((ofk mv 2 l).length + 1 : Nat) : Int) := by
      have := ofk_len mv 2 l
      rw [wrap64 (by omega) (by omega)]; rfl
    have cn : ∀ (p q : Int × Int) (b : Bool), ((partM m == some q) = b) → cntP s.cnt q = (l.countP fun m => m.mv == mv && partM m == some q : Nat) → (((l ++ [m]).countP fun m => m.mv == mv && partM m == some q : Nat) : Int) = cntP s.cnt q + if b = true then 1 else 0 := by
      intro p q b hb hc
      rw [List.countP_append, hc]
      simp [hmv, hb]
      cases b <;> rfl
    have wc : ∀ q, IntKind.i64.wrap (cntP s.cnt q + 1) = cntP s.cnt q + 1 := fun q => by
      have h1 := H.cnt q
      have h2 := List.countP_le_length (p := fun m : Msg => m.mv == mv && partM m == some q) (l := l)
      rw [wrap64 (by omega) (by omega)]
    have cb : ∀ p, partM m = some p → ∀ q, cntP (bumpP s.cnt p) q = ((l ++ [m]).countP fun m => m.mv == mv && partM m == some q : Nat) := fun p hp q => by
      rw [cntP_bump]
      by_cases e : q = p
      · subst e
        rw [if_pos rfl, wc, cn q q true (by simp [hp]) (H.cnt q)]; simp
      · rw [if_neg e, cn p q false (by simp [hp]; exact fun h => e h.symm) (H.cnt q)]; simp
    have kb : ∀ p, keysD (bumpP s.cnt p) := fun p => keysD_upd p _ H.keys
    have hk : m.kind = 1 ∨ m.kind = 2 ∨ m.kind = 3 ∨ m.kind = 4 ∨ m.kind = 5 := by omega
    rcases hk with k | k | k | k | k
    · have e2 := noK 2 (by omega)
      have st : stepF mv s m = { s with d := { s.d with stage := 1, frm := m.frm, to := m.to, sent := m.alc }, cnt := bumpP s.cnt (m.kind, m.num) } := by simp [stepF, hmv, k]
      rw [st]
      exact ⟨H.mve, by simp [ofk_snoc, hmv, k], by simp [ofk_snoc, hmv, k], by simp [ofk_snoc, hmv, k], by simp [ofk_snoc, hmv, k, e2], by simp [ofk_snoc, hmv, k, H.got], by simp [ofk_snoc, hmv, k, H.chg], by simp [ofk_snoc, hmv, k, H.en], by simp [ofk_snoc, hmv, k, H.an], cb _ (by simp [partM, k]), kb _⟩
    · have st : stepF mv s m = { s with d := { s.d with to := m.to, chg := IntKind.i64.wrap (s.d.chg + 1) }, cnt := bumpP s.cnt (m.kind, m.num) } := by simp [stepF, hmv, k]
      rw [st]
      exact ⟨H.mve, by simp [ofk_snoc, hmv, k, H.stage], by simp [ofk_snoc, hmv, k, H.frm], by simp [ofk_snoc, hmv, k, H.sent], by simp [ofk_snoc, hmv, k], by simp [ofk_snoc, hmv, k, H.got], by simp [ofk_snoc, hmv, k, H.chg, wr], by simp [ofk_snoc, hmv, k, H.en], by simp [ofk_snoc, hmv, k, H.an], cb _ (by simp [partM, k]), kb _⟩
    · have e4 := noK 4 (by omega)
      have st : stepF mv s m = { s with d := { s.d with got := m.alc }, an := 2, cnt := bumpP s.cnt (m.kind, m.num) } := by simp [stepF, hmv, k]
      rw [st]
      exact ⟨H.mve, by simp [ofk_snoc, hmv, k, H.stage], by simp [ofk_snoc, hmv, k, H.frm], by simp [ofk_snoc, hmv, k, H.sent], by simp [ofk_snoc, hmv, k, H.to], by simp [ofk_snoc, hmv, k], by simp [ofk_snoc, hmv, k, H.chg], by simp [ofk_snoc, hmv, k, H.en], by simp [ofk_snoc, hmv, k, e4], cb _ (by simp [partM, k]), kb _⟩
    · have st : stepF mv s m = { s with an := 3, cnt := bumpP s.cnt (3, m.num) } := by simp [stepF, hmv, k]
      rw [st]
      exact ⟨H.mve, by simp [ofk_snoc, hmv, k, H.stage], by simp [ofk_snoc, hmv, k, H.frm], by simp [ofk_snoc, hmv, k, H.sent], by simp [ofk_snoc, hmv, k, H.to], by simp [ofk_snoc, hmv, k, H.got], by simp [ofk_snoc, hmv, k, H.chg], by simp [ofk_snoc, hmv, k, H.en], by simp [ofk_snoc, hmv, k], cb _ (by simp [partM, k]), kb _⟩
    · have st : stepF mv s m = { s with en := true } := by simp [stepF, hmv, k]
      rw [st]
      exact ⟨H.mve, by simp [ofk_snoc, hmv, k, H.stage], by simp [ofk_snoc, hmv, k, H.frm], by simp [ofk_snoc, hmv, k, H.sent], by simp [ofk_snoc, hmv, k, H.to], by simp [ofk_snoc, hmv, k, H.got], by simp [ofk_snoc, hmv, k, H.chg], by simp [ofk_snoc, hmv, k], by simp [ofk_snoc, hmv, k, H.an], fun q => by rw [cn q q false (by simp [partM, k]) (H.cnt q)]; simp, H.keys⟩
  · have st : stepF mv s m = s := by simp [stepF, hmv]
    have ek : ∀ k, ofk mv k (l ++ [m]) = ofk mv k l := fun k => by rw [ofk_snoc, if_neg (by simp [hmv])]
    rw [st]
    exact ⟨H.mve, by rw [ek]; exact H.stage, by rw [ek]; exact H.frm, by rw [ek]; exact H.sent, by rw [ek, ek]; exact H.to, by rw [ek]; exact H.got, by rw [ek]; exact H.chg, by rw [ek]; exact H.en, by rw [ek, ek]; exact H.an, fun p => by rw [List.countP_append, H.cnt p]; simp [hmv], H.keys⟩
theorem InF.beg (mv : Int) : InF mv [] (begF mv) := ⟨rfl, rfl, rfl, rfl, rfl, rfl, rfl, rfl, rfl, fun p => rfl, .nil⟩
theorem InF.all {mv : Int} {l : List Msg} (hs : Srt l) (hv : ∀ m ∈ l, checkM m = 0) (hl : l.length < 1000000) : ∀ i, i ≤ l.length → InF mv (l.take i) (folF mv (l.take i))
  | 0, _ => by rw [List.take_zero]; exact InF.beg mv
  | i + 1, hi => by
    have ih := InF.all (mv := mv) hs hv hl i (by omega)
    have hx : l[i]? = some l[i] := List.getElem?_eq_getElem (by omega)
    have ht := take_succ_get hx
    have : folF mv (l.take (i + 1)) = stepF mv (folF mv (l.take i)) l[i] := by
      unfold folF; rw [ht, List.foldl_append]; rfl
    rw [this, ht]
    refine ih.step ?_ (hv _ (List.getElem_mem _)) (by simp; omega)
    rw [← ht]
    exact hs.sublist (List.take_sublist _ _)
end Go.AM


namespace Go.AM
open Go.Proofs
set_option linter.unusedVariables false
set_option linter.unusedSimpArgs false
set_option linter.constructorNameAsVariable false
set_option maxRecDepth 20000
attribute [local congr] arithK_cg eqK_cg notK_cg convK_cg pickK_cg buildK_cg ldK_cg nilK_cg sliceK_cg faK_cg fldK_cg iaK_cg iaA_cg lookK_cg capK_cg exK_cg lenK_cg minK_cg maxK_cg effK_cg callK_cg callVK_cg effD_cg gopD_cg grpK_cg condK_cg cond_cg
structure Frs where
  d : Docu
  dis : Int
  ans : Int
  en : Int
  cf : Bool
  rf : Bool
def stepR (mv : Int) (p : Msg) (s : Frs) (m : Msg) : Frs :=
  if m.mv ≠ mv then s
  else if m.kind = 1 then { s with d := { s.d with frm := m.frm, to := m.to, sent := m.alc }, dis := IntKind.i64.wrap (s.dis + 1) }
  else if m.kind = 2 then { s with d := { s.d with to := m.to, chg := IntKind.i64.wrap (s.d.chg + 1) }, cf := s.cf || (p.mv == mv && p.kind == m.kind && p.num == m.num) }
  else if m.kind = 3 then { s with d := { s.d with got := m.alc }, ans := IntKind.i64.wrap (s.ans + 1) }
  else if m.kind = 4 then { s with ans := IntKind.i64.wrap (s.ans + 1), rf := true }
  else { s with en := IntKind.i64.wrap (s.en + 1) }
def foldR (mv : Int) : Msg → Frs → List Msg → Frs
  | _, s, [] => s
  | p, s, m :: l => foldR mv m (stepR mv p s m) l
def begR (mv : Int) : Frs := ⟨noneD mv, 0, 0, 0, false, false⟩
def zeroM : Msg := ⟨0, 0, 0, 0, 0, 0, 0⟩
section
variable {β : Type}
variable {o0 o1 : AObj} {g t : Hp} {m : Msg}
end
end Go.AM


namespace Go.AM
open Go.Proofs
set_option linter.unusedVariables false
set_option linter.unusedSimpArgs false
set_option linter.constructorNameAsVariable false
set_option maxRecDepth 20000
structure InR (mv : Int) (l : List Msg) (s : Frs) : Prop where
  mve : s.d.mv = mv
  stage : s.d.stage = 0
  frm : s.d.frm = (((ofk mv 1 l).getLast?).map (·.frm)).getD 0
  sent : s.d.sent = (((ofk mv 1 l).getLast?).map (·.alc)).getD 0
  to : s.d.to = match (ofk mv 2 l).getLast? with | some c => c.to | none => (((ofk mv 1 l).getLast?).map (·.to)).getD 0
  got : s.d.got = (((ofk mv 3 l).getLast?).map (·.alc)).getD 0
  chg : s.d.chg = (ofk mv 2 l).length
  dis : s.dis = (ofk mv 1 l).length
  ans : s.ans = ((ofk mv 3 l).length + (ofk mv 4 l).length : Nat)
  en : s.en = (ofk mv 5 l).length
  rf : s.rf = !(ofk mv 4 l).isEmpty
  cf : s.cf = decide (¬ ((ofk mv 2 l).map (·.num)).Nodup)
theorem srt_last {l : List Msg} {m p x : Msg} (hs : Srt (l ++ [m])) (hp : (zeroM :: l).getLast? = some p) (hx : x ∈ l) : p ∈ l ∧ (x = p ∨ ltM x p = true) := by
  rcases List.eq_nil_or_concat l with rfl | ⟨l', q, rfl⟩
  · simp at hx
  · rw [List.concat_eq_append] at *
    have : p = q := by rw [← List.cons_append, List.getLast?_append] at hp; simpa using hp.symm
    subst this
    refine ⟨by simp, ?_⟩
    rcases List.mem_append.1 hx with hx | hx
    · right
      rw [Srt, List.append_assoc, List.pairwise_append] at hs
      exact hs.2.2 x hx p (by simp)
    · simp at hx; exact .inl hx
theorem InR.step {mv : Int} {l : List Msg} {s : Frs} {m p : Msg} (H : InR mv l s) (hs : Srt (l ++ [m])) (hm : checkM m = 0) (hp : (zeroM :: l).getLast? = some p) (h0 : mv ≠ 0) (hl : l.length < 1000000) : InR mv (l ++ [m]) (stepR mv p s m) := by
  obtain ⟨k0, k5, -⟩ := checkM_kind hm
  have hlt : ∀ x ∈ l, ltM x m = true := fun x hx => by
    rw [Srt, List.pairwise_append] at hs
    exact hs.2.2 x hx m (by simp)
  by_cases hmv : m.mv = mv
  · have noK : ∀ k, m.kind < k → ofk mv k l = [] := fun k hk => by
      rw [List.eq_nil_iff_forall_not_mem]
      intro x hx
      obtain ⟨h1, h2, h3⟩ := mem_ofk.1 hx
      have := ltM_lex (hlt x h1)
      have h4 := this.2 (by omega)
      omega
    have wr : ∀ k, IntKind.i64.wrap (((ofk mv k l).length : Int) + 1) = ((ofk mv k l).length : Int) + 1 := fun k => by
      have := ofk_len mv k l
      rw [wrap64 (by omega) (by omega)]
    have wa : IntKind.i64.wrap (((((ofk mv 3 l).length + (ofk mv 4 l).length : Nat)) : Int) + 1) = ((((ofk mv 3 l).length + (ofk mv 4 l).length : Nat)) : Int) + 1 := by
      have h3 := ofk_len mv 3 l
      have h4 := ofk_len mv 4 l
      rw [wrap64 (by omega) (by omega)]
    have hk : m.kind = 1 ∨ m.kind = 2 ∨ m.kind = 3 ∨ m.kind = 4 ∨ m.kind = 5 := by omega
    rcases hk with k | k | k | k | k
    · have e2 := noK 2 (by omega)
      have st : stepR mv p s m = { s with d := { s.d with frm := m.frm, to := m.to, sent := m.alc }, dis := IntKind.i64.wrap (s.dis + 1) } := by simp [stepR, hmv, k]
      rw [st]
      exact ⟨H.mve, H.stage, by simp [ofk_snoc, hmv, k], by simp [ofk_snoc, hmv, k], by simp [ofk_snoc, hmv, k, e2], by simp [ofk_snoc, hmv, k, H.got], by simp [ofk_snoc, hmv, k, H.chg], by simp [ofk_snoc, hmv, k, H.dis, wr], by simp [ofk_snoc, hmv, k, H.ans], by simp [ofk_snoc, hmv, k, H.en], by simp [ofk_snoc, hmv, k, H.rf], by simp [ofk_snoc, hmv, k, H.cf]⟩
    · have st : stepR mv p s m = { s with d := { s.d with to := m.to, chg := IntKind.i64.wrap (s.d.chg + 1) }, cf := s.cf || (p.mv == mv && p.kind == m.kind && p.num == m.num) } := by simp [stepR, hmv, k]
      rw [st]
      refine ⟨H.mve, H.stage, by simp [ofk_snoc, hmv, k, H.frm], by simp [ofk_snoc, hmv, k, H.sent], by simp [ofk_snoc, hmv, k], by simp [ofk_snoc, hmv, k, H.got], by simp [ofk_snoc, hmv, k, H.chg, wr], by simp [ofk_snoc, hmv, k, H.dis], by simp [ofk_snoc, hmv, k, H.ans], by simp [ofk_snoc, hmv, k, H.en], by simp [ofk_snoc, hmv, k, H.rf], ?_⟩
      rw [ofk_snoc, if_pos ⟨hmv, k⟩, List.map_append, H.cf]
      rw [Bool.eq_iff_iff]
      simp only [Bool.or_eq_true, Bool.and_eq_true, beq_iff_eq, decide_eq_true_eq]
      rw [List.nodup_append]
      have key : (p.mv = mv ∧ p.kind = m.kind) ∧ p.num = m.num ↔ ∃ x ∈ ofk mv 2 l, x.num = m.num := by
        constructor
        · rintro ⟨⟨h1, h2⟩, h3⟩
          have hpl : p ∈ l := by
            rcases List.eq_nil_or_concat l with rfl | ⟨l', q, rfl⟩
            · simp at hp; subst hp; exact absurd h1.symm h0
            · rw [List.concat_eq_append, ← List.cons_append, List.getLast?_append] at hp
              have : q = p := by simpa using hp
              simp [this]
          exact ⟨p, mem_ofk.2 ⟨hpl, h1, by omega⟩, h3⟩
        · rintro ⟨x, hx, h3⟩
          obtain ⟨h1, h2, h4⟩ := mem_ofk.1 hx
          obtain ⟨hpl, hxp⟩ := srt_last hs hp h1
          rcases hxp with rfl | hxp
          · exact ⟨⟨h2, by omega⟩, h3⟩
          · have a1 := ltM_lex hxp
            have a2 := ltM_lex (hlt p hpl)
            omega
      constructor
      · rintro (h | h)
        · exact fun q => h q.1
        · obtain ⟨x, hx, hxn⟩ := key.1 h
          intro q
          exact q.2.2 x.num (List.mem_map.2 ⟨x, hx, rfl⟩) m.num (by simp) hxn
      · intro h
        by_cases hn : ((ofk mv 2 l).map (·.num)).Nodup
        · right
          refine key.2 ?_
          rcases Classical.em (∃ x ∈ ofk mv 2 l, x.num = m.num) with h2 | h2
          · exact h2
          · refine absurd ⟨hn, by simp, ?_⟩ h
            intro a ha b hb hab
            obtain ⟨x, hx, rfl⟩ := List.mem_map.1 ha
            simp at hb
            exact h2 ⟨x, hx, by rw [hab, hb]⟩
        · exact .inl hn
    · have st : stepR mv p s m = { s with d := { s.d with got := m.alc }, ans := IntKind.i64.wrap (s.ans + 1) } := by simp [stepR, hmv, k]
      rw [st]
      exact ⟨H.mve, H.stage, by simp [ofk_snoc, hmv, k, H.frm], by simp [ofk_snoc, hmv, k, H.sent], by simp [ofk_snoc, hmv, k, H.to], by simp [ofk_snoc, hmv, k], by simp [ofk_snoc, hmv, k, H.chg], by simp [ofk_snoc, hmv, k, H.dis], by rw [H.ans, wa, ofk_snoc, ofk_snoc, if_pos ⟨hmv, k⟩, if_neg (by omega), List.length_append]; simp; omega, by simp [ofk_snoc, hmv, k, H.en], by simp [ofk_snoc, hmv, k, H.rf], by simp [ofk_snoc, hmv, k, H.cf]⟩
    · have st : stepR mv p s m = { s with ans := IntKind.i64.wrap (s.ans + 1), rf := true } := by simp [stepR, hmv, k]
      rw [st]
      exact ⟨H.mve, H.stage, by simp [ofk_snoc, hmv, k, H.frm], by simp [ofk_snoc, hmv, k, H.sent], by simp [ofk_snoc, hmv, k, H.to], by simp [ofk_snoc, hmv, k, H.got], by simp [ofk_snoc, hmv, k, H.chg], by simp [ofk_snoc, hmv, k, H.dis], by rw [H.ans, wa, ofk_snoc, ofk_snoc, if_neg (by omega), if_pos ⟨hmv, k⟩, List.length_append]; simp; omega, by simp [ofk_snoc, hmv, k, H.en], by simp [ofk_snoc, hmv, k], by simp [ofk_snoc, hmv, k, H.cf]⟩
    · have st : stepR mv p s m = { s with en := IntKind.i64.wrap (s.en + 1) } := by simp [stepR, hmv, k]
      rw [st]
      exact ⟨H.mve, H.stage, by simp [ofk_snoc, hmv, k, H.frm], by simp [ofk_snoc, hmv, k, H.sent], by simp [ofk_snoc, hmv, k, H.to], by simp [ofk_snoc, hmv, k, H.got], by simp [ofk_snoc, hmv, k, H.chg], by simp [ofk_snoc, hmv, k, H.dis], by simp [ofk_snoc, hmv, k, H.ans], by simp [ofk_snoc, hmv, k, H.en, wr], by simp [ofk_snoc, hmv, k, H.rf], by simp [ofk_snoc, hmv, k, H.cf]⟩
  · have st : stepR mv p s m = s := by simp [stepR, hmv]
    have ek : ∀ k, ofk mv k (l ++ [m]) = ofk mv k l := fun k => by rw [ofk_snoc, if_neg (by simp [hmv])]
    rw [st]
    exact ⟨H.mve, H.stage, by rw [ek]; exact H.frm, by rw [ek]; exact H.sent, by rw [ek, ek]; exact H.to, by rw [ek]; exact H.got, by rw [ek]; exact H.chg, by rw [ek]; exact H.dis, by rw [ek, ek]; exact H.ans, by rw [ek]; exact H.en, by rw [ek]; exact H.rf, by rw [ek]; exact H.cf⟩
theorem InR.beg (mv : Int) : InR mv [] (begR mv) := ⟨rfl, rfl, rfl, rfl, rfl, rfl, rfl, rfl, rfl, rfl, rfl, rfl⟩
theorem InR.all {mv : Int} (h0 : mv ≠ 0) : ∀ (post pre : List Msg) (p : Msg) (s : Frs), Srt (pre ++ post) → (∀ m ∈ post, checkM m = 0) → (pre ++ post).length < 1000000 → (zeroM :: pre).getLast? = some p → InR mv pre s → InR mv (pre ++ post) (foldR mv p s post)
  | [], pre, p, s, _, _, _, _, H => by simpa [foldR] using H
  | m :: post, pre, p, s, hs, hv, hl, hp, H => by
    have e : pre ++ m :: post = (pre ++ [m]) ++ post := by simp
    rw [e] at hs hl ⊢
    refine InR.all h0 post (pre ++ [m]) m (stepR mv p s m) hs (fun x hx => hv x (by simp [hx])) hl (by rw [← List.cons_append, List.getLast?_append]; simp) (H.step ?_ (hv m (by simp)) hp h0 (by simp at hl; omega))
    exact hs.sublist (List.sublist_append_left _ _)
end Go.AM


namespace Go.AM
open Go.Proofs
set_option linter.unusedVariables false
set_option linter.unusedSimpArgs false
set_option linter.constructorNameAsVariable false
set_option maxRecDepth 20000
attribute [local congr] arithK_cg eqK_cg notK_cg convK_cg pickK_cg buildK_cg ldK_cg nilK_cg sliceK_cg faK_cg fldK_cg iaK_cg iaA_cg lookK_cg capK_cg exK_cg lenK_cg minK_cg maxK_cg effK_cg callK_cg callVK_cg effD_cg gopD_cg grpK_cg condK_cg cond_cg
theorem normL_ok {l : List Msg} (h : errM l = 0) : (normL l).length ≤ 64 ∧ ∀ m ∈ normL l, checkM m = 0 := by
  obtain ⟨h1, h2⟩ := errM_zero.1 h
  exact ⟨Nat.le_trans (normL_length l) h1, fun m hm => h2 m (mem_normL.1 hm)⟩
section
variable {β : Type}
end
end Go.AM


namespace Go.AM
open Go.Proofs
set_option linter.unusedVariables false
set_option linter.unusedSimpArgs false
set_option linter.constructorNameAsVariable false
set_option maxRecDepth 20000
section
variable {β : Type} {P : Program} {T : Tab} {D : DTab} {N : Nat} {K : AV → Hp → Option β}
end
attribute [local congr] arithK_cg eqK_cg notK_cg convK_cg pickK_cg buildK_cg ldK_cg nilK_cg sliceK_cg faK_cg fldK_cg iaK_cg iaA_cg lookK_cg capK_cg exK_cg lenK_cg minK_cg maxK_cg effK_cg callK_cg callVK_cg effD_cg gopD_cg grpK_cg condK_cg cond_cg
theorem any_perm {α : Type} {f : α → Bool} {a b : List α} (h : a.Perm b) : a.any f = b.any f := by
  rw [Bool.eq_iff_iff, List.any_eq_true, List.any_eq_true]
  constructor
  · rintro ⟨x, h1, h2⟩; exact ⟨x, h.mem_iff.1 h1, h2⟩
  · rintro ⟨x, h1, h2⟩; exact ⟨x, h.mem_iff.2 h1, h2⟩
theorem mem_uniqM : ∀ (r : List Envl) (o : List Msg) (x : Msg), x ∈ uniqM o r ↔ x ∈ o ∨ ∃ e ∈ r, e.msg = x
  | [], o, x => by simp [uniqM]
  | e :: r, o, x => by
    simp only [uniqM]
    split
    · rename_i h
      rw [mem_uniqM r o x]
      have hm : e.msg ∈ o := by simpa using h
      constructor
      · rintro (h | ⟨y, h1, h2⟩)
        · exact .inl h
        · exact .inr ⟨y, by simp [h1], h2⟩
      · rintro (h | ⟨y, h1, h2⟩)
        · exact .inl h
        · rcases List.mem_cons.1 h1 with rfl | h1
          · exact .inl (h2 ▸ hm)
          · exact .inr ⟨y, h1, h2⟩
    · rw [mem_uniqM r _ x]
      simp only [List.mem_append, List.mem_cons, List.not_mem_nil, or_false, exists_eq_or_imp]
      constructor
      · rintro ((h | h) | h)
        · exact .inl h
        · exact .inr (.inl h.symm)
        · exact .inr (.inr h)
      · rintro (h | h | h)
        · exact .inl (.inl h)
        · exact .inl (.inr h.symm)
        · exact .inr h
theorem uniqM_nodup : ∀ (r : List Envl) (o : List Msg), o.Nodup → (uniqM o r).Nodup
  | [], o, h => h
  | e :: r, o, h => by
    simp only [uniqM]
    split
    · exact uniqM_nodup r o h
    · rename_i hc
      refine uniqM_nodup r _ (List.nodup_append.2 ⟨h, by simp, fun x hx y hy => ?_⟩)
      simp only [List.mem_singleton] at hy
      subst hy
      rintro rfl
      exact hc (by simpa using hx)
theorem errM_perm {a b : List Msg} (h : a.Perm b) : errM a = errM b := by
  unfold errM
  rw [h.length_eq, any_perm h]
theorem kn_ok {l : List Envl} {sch : List Int} {node : Int} (h : (knS l sch node).2 = 0) : errM (knS l sch node).1 = 0 := by
  unfold knS at h ⊢
  split at h
  · rename_i h1; exact absurd h h1
  · rename_i h1
    rw [if_neg h1]
    split at h
    · rename_i h2
      rw [if_pos h2]
      obtain ⟨n1, n2⟩ := normL_ok h2
      exact errM_zero.2 ⟨n1, n2⟩
    · rename_i h2; exact absurd h h2
theorem kn_zero {l : List Envl} {sch : List Int} {node : Int} (h : (knS l sch node).2 ≠ 0) : (knS l sch node).1 = [] := by
  unfold knS at h ⊢
  split
  · rfl
  · rename_i h1
    rw [if_neg h1] at h
    split
    · rename_i h2; rw [if_pos h2] at h; exact absurd rfl h
    · rfl
def OwnI (h : Hp) (v : AV) (W : List Int) : Prop := (W = [] ∧ v = nilS) ∨ ∃ id, v = .sl 1 id 0 W.length W.length false ∧ h[id]? = some (.arr 1 (W.map enI) true false)
theorem OwnI.cvt {h : Hp} {v : AV} {W : List Int} (O : OwnI h v W) : ∃ a, cvt false h v = some a ∧ ∃ b, nrm (.l 1) a = .lst 1 b (W.map enI) := by
  rcases O with ⟨rfl, rfl⟩ | ⟨id, rfl, h1⟩
  · exact ⟨nilS, rfl, true, rfl⟩
  · exact ⟨.lst 1 false (W.map enI), cvt_whole h1 (by simp) (by simp) (okE_map fun x => by simp), false, rfl⟩
theorem OwnI.len {β : Type} {h : Hp} {v : AV} {W : List Int} (O : OwnI h v W) (k : Go.AM.K β) : lenK v k = k (I W.length) := by
  rcases O with ⟨rfl, rfl⟩ | ⟨id, rfl, h1⟩ <;> rfl
theorem OwnI.mono {h h' : Hp} {v : AV} {W : List Int} (O : OwnI h v W) (hk : ∀ j < h.length, h'[j]? = h[j]?) : OwnI h' v W := by
  rcases O with O | ⟨id, rfl, h1⟩
  · exact .inl O
  · exact .inr ⟨id, rfl, by rw [hk id (List.getElem?_eq_some_iff.1 h1).1, h1]⟩
def fewS (l : List Envl) (sch : List Int) : Bool := decide (l.length ≤ 14) && decide (sch.length ≤ 24)
theorem F_law41_few_val (l : List Envl) (b : Bool) (sch : List Int) (b2 : Bool) (h : Hp) : F_law41_few [.lst 10 b (l.map encV), .lst 1 b2 (sch.map enI)] h = some (B (fewS l sch), h) := by
  refine F_law41_few_run (a0 := .lst 10 b (l.map encV)) (a1 := .lst 1 b2 (sch.map enI)) rfl ?_ h
  have e1 : decide ((l.length : Int) ≤ 14) = decide (l.length ≤ 14) := by rw [decide_eq_decide]; omega
  have e2 : decide ((sch.length : Int) ≤ 24) = decide (sch.length ≤ 24) := by rw [decide_eq_decide]; omega
  simp only [nrm, nrmC]
  simp -implicitDefEqProofs only [f_law41_few, lenK_lst, List.length_map, arithK_leq, grpK_and, e1, e2]
  rfl
end Go.AM


namespace Go.AM
open Go.Proofs
set_option linter.unusedVariables false
set_option linter.unusedSimpArgs false
set_option linter.constructorNameAsVariable false
set_option maxRecDepth 20000
section
variable {β : Type} {P : Program} {T : Tab} {D : DTab} {N : Nat} {K : AV → Hp → Option β}
end
attribute [local congr] arithK_cg eqK_cg notK_cg convK_cg pickK_cg buildK_cg ldK_cg nilK_cg sliceK_cg faK_cg fldK_cg iaK_cg iaA_cg lookK_cg capK_cg exK_cg lenK_cg minK_cg maxK_cg effK_cg callK_cg callVK_cg effD_cg gopD_cg grpK_cg condK_cg cond_cg
def one (p : Prop) [Decidable p] : Int := if p then 1 else 0
end Go.AM


namespace Go.AM
open Go.Proofs
set_option linter.unusedVariables false
set_option linter.unusedSimpArgs false
set_option linter.constructorNameAsVariable false
set_option maxRecDepth 20000
section
variable {β : Type} {P : Program} {T : Tab} {D : DTab} {N : Nat} {K : AV → Hp → Option β}
theorem IndexFunc_Envelope_L2 {x0 : Hp → Option β} {xr : AV → Hp → Option β} {l : List Envl} {b : Bool} {fv : AV} {h : Hp} {p : Envl → Bool} (hl : l.length < 4611686018427387904) (hp : ∀ x ∈ l, ∀ k : AV → Hp → Option β, callVK T fv [.agg (encV x)] h k = k (B (p x)) h) :
    ∀ (n i : Nat), i ≤ l.length → l.length < i + n → f_slices_IndexFunc_Envelope_L2 P T D N x0 xr n (.lst 10 b (l.map encV)) fv (I l.length) (I i) h = match (l.drop i).findIdx? p with | some j => xr (I ((i + j : Nat) : Int)) h | none => x0 h := by
  intro n
  induction n with
  | zero => intro i h1 h2; omega
  | succ n ih =>
    intro i h1 h2
    show f_slices_IndexFunc_Envelope_b2 P T D N (f_slices_IndexFunc_Envelope_L2 P T D N x0 xr n) x0 xr _ _ _ _ h = _
    unfold f_slices_IndexFunc_Envelope_b2
    rcases Nat.lt_or_ge i l.length with hi | hi
    · have hx : l[i]? = some l[i] := List.getElem?_eq_getElem hi
      have hlt : ((i : Int) < (l.length : Int)) := by omega
      have hw : IntKind.i64.wrap ((i : Int) + 1) = ((i + 1 : Nat) : Int) := by rw [wrap64 (by omega) (by omega)]; omega
      have hpx := hp l[i] (List.getElem_mem hi)
      rw [List.drop_eq_getElem_cons hi, List.findIdx?_cons]
      simp [hlt, hx, hw, encV] at hpx ⊢
      rw [hpx]
      cases hc : p l[i] with
      | true => simp
      | false =>
        have h3 := ih (i + 1) hi (by omega)
        rw [show ((i : Int) + 1) = ((i + 1 : Nat) : Int) by omega]
        simp only [Bool.false_eq_true, if_false]
        refine h3.trans ?_
        cases (List.drop (i + 1) l).findIdx? p with
        | none => rfl
        | some j =>
          show xr (I ((i + 1 + j : Nat) : Int)) h = xr (I ((i + (j + 1) : Nat) : Int)) h
          rw [show i + 1 + j = i + (j + 1) by omega]
    · have : i = l.length := by omega
      subst this
      simp
theorem IndexFunc_Envelope_K {l : List Envl} {b : Bool} {fv : AV} {h : Hp} {p : Envl → Bool} {K : AV → Hp → Option β} (hl : l.length < N) (hN : N < 4611686018427387904) (hp : ∀ x ∈ l, ∀ k : AV → Hp → Option β, callVK T fv [.agg (encV x)] h k = k (B (p x)) h) :
    f_slices_IndexFunc_Envelope P T D N K (.lst 10 b (l.map encV)) fv h = K (I (match l.findIdx? p with | some j => (j : Int) | none => -1)) h := by
  unfold f_slices_IndexFunc_Envelope
  simp only [lenK_lst, List.length_map]
  have := IndexFunc_Envelope_L2 (P := P) (D := D) (N := N) (b := b) (x0 := fun h => f_slices_IndexFunc_Envelope_j1 P T D N K h) (xr := fun a h => K a h) (by omega) hp N 0 (Nat.zero_le _) (by omega)
  simp only [List.drop_zero] at this
  refine this.trans ?_
  cases l.findIdx? p with
  | none => rfl
  | some j => simp
end
attribute [local congr] arithK_cg eqK_cg notK_cg convK_cg pickK_cg buildK_cg ldK_cg nilK_cg sliceK_cg faK_cg fldK_cg iaK_cg iaA_cg lookK_cg capK_cg exK_cg lenK_cg minK_cg maxK_cg effK_cg callK_cg callVK_cg effD_cg gopD_cg grpK_cg condK_cg cond_cg
section
variable {P : Program} {kt : TypeId}
end
theorem chkE_form : ∀ (l : List Envl) (c : List ((Int × Int) × Unit)) (i : Nat), (chkE c i l).2 = 0 → ∀ e ∈ l, formE e = 0
  | [], _, _, _ => by simp
  | x :: l, c, i, h => by
    simp only [chkE] at h
    split at h
    · rename_i h1; exact absurd h h1
    · rename_i h1
      split at h
      · simp at h
      · intro e he
        rcases List.mem_cons.1 he with rfl | he
        · simpa using h1
        · exact chkE_form l _ _ h e he
end Go.AM


namespace Go.AM
open Go.Proofs
set_option linter.unusedVariables false
set_option linter.unusedSimpArgs false
set_option linter.constructorNameAsVariable false
set_option maxRecDepth 20000
attribute [local congr] arithK_cg eqK_cg notK_cg convK_cg pickK_cg buildK_cg ldK_cg nilK_cg sliceK_cg faK_cg fldK_cg iaK_cg iaA_cg lookK_cg capK_cg exK_cg lenK_cg minK_cg maxK_cg effK_cg callK_cg callVK_cg effD_cg gopD_cg grpK_cg condK_cg cond_cg
end Go.AM


namespace Go.AM
open Go.Proofs
set_option linter.unusedVariables false
set_option linter.unusedSimpArgs false
set_option linter.constructorNameAsVariable false
set_option maxRecDepth 20000
theorem R_Clone_I2 (s : List Int) (b : Bool) (hl : s.length < 1000000) (h : Hp) : R_slices_Clone_int [.lst 1 (b && s.isEmpty) (s.map enI)] h = if (b && s.isEmpty) = true then some (nilS, h) else some (.sl 1 (h.length + 1) 0 s.length s.length false, h ++ [.arr 1 [] true false, .arr 1 (s.map enI) true false]) := by
  rw [R_slices_Clone_int_raw]
  by_cases hb : (b && s.isEmpty) = true
  · simp [f_slices_Clone_int, hb]
  · have hb' : (b && s.isEmpty) = false := by simpa using hb
    have hle : s.length * 8 ≤ 140737488355328 := by omega
    have h2 : ((s.map enI).all fun e => e.length == 1) = true := by simp
    simp [f_slices_Clone_int, hb', bsE, fillS, appE, readSl, hle, h2, ap]
theorem newD_clone (s : List Int) (b : Bool) (hl : s.length < 1000000) (h : Hp) (base : Nat) : newD R_slices_Clone_int [.lst 1 (b && s.isEmpty) (s.map enI)] h base = if (b && s.isEmpty) = true then some (nilS, ⟨[], [], []⟩) else some (.sl 1 base 0 s.length s.length false, ⟨[], [.arr 1 (s.map enI) true false], []⟩) := by
  by_cases hb : (b && s.isEmpty) = true
  · rw [if_pos hb]
    exact newD_nil (fun H => by rw [R_Clone_I2 s b hl, if_pos hb]) h base
  · rw [if_neg hb]
    refine newD_val (x := (1, s.map enI, s.length, s.length, false)) ⟨fun e he c hc => ?_, fun H => ⟨[.arr 1 [] true false, .arr 1 (s.map enI) true false], 1, by rw [R_Clone_I2 s b hl, if_neg hb], rfl⟩⟩ h base
    obtain ⟨n, -, rfl⟩ := List.mem_map.1 he
    simp only [List.mem_singleton] at hc
    subst hc
    rfl
theorem known_looks (l : List Envl) (b : Bool) (W : List Int) (node : Int) (hl : l.length < 1000000) (hs : W.length < 100000) {h : Hp} {id : Nat} (hid : h[id]? = some (.arr 1 (W.map enI) true false)) (base : Nat) :
    roD (quietT R_network_Known) [.lst 10 b (l.map encV), .sl 1 id 0 W.length W.length false, I node] h base = some (.tup [knW l W node, I (knS l W node).2], EF [id]) := by
  have hp : plain (.tup [knW l W node, I (knS l W node).2]) = true := by
    rcases (knW_form l W node).1 with e | ⟨x, e⟩ <;> rw [e] <;> rfl
  refine (roD_val (v := .tup [knW l W node, I (knS l W node).2]) ⟨hp, fun H hH => ⟨[], ?_⟩⟩ base).trans (by simp [idss, ids])
  rw [List.append_nil]
  have hid' : H[id]? = some (.arr 1 (W.map enI) true false) := hH id (by simp [idss, ids]) _ hid
  obtain ⟨h', k1, k2⟩ := Known_keyW l b W (b2 := false) node hl hs (h := H) (v := .sl 1 id 0 W.length W.length false) (a := .lst 1 false (W.map enI)) (cvt_whole hid' (by simp) (by simp) (okE_map fun x => by simp)) rfl
  have hpre : h' = H ++ h'.drop H.length := by
    refine List.ext_getElem? fun i => ?_
    by_cases hi : i < H.length
    · rw [List.getElem?_append_left hi, k2 i hi]
    · rw [List.getElem?_append_right (by omega), List.getElem?_drop]
      congr 1
      omega
  refine quietT_val (g := h'.drop H.length) ?_ hp
  rw [← hpre, R_network_Known_raw]
  exact k1 _
end Go.AM


namespace Go.AM
open Go.Proofs
set_option linter.unusedVariables false
set_option linter.unusedSimpArgs false
theorem any_set {α : Type} {f : α → Bool} {a b : List α} (h : ∀ x, x ∈ a ↔ x ∈ b) : a.any f = b.any f := by
  rw [Bool.eq_iff_iff, List.any_eq_true, List.any_eq_true]
  constructor
  · rintro ⟨x, h1, h2⟩; exact ⟨x, (h x).1 h1, h2⟩
  · rintro ⟨x, h1, h2⟩; exact ⟨x, (h x).2 h1, h2⟩
theorem ask_set {l : List Envl} {a b : List Int} (h : ∀ x, x ∈ a ↔ x ∈ b) (ha : a.length ≤ 256) (hb : b.length ≤ 256) : askS l a = askS l b := by
  have h1 : ¬ 256 < a.length := by omega
  have h2 : ¬ 256 < b.length := by omega
  unfold askS
  rw [if_neg h1, if_neg h2, any_set h]
theorem mem_toL {l : List Envl} {sch : List Int} {node : Int} {e : Envl} : e ∈ toL l sch node ↔ (∃ s ∈ sch, l[s.toNat]? = some e) ∧ e.to = node := by
  unfold toL dlv
  rw [List.mem_filter, List.mem_filterMap]
  simp
theorem kn_set {l : List Envl} {a b : List Int} {node : Int} (h : ∀ x, x ∈ a ↔ x ∈ b) (ha : a.length ≤ 256) (hb : b.length ≤ 256) : knS l a node = knS l b node := by
  have h1 := ask_set (l := l) h ha hb
  have h2 : (toS l a node).2 = (toS l b node).2 := by
    unfold toS
    rw [h1]
    split
    · rfl
    · split <;> rfl
  have h3 : ∀ e, e ∈ (toS l a node).1 ↔ e ∈ (toS l b node).1 := fun e => by
    unfold toS
    rw [h1]
    split
    · exact Iff.rfl
    · split
      · exact Iff.rfl
      · show e ∈ toL l a node ↔ e ∈ toL l b node
        rw [mem_toL, mem_toL]
        simp only [h]
  have h4 : (uniqM [] (toS l a node).1).Perm (uniqM [] (toS l b node).1) := (List.perm_ext_iff_of_nodup (uniqM_nodup _ _ .nil) (uniqM_nodup _ _ .nil)).2 fun x => by
    rw [mem_uniqM, mem_uniqM]
    simp only [h3]
  unfold knS
  rw [h2, errM_perm h4, normL_congr fun x => h4.mem_iff]
end Go.AM


namespace Go.AM
open Go.Proofs
set_option linter.unusedVariables false
set_option linter.unusedSimpArgs false
set_option linter.constructorNameAsVariable false
set_option maxRecDepth 20000
section
variable {β : Type} {P : Program} {T : Tab} {D : DTab} {N : Nat} {K : AV → Hp → Option β}
theorem slices_Equal_Message_L2 {T : Tab} {D : DTab} {N : Nat} {x0 : Hp → Option AV} {xr : AV → Hp → Option AV} {a b : List Msg} {p q : Bool} {h : Hp} (hab : a.length = b.length) (hl : a.length < 1000000) (hx : x0 h = xr (B true) h) (heq : ∀ (x y : Msg) (k : Go.AM.K AV), eqK Try.prog true 31 (.agg (encM x)) (.agg (encM y)) h k = k (B (!(x == y)))) : ∀ (n i : Nat), i ≤ a.length → a.length < i + n →
    f_slices_Equal_Message_L2 Try.prog T D N x0 xr n (.lst 7 p (a.map encM)) (.lst 7 q (b.map encM)) (I a.length) (I i) h = xr (B (decide (a.drop i = b.drop i))) h := by
  intro n
  induction n with
  | zero => intro i h1 h2; omega
  | succ n ih =>
    intro i h1 h2
    show f_slices_Equal_Message_b2 Try.prog T D N (f_slices_Equal_Message_L2 Try.prog T D N x0 xr n) x0 xr _ _ _ _ h = _
    rcases Nat.lt_or_ge i a.length with hi | hi
    · have c1 : ((i : Int) < (a.length : Int)) := by omega
      have hw : IntKind.i64.wrap ((i : Int) + 1) = ((i + 1 : Nat) : Int) := by rw [wrap64 (by omega) (by omega)]; omega
      have ia : ∀ k : Go.AM.K AV, iaK 7 (.lst 7 p (a.map encM)) (I i) k = k (.ep (encM a[i]) 0) := fun k => iaK_at i rfl (List.getElem?_eq_getElem hi) k
      have ib : ∀ k : Go.AM.K AV, iaK 7 (.lst 7 q (b.map encM)) (I i) k = k (.ep (encM (b[i]'(by omega))) 0) := fun k => iaK_at i rfl (List.getElem?_eq_getElem (by omega)) k
      have ld : ∀ (x : Msg) (k : Go.AM.K AV), ldK 7 true (.ep (encM x) 0) h k = k (.agg (encM x)) := fun x k => rfl
      rw [List.drop_eq_getElem_cons hi, List.drop_eq_getElem_cons (show i < b.length by omega)]
      simp -implicitDefEqProofs only [f_slices_Equal_Message_b2, lenK_lst, List.length_map, arithK_lss, c1, decide_true, condK_bool, if_true, ia, ib, ld, heq, arithK_add, hw, ih (i + 1) (by omega) (by omega), List.cons.injEq, Bool.decide_and]
      by_cases e : a[i] = b[i]
      · simp [e]
      · simp [e]
    · have : i = a.length := by omega
      subst this
      have c1 : ¬ ((a.length : Int) < (a.length : Int)) := by omega
      simp -implicitDefEqProofs only [f_slices_Equal_Message_b2, lenK_lst, List.length_map, arithK_lss, c1, decide_false, condK_bool, Bool.false_eq_true, if_false, hx]
      rw [List.drop_eq_nil_of_le (Nat.le_refl _), List.drop_eq_nil_of_le (by omega)]
      rfl
theorem F_slices_Equal_Message_val (a b : List Msg) (p q : Bool) (hl : a.length < 1000000) (heq : ∀ (x y : Msg) (h : Hp) (k : Go.AM.K AV), eqK Try.prog true 31 (.agg (encM x)) (.agg (encM y)) h k = k (B (!(x == y)))) (h : Hp) : F_slices_Equal_Message [.lst 7 p (a.map encM), .lst 7 q (b.map encM)] h = some (B (decide (a = b)), h) := by
  refine F_slices_Equal_Message_run rfl ?_ h
  simp only [nrm, nrmC]
  by_cases hab : a.length = b.length
  · have e : ((a.length : Int) == (b.length : Int)) = true := by simp [hab]
    have := slices_Equal_Message_L2 (T := t_slices_Equal_Message) (D := d_slices_Equal_Message) (N := NN) (x0 := fun h => f_slices_Equal_Message_j1 Try.prog t_slices_Equal_Message d_slices_Equal_Message NN (fun v g => cvt false g v) h) (xr := fun w13_4 h => cvt false h w13_4) (a := a) (b := b) (p := p) (q := q) (h := []) hab hl rfl (fun x y k => heq x y [] k) NN 0 (by omega) (by have := NN_ge; omega)
    simp only [List.drop_zero] at this
    simp -implicitDefEqProofs only [f_slices_Equal_Message, lenK_lst, List.length_map, eqK_int, e, Bool.true_xor, Bool.not_true, condK_bool, Bool.false_eq_true, if_false]
    exact this
  · have e : ((a.length : Int) == (b.length : Int)) = false := by simp; omega
    have hne : a ≠ b := fun h => hab (by rw [h])
    simp [f_slices_Equal_Message, e, hne]
theorem F_slices_Clone_Message_val (l : List Msg) (b : Bool) (hl : l.length < 1000000) (h : Hp) : F_slices_Clone_Message [SL 7 encM b l] h = some (SL 7 encM b l, h) := by
  refine (F_slices_Clone_Message_run (v := if b && l.isEmpty then nilS else SL 7 encM b l) rfl ?_ h).trans ?_
  · by_cases hb : (b && l.isEmpty) = true
    · simp [f_slices_Clone_Message, hb]
    · have hb' : (b && l.isEmpty) = false := by simpa using hb
      have hle : l.length * 56 ≤ 140737488355328 := by omega
      have h2 : ((l.map encM).all fun e => e.length == 7) = true := by simp [encM]
      have h3 : okE false (l.map encM) = true := okE_map (by intro x; simp [encM])
      simp [f_slices_Clone_Message, hb', bsE, fillS, appE, readSl, hle, h2, ap]
      rw [cvt_whole rfl (by simp) (by simp) h3, SL, hb']
  · by_cases hb : (b && l.isEmpty) = true
    · obtain ⟨rfl, hl0⟩ := Bool.and_eq_true_iff.1 hb
      have : l = [] := by simpa using hl0
      subst this
      rfl
    · rw [if_neg hb]
      rfl
section
variable {x0 : AV → AV → Hp → Option β} {x2 : AV → Hp → Option β} {ps : List (AV × List Int)} {nl : Bool}
theorem Grow_int_val (n : Nat) (h : Hp) (hn : n < 1000000) : R_slices_Grow_int [nilS, I n] h = some (if n = 0 then (nilS, h) else (.sl 1 h.length 0 0 n false, h ++ [.arr 1 (List.replicate n [I 0]) true false])) := by
  rw [R_slices_Grow_int_raw]
  have w0 : IntKind.i64.wrap 0 = 0 := wrap64 (by omega) (by omega)
  by_cases h0 : n = 0
  · subst h0
    simp [f_slices_Grow_int, f_slices_Grow_int_j1, f_slices_Grow_int_j2, capK, w0]
  · have h1 : ¬ (n : Int) < 0 := by omega
    have h2 : (0 : Int) < (n : Int) := by omega
    have h3 : (n : Int) * 8 ≤ 140737488355328 := by omega
    have w1 : IntKind.i64.wrap (n : Int) = (n : Int) := wrap64 (by omega) (by omega)
    simp [f_slices_Grow_int, f_slices_Grow_int_j1, f_slices_Grow_int_j2, capK, w0, h0, h1, h2, h3, show 0 < n by omega, w1, sliceK, boundOr, mkE, effK, ap]
end
end
attribute [local congr] arithK_cg eqK_cg notK_cg convK_cg pickK_cg buildK_cg ldK_cg nilK_cg sliceK_cg faK_cg fldK_cg iaK_cg iaA_cg lookK_cg capK_cg exK_cg lenK_cg minK_cg maxK_cg effK_cg callK_cg callVK_cg effD_cg gopD_cg grpK_cg condK_cg cond_cg
theorem NN_3 : ∃ n, NN = n + 3 := ⟨NN - 3, by have := NN_ge; omega⟩
theorem Concat2_raw {s : List Int} {b : Bool} {h : Hp} {k : Nat} (hl : s.length < 1000) (hk : h[k]? = some (.arr 1 [[.lst 1 b (s.map enI)], [.lst 1 b (s.map enI)]] true false)) : ∃ v h', R_slices_Concat_int [.sl 1 k 0 2 2 true] h = some (v, h') ∧ Gro 1 enI h' v (s ++ s) := by
  obtain ⟨n, hn⟩ := NN_3
  obtain ⟨a, ha⟩ : ∃ a : AV, a = .lst 1 b (s.map enI) := ⟨_, rfl⟩
  rw [← ha] at hk
  have la : ∀ {β : Type} (k : Go.AM.K β), lenK a k = k (I s.length) := fun k => by rw [ha, lenK_lst, List.length_map]
  have ic : ∀ {β : Type} (i : Nat) (hi : i < 2) (k' : Go.AM.K β), iaK 1 (.sl 1 k 0 2 2 true) (I i) k' = k' (.ptr k i 0 2) := fun i hi k' => by
    have e2 : ((i : Nat) : Int) < 2 := by omega
    simp [iaK, e2]
  have i0 : ∀ {β : Type} (k' : Go.AM.K β), iaK 1 (.sl 1 k 0 2 2 true) (I 0) k' = k' (.ptr k 0 0 2) := fun k' => ic 0 (by omega) k'
  have i1 : ∀ {β : Type} (k' : Go.AM.K β), iaK 1 (.sl 1 k 0 2 2 true) (I 1) k' = k' (.ptr k 1 0 2) := fun k' => ic 1 (by omega) k'
  have l0 : ∀ {β : Type} (h' : Hp) (hh : h'[k]? = some (.arr 1 [[a], [a]] true false)) (k' : Go.AM.K β), ldK 1 false (.ptr k 0 0 2) h' k' = k' a := fun h' hh k' => by simp [hh, pickC]
  have l1 : ∀ {β : Type} (h' : Hp) (hh : h'[k]? = some (.arr 1 [[a], [a]] true false)) (k' : Go.AM.K β), ldK 1 false (.ptr k 1 0 2) h' k' = k' a := fun h' hh k' => by simp [hh, pickC]
  have l2 : ∀ {β : Type} (k' : Go.AM.K β), lenK (.sl 1 k 0 2 2 true) k' = k' (I 2) := fun k' => rfl
  have w1 : IntKind.i64.wrap (0 + (s.length : Int)) = (s.length : Int) := by rw [wrap64 (by omega) (by omega)]; omega
  have w2 : IntKind.i64.wrap ((s.length : Int) + (s.length : Int)) = ((s.length + s.length : Nat) : Int) := by rw [wrap64 (by omega) (by omega)]; omega
  have c1 : ¬ ((s.length : Int) < 0) := by omega
  have c2 : ¬ (((s.length + s.length : Nat) : Int) < 0) := by omega
  have v1 : IntKind.i64.wrap (0 + 1) = 1 := by kernel_rfl
  have v2 : IntKind.i64.wrap (1 + 1) = 2 := by kernel_rfl
  have d0 : ((0 : Int) < 2) := by decide
  have d1 : ((1 : Int) < 2) := by decide
  have d2 : ¬ ((2 : Int) < 2) := by decide
  have L4 : ∀ x0 : AV → AV → Hp → Option (AV × Hp), f_slices_Concat_int_L4 Try.prog t_slices_Concat_int d_slices_Concat_int NN x0 (n + 3) (.sl 1 k 0 2 2 true) (I 0) (.sl 1 k 0 2 2 true) (I 2) (I 0) h = x0 (.sl 1 k 0 2 2 true) (I ((s.length + s.length : Nat) : Int)) h := fun x0 => by
    simp -implicitDefEqProofs only [f_slices_Concat_int_L4, f_slices_Concat_int_b4, arithK_lss, d0, d1, d2, decide_true, decide_false, condK_bool, if_true, Bool.false_eq_true, if_false, i0, i1, l0 h hk, l1 h hk, la, arithK_add, w1, w2, c1, c2, f_slices_Concat_int_j6, f_slices_Concat_int_j5, v1, v2]
  have gr := Grow_int_val (s.length + s.length) h (by omega)
  rw [R_slices_Concat_int_raw]
  have goL : ∀ (v : AV) (h1 : Hp), h1[k]? = some (.arr 1 [[a], [a]] true false) → ∀ (u1 u2 : AV) (g1 g2 : Hp), (∀ k' : AV → Hp → Option (AV × Hp), effK (appE 1 8 v a h1 h1.length) h1 k' = k' u1 g1) → g1[k]? = some (.arr 1 [[a], [a]] true false) → (∀ k' : AV → Hp → Option (AV × Hp), effK (appE 1 8 u1 a g1 g1.length) g1 k' = k' u2 g2) →
      ∀ x2 : AV → Hp → Option (AV × Hp), f_slices_Concat_int_L3 Try.prog t_slices_Concat_int d_slices_Concat_int NN x2 (n + 3) v (.sl 1 k 0 2 2 true) (I 2) (I 0) h1 = x2 u2 g2 := fun v h1 hh u1 u2 g1 g2 e1 hh1 e2 x2 => by
    simp -implicitDefEqProofs only [f_slices_Concat_int_L3, f_slices_Concat_int_b3, arithK_lss, d0, d1, d2, decide_true, decide_false, condK_bool, if_true, Bool.false_eq_true, if_false, i0, i1, l0 h1 hh, l1 g1 hh1, e1, e2, arithK_add, v1, v2]
  by_cases h0 : s.length = 0
  · have hs : s = [] := List.eq_nil_of_length_eq_zero h0
    subst hs
    refine ⟨nilS, h, ?_, .nil⟩
    rw [if_pos (by simp)] at gr
    have ea : ∀ k' : AV → Hp → Option (AV × Hp), effK (appE 1 8 nilS a h h.length) h k' = k' nilS h := fun k' => by rw [ha]; simp [appE, readSl, effK, ap]
    have L3 := goL nilS h hk nilS nilS h h ea hk ea
    rw [hn] at L4 L3 ⊢
    simp -implicitDefEqProofs only [f_slices_Concat_int, l2]
    refine (L4 _).trans ?_
    simp -implicitDefEqProofs only [f_slices_Concat_int_j1, t_slices_Concat_int_59, callK_F, gr, l2]
    refine (L3 _).trans ?_
    simp -implicitDefEqProofs only [f_slices_Concat_int_j2]
  · rw [if_neg (by omega)] at gr
    obtain ⟨g0, hg0⟩ : ∃ g0 : Hp, g0 = h ++ [AObj.arr 1 (List.replicate (s.length + s.length) [I 0]) true false] := ⟨_, rfl⟩
    have hkl : k < h.length := (List.getElem?_eq_some_iff.1 hk).1
    have k0 : g0[k]? = some (.arr 1 [[a], [a]] true false) := by rw [hg0]; exact get_app hk
    have o0 : g0[h.length]? = some (.arr 1 (List.replicate (s.length + s.length) [I 0]) true false) := by rw [hg0, get_new0]; rfl
    have ra : ∀ h : Hp, readSl h a = some (s.map enI) := fun h => by rw [ha]; rfl
    obtain ⟨g1, hg1⟩ : ∃ g1 : Hp, g1 = g0.set h.length (.arr 1 (s.map enI ++ List.replicate s.length [I 0]) true false) := ⟨_, rfl⟩
    have hal : ((s.map enI).all fun e => e.length == 1) = true := by simp
    have e1 : ∀ k' : AV → Hp → Option (AV × Hp), effK (appE 1 8 (.sl 1 h.length 0 0 (s.length + s.length) false) a g0 g0.length) g0 k' = k' (.sl 1 h.length 0 s.length (s.length + s.length) false) g1 := fun k' => by
      have : appE 1 8 (.sl 1 h.length 0 0 (s.length + s.length) false) a g0 g0.length = some (.sl 1 h.length 0 s.length (s.length + s.length) false, ⟨[(h.length, .arr 1 (s.map enI ++ List.replicate s.length [I 0]) true false)], [], h.length :: idsOf a⟩) := by
        unfold appE
        rw [ra]
        simp only [o0, List.length_replicate, List.length_map]
        rw [if_pos ⟨trivial, trivial, by omega, hal⟩, if_neg (by simp), if_neg (by omega), if_pos ⟨trivial, trivial, by omega⟩]
        simp
      rw [effK_putg this, hg1]
    have k1 : g1[k]? = some (.arr 1 [[a], [a]] true false) := by rw [hg1]; exact getSetN k0 (by omega)
    have o1 : g1[h.length]? = some (.arr 1 (s.map enI ++ List.replicate s.length [I 0]) true false) := by rw [hg1]; exact getSelfN o0
    obtain ⟨g2, hg2⟩ : ∃ g2 : Hp, g2 = g1.set h.length (.arr 1 ((s ++ s).map enI) true false) := ⟨_, rfl⟩
    have e2 : ∀ k' : AV → Hp → Option (AV × Hp), effK (appE 1 8 (.sl 1 h.length 0 s.length (s.length + s.length) false) a g1 g1.length) g1 k' = k' (.sl 1 h.length 0 (s.length + s.length) (s.length + s.length) false) g2 := fun k' => by
      have : appE 1 8 (.sl 1 h.length 0 s.length (s.length + s.length) false) a g1 g1.length = some (.sl 1 h.length 0 (s.length + s.length) (s.length + s.length) false, ⟨[(h.length, .arr 1 ((s ++ s).map enI) true false)], [], h.length :: idsOf a⟩) := by
        unfold appE
        rw [ra]
        simp only [o1, List.length_append, List.length_replicate, List.length_map]
        rw [if_pos ⟨trivial, trivial, by omega, hal⟩, if_neg (by simp), if_neg (by omega), if_pos ⟨trivial, trivial, by omega⟩]
        simp [List.take_append, List.drop_append]
      rw [effK_putg this, hg2]
    have L3 := goL (.sl 1 h.length 0 0 (s.length + s.length) false) g0 k0 _ _ g1 g2 e1 k1 e2
    have o2 : g2[h.length]? = some (.arr 1 ((s ++ s).map enI) true false) := by rw [hg2]; exact getSelfN o1
    refine ⟨.sl 1 h.length 0 (s.length + s.length) (s.length + s.length) false, g2, ?_, .inr ⟨by intro e; rw [List.append_eq_nil_iff] at e; rw [e.1] at h0; exact h0 rfl, h.length, by rw [List.length_append], o2⟩⟩
    rw [hn] at L4 L3 ⊢
    simp -implicitDefEqProofs only [f_slices_Concat_int, l2]
    refine (L4 _).trans ?_
    simp -implicitDefEqProofs only [f_slices_Concat_int_j1, t_slices_Concat_int_59, callK_F, gr, ← hg0, l2]
    refine (L3 _).trans ?_
    simp -implicitDefEqProofs only [f_slices_Concat_int_j2]
end Go.AM


namespace Go.AM
open Go.Proofs
set_option linter.unusedVariables false
set_option linter.unusedSimpArgs false
set_option linter.constructorNameAsVariable false
set_option maxRecDepth 20000
attribute [local congr] arithK_cg eqK_cg notK_cg convK_cg pickK_cg buildK_cg ldK_cg nilK_cg sliceK_cg faK_cg fldK_cg iaK_cg iaA_cg lookK_cg capK_cg exK_cg lenK_cg minK_cg maxK_cg effK_cg callK_cg callVK_cg effD_cg gopD_cg grpK_cg condK_cg cond_cg
theorem kn_facts {l : List Envl} {sch : List Int} {node : Int} (h : (knS l sch node).2 = 0) : askS l sch = 0 ∧ isNode node = true ∧ toS l sch node = (toL l sch node, 0) ∧ (knS l sch node).1 = normL (uniqM [] (toL l sch node)) ∧ errM (uniqM [] (toL l sch node)) = 0 := by
  unfold knS at h ⊢
  by_cases q : (toS l sch node).2 ≠ 0
  · rw [if_pos q] at h; exact absurd h q
  · rw [if_neg q] at h ⊢
    have q' : (toS l sch node).2 = 0 := by simpa using q
    have ha : askS l sch = 0 := Classical.byContradiction fun hn => by
      unfold toS at q'
      rw [if_pos hn] at q'
      exact hn q'
    have hi : isNode node = true := by
      cases hi : isNode node with
      | true => rfl
      | false =>
        unfold toS at q'
        rw [if_neg (by simp [ha]), if_pos hi] at q'
        exact absurd q' (by decide)
    have ht : toS l sch node = (toL l sch node, 0) := by unfold toS; rw [if_neg (by simp [ha]), if_neg (by simp [hi])]
    rw [ht] at h ⊢
    dsimp only at h ⊢
    by_cases z : errM (uniqM [] (toL l sch node)) = 0
    · exact ⟨ha, hi, rfl, by rw [if_pos z], z⟩
    · rw [if_neg z] at h; exact absurd h z
theorem kn_more {l : List Envl} {sch : List Int} {node z : Int} (h : (knS l sch node).2 = 0) (hs : sch.length ≤ 24) (h0 : 0 ≤ z) (hz : z < (l.length : Int)) : (knS l (sch ++ [z]) node).2 = 0 := by
  obtain ⟨ha, hi, -, -, he⟩ := kn_facts h
  obtain ⟨k0, k1, k2, k3⟩ := askS_ok ha
  have ha2 : askS l (sch ++ [z]) = 0 := by
    unfold askS
    rw [if_neg (by simp [k0]), if_neg (by simp; omega), if_neg]
    intro hc
    obtain ⟨i, h1, h2⟩ := List.any_eq_true.1 hc
    simp only [outL, Bool.or_eq_true, decide_eq_true_eq] at h2
    rcases List.mem_append.1 h1 with h1 | h1
    · have := k3 i h1; omega
    · simp only [List.mem_singleton] at h1; omega
  have ht : toS l (sch ++ [z]) node = (toL l (sch ++ [z]) node, 0) := by unfold toS; rw [if_neg (by simp [ha2]), if_neg (by simp [hi])]
  have he2 : errM (uniqM [] (toL l (sch ++ [z]) node)) = 0 := by
    refine errM_zero.2 ⟨?_, fun m hm => ?_⟩
    · have h1 := uniqM_len (toL l (sch ++ [z]) node) []
      have h2 := toL_len l (sch ++ [z]) node
      simp only [List.length_append, List.length_singleton, List.length_nil] at h1 h2
      omega
    · rw [mem_uniqM] at hm
      rcases hm with hm | ⟨e, he, rfl⟩
      · simp at hm
      · obtain ⟨⟨s, -, hs⟩, -⟩ := mem_toL.1 he
        have hf := chkE_form l [] 0 (by
          unfold chkS at k0
          rw [if_neg (by omega)] at k0
          exact k0) e (List.mem_of_getElem? hs)
        unfold formE at hf
        split at hf
        · simp at hf
        · split at hf
          · simp at hf
          · split at hf
            · simp at hf
            · rename_i hh; simpa using hh
  unfold knS
  rw [ht]
  dsimp only
  rw [if_neg (by simp), if_pos he2]
theorem mem_kn {l : List Envl} {sch : List Int} {node : Int} (h : (knS l sch node).2 = 0) {m : Msg} : m ∈ (knS l sch node).1 ↔ ∃ e ∈ toL l sch node, e.msg = m := by
  obtain ⟨-, -, -, h1, -⟩ := kn_facts h
  rw [h1, mem_normL, mem_uniqM]
  simp
theorem knows_app (sch : List Int) (b : Bool) (z : Int) (hl : sch.length < 1000) (h : Hp) : ∃ (x : AV) (h1 : Hp) (e1 : Ent) (y : AV) (h2 : Hp) (e2 : Ent) (id : Nat) (H2 : Hp) (e3 : Ent), (∀ k : AV → Hp → Ent → Option AV, effD (newD R_slices_Clone_int [.lst 1 (b && sch.isEmpty) (sch.map enI)] h h.length) h k = k x h1 e1) ∧ (∀ k : AV → Hp → Ent → Option AV, effD (bsE 1 [I 0] 1 [(0, I z)] h1.length) h1 k = k y h2 e2) ∧ (∀ k : AV → Hp → Ent → Option AV, effD (appE 1 8 x y h2 h2.length) h2 k = k (.sl 1 id 0 (sch ++ [z]).length (sch ++ [z]).length false) H2 e3) ∧ H2[id]? = some (.arr 1 ((sch ++ [z]).map enI) true false) ∧ disj2 e1 e2 = true ∧ (∀ n, H2.length ≤ n → disj2 e1 ([], [n]) = true ∧ disj2 e2 ([], [n]) = true ∧ disj2 e3 ([], [n]) = true) ∧ id < H2.length := by
  have hc := newD_clone sch b (by omega) h h.length
  by_cases hb : (b && sch.isEmpty) = true
  · have hs : sch = [] := by simpa using (Bool.and_eq_true_iff.1 hb).2
    subst hs
    rw [if_pos hb] at hc
    obtain ⟨h1, hh1⟩ : ∃ h1 : Hp, h1 = h ++ [AObj.arr 1 [[I z]] true false] := ⟨_, rfl⟩
    have hx1 : h1[h.length]? = some (.arr 1 [[I z]] true false) := by rw [hh1, get_new0]; rfl
    have hl1 : h1.length = h.length + 1 := by rw [hh1]; simp
    have hb2 : bsE 1 [I 0] 1 [(0, I z)] h.length = some (.sl 1 h.length 0 1 1 true, ⟨[], [.arr 1 [[I z]] true false], []⟩) := by simp [bsE, fillS]
    have hb3 : appE 1 8 nilS (.sl 1 h.length 0 1 1 true) h1 h1.length = some (.sl 1 h1.length 0 1 1 false, ⟨[], [.arr 1 [[I z]] true false], [h.length]⟩) := by
      have : readSl h1 (.sl 1 h.length 0 1 1 true) = some [[I z]] := by unfold readSl; simp [hx1]
      unfold appE
      rw [this]
      simp [idsOf]
    have ha1 : ap h ⟨[], [], []⟩ = h := by simp [ap]
    have ha2 : ap h ⟨[], [.arr 1 [[I z]] true false], []⟩ = h1 := by rw [hh1]; rfl
    have ha3 : ap h1 ⟨[], [.arr 1 [[I z]] true false], [h.length]⟩ = h1 ++ [.arr 1 [[I z]] true false] := rfl
    refine ⟨nilS, h, ([], []), .sl 1 h.length 0 1 1 true, h1, ([], [h.length]), h1.length, h1 ++ [.arr 1 [[I z]] true false], ([h.length], [h1.length]), fun k => ?_, fun k => ?_, fun k => ?_, ?_, ?_, fun n hn => ?_, by simp⟩
    · simp only [hc, effD, ha1, wrOf]; rfl
    · simp only [effD, hb2, ha2, wrOf]; rfl
    · simp only [effD, hb3, ha3, wrOf]; rfl
    · rw [get_new0]; rfl
    · simp [disj2]
    · simp only [List.length_append, List.length_singleton] at hn
      simp [disj2]
      omega
  · rw [if_neg hb] at hc
    obtain ⟨h1, hh1⟩ : ∃ h1 : Hp, h1 = h ++ [AObj.arr 1 (sch.map enI) true false] := ⟨_, rfl⟩
    have hl1 : h1.length = h.length + 1 := by rw [hh1]; simp
    have hx1 : h1[h.length]? = some (.arr 1 (sch.map enI) true false) := by rw [hh1, get_new0]; rfl
    obtain ⟨h2, hh2⟩ : ∃ h2 : Hp, h2 = h1 ++ [AObj.arr 1 [[I z]] true false] := ⟨_, rfl⟩
    have hl2 : h2.length = h1.length + 1 := by rw [hh2]; simp
    have hx2 : h2[h1.length]? = some (.arr 1 [[I z]] true false) := by rw [hh2, get_new0]; rfl
    have hx3 : h2[h.length]? = some (.arr 1 (sch.map enI) true false) := by rw [hh2]; exact get_app hx1
    have hb2 : bsE 1 [I 0] 1 [(0, I z)] h1.length = some (.sl 1 h1.length 0 1 1 true, ⟨[], [.arr 1 [[I z]] true false], []⟩) := by simp [bsE, fillS]
    have hb3 : appE 1 8 (.sl 1 h.length 0 sch.length sch.length false) (.sl 1 h1.length 0 1 1 true) h2 h2.length = some (.sl 1 h.length 0 (sch ++ [z]).length (sch ++ [z]).length false, ⟨[(h.length, .arr 1 ((sch ++ [z]).map enI) true false)], [], [h.length, h1.length]⟩) := by
      have : readSl h2 (.sl 1 h1.length 0 1 1 true) = some [[I z]] := by unfold readSl; simp [hx2]
      unfold appE
      rw [this]
      simp only [hx3, List.length_map, List.length_singleton]
      rw [if_pos ⟨trivial, trivial, by omega, by simp⟩, if_neg (by simp), if_pos (by simp)]
      simp [idsOf]
    have ha1 : ap h ⟨[], [.arr 1 (sch.map enI) true false], []⟩ = h1 := by rw [hh1]; rfl
    have ha2 : ap h1 ⟨[], [.arr 1 [[I z]] true false], []⟩ = h2 := by rw [hh2]; rfl
    have ha3 : ap h2 ⟨[(h.length, .arr 1 ((sch ++ [z]).map enI) true false)], [], [h.length, h1.length]⟩ = h2.set h.length (.arr 1 ((sch ++ [z]).map enI) true false) := by simp [ap]
    refine ⟨.sl 1 h.length 0 sch.length sch.length false, h1, ([], [h.length]), .sl 1 h1.length 0 1 1 true, h2, ([], [h1.length]), h.length, h2.set h.length (.arr 1 ((sch ++ [z]).map enI) true false), ([h.length, h1.length], [h.length]), fun k => ?_, fun k => ?_, fun k => ?_, getSelfN hx3, ?_, fun n hn => ?_, by simp; omega⟩
    · simp only [hc, effD, ha1, wrOf]; rfl
    · simp only [effD, hb2, ha2, wrOf]; rfl
    · simp only [effD, hb3, ha3, wrOf]; rfl
    · simp [disj2]; omega
    · simp only [List.length_set] at hn
      simp [disj2]
      omega
end Go.AM


namespace Go.AM
open Go.Proofs
set_option linter.unusedVariables false
set_option linter.unusedSimpArgs false
set_option linter.constructorNameAsVariable false
set_option maxRecDepth 20000
attribute [local congr] arithK_cg eqK_cg notK_cg convK_cg pickK_cg buildK_cg ldK_cg nilK_cg sliceK_cg faK_cg fldK_cg iaK_cg iaA_cg lookK_cg capK_cg exK_cg lenK_cg minK_cg maxK_cg effK_cg callK_cg callVK_cg effD_cg gopD_cg grpK_cg condK_cg cond_cg
theorem find_ge {α : Type} {p : α → Bool} (l : List α) : decide ((match l.findIdx? p with | some j => (j : Int) | none => -1) ≥ 0) = l.any p := by
  cases hc : l.findIdx? p with
  | some j =>
    have : l.any p = true := by
      obtain ⟨h1, h2, -⟩ := List.findIdx?_eq_some_iff_getElem.1 hc
      exact List.any_eq_true.2 ⟨_, List.getElem_mem h1, h2⟩
    rw [this]; simp
  | none =>
    have : l.any p = false := by
      rw [List.any_eq_false]
      intro x hx
      have := List.findIdx?_eq_none_iff.1 hc x hx
      simpa using this
    rw [this]; rfl
theorem know11_at {y : Envl} {m : Msg} {h : Hp} {x : Nat} (hx : h[x]? = some (.arr 7 [encM m] true false)) : F_law41_NetworkKnows_1_1 [.agg (encV y), .ptr x 0 0 1] h = some (B (y.msg == m), h) := by
  refine F_law41_NetworkKnows_1_1_q (g := [.arr 10 [encV y] true false]) ?_ rfl
  have bx : ∀ k : AV → Hp → Option (AV × Hp), effK (boxE 10 (.agg (encV y)) h.length) h k = k (.ptr h.length 0 0 1) (h ++ [.arr 10 [encV y] true false]) := fun k => effK_box 10 h.length _ h k rfl rfl rfl
  have e1 : ∀ k : Go.AM.K (AV × Hp), ldK 7 true (.ptr x 0 0 1) (h ++ [.arr 10 [encV y] true false]) k = k (.agg (encM m)) := fun k => by rw [ldK_ptr, get_app hx]; rfl
  simp -implicitDefEqProofs only [f_law41_NetworkKnows_1_1, bx, faK_ptr, Nat.zero_add, nl3, e1, eqs_Me, Bool.false_xor]
theorem know_any {E : List Envl} {b2 : Bool} {m : Msg} {h : Hp} {x : Nat} (hd : E.length < 1000000) (hx : h[x]? = some (.arr 7 [encM m] true false)) :
    F_slices_ContainsFunc_Envelope__law41_NetworkKnows_1_1 [.lst 10 b2 (E.map encV), .fn 42 [.ptr x 0 0 1]] h = some (B (E.any fun y => y.msg == m), h) := by
  have fi : F_slices_IndexFunc_Envelope__law41_NetworkKnows_1_1 [.lst 10 b2 (E.map encV), .fn 42 [.ptr x 0 0 1]] h = some (I (match E.findIdx? (fun y => y.msg == m) with | some j => (j : Int) | none => -1), h) :=
    F_slices_IndexFunc_Envelope__law41_NetworkKnows_1_1_q (g := []) (by
      rw [List.append_nil]
      exact IndexFunc_Envelope_K (T := t_slices_IndexFunc_Envelope__law41_NetworkKnows_1_1) (P := Try.prog) (D := d_slices_IndexFunc_Envelope__law41_NetworkKnows_1_1) (N := NN) (K := fun v h => some (v, h)) (l := E) (b := b2) (fv := .fn 42 [.ptr x 0 0 1]) (h := h) (p := fun y => y.msg == m) (by have := NN_ge; omega) NN_lt (fun y hy k => by
        show callK (t_slices_IndexFunc_Envelope__law41_NetworkKnows_1_1 42) [.agg (encV y), .ptr x 0 0 1] h k = _
        simp -implicitDefEqProofs only [t_slices_IndexFunc_Envelope__law41_NetworkKnows_1_1_42, callK_F, know11_at hx])) rfl
  refine F_slices_ContainsFunc_Envelope__law41_NetworkKnows_1_1_q (g := []) ?_ rfl
  rw [List.append_nil]
  simp -implicitDefEqProofs only [f_slices_ContainsFunc_Envelope, t_slices_ContainsFunc_Envelope__law41_NetworkKnows_1_1_57, callK_F, fi, arithK_geq, find_ge]
theorem know1_at {C : List Msg} {E : List Envl} {b b2 : Bool} {m : Msg} {h : Hp} {i1 i2 : Nat} (hC : C.length < 1000000) (hd : E.length < 1000000) (h1 : h[i1]? = some (.arr 1 [[.lst 7 b (C.map encM)]] true false)) (h2 : h[i2]? = some (.arr 1 [[.lst 10 b2 (E.map encV)]] true false)) : F_law41_NetworkKnows_1 [.agg (encM m), .ptr i1 0 0 1, .ptr i2 0 0 1] h = some (B (!(C.contains m) || !(E.any fun y => y.msg == m)), h) := by
  refine F_law41_NetworkKnows_1_q (g := [.arr 7 [encM m] true false]) ?_ rfl
  obtain ⟨h', hh⟩ : ∃ h' : Hp, h' = h ++ [AObj.arr 7 [encM m] true false] := ⟨_, rfl⟩
  have bx : ∀ k : AV → Hp → Option (AV × Hp), effK (boxE 7 (.agg (encM m)) h.length) h k = k (.ptr h.length 0 0 1) h' := fun k => by rw [hh]; exact effK_box 7 h.length _ h k rfl rfl rfl
  have e1 : ∀ k : Go.AM.K (AV × Hp), ldK 1 false (.ptr i1 0 0 1) h' k = k (.lst 7 b (C.map encM)) := fun k => by rw [hh, ldK_ptr, get_app h1]; rfl
  have e2 : ∀ k : Go.AM.K (AV × Hp), ldK 1 false (.ptr i2 0 0 1) h' k = k (.lst 10 b2 (E.map encV)) := fun k => by rw [hh, ldK_ptr, get_app h2]; rfl
  have hx : h'[h.length]? = some (.arr 7 [encM m] true false) := by rw [hh, get_new0]; rfl
  have e3 : ∀ k : Go.AM.K (AV × Hp), ldK 7 true (.ptr h.length 0 0 1) h' k = k (.agg (encM m)) := fun k => by rw [ldK_ptr, hx]; rfl
  have fc := F_slices_Contains_Message_val C b m hC (fun x y h k => by rw [eqs_Me, Bool.false_xor])
  have fa := know_any (E := E) (b2 := b2) hd hx
  rw [← hh]
  simp -implicitDefEqProofs only [f_law41_NetworkKnows_1, bx, e1, e2, e3, t_law41_NetworkKnows_1_37, t_law41_NetworkKnows_1_31, callK_F, fc, fa, notK_bool, grpK_or]
theorem know_all {K C : List Msg} {E : List Envl} {b0 b b2 : Bool} {h : Hp} {i1 i2 : Nat} (hK : K.length < 1000000) (hC : C.length < 1000000) (hd : E.length < 1000000) (h1 : h[i1]? = some (.arr 1 [[.lst 7 b (C.map encM)]] true false)) (h2 : h[i2]? = some (.arr 1 [[.lst 10 b2 (E.map encV)]] true false)) (ha : ∀ m ∈ K, m ∈ C ∧ ∃ y ∈ E, y.msg = m) :
    F_slices_ContainsFunc_Message__law41_NetworkKnows_1 [.lst 7 b0 (K.map encM), .fn 41 [.ptr i1 0 0 1, .ptr i2 0 0 1]] h = some (B false, h) := by
  have fi : F_slices_IndexFunc_Message__law41_NetworkKnows_1 [.lst 7 b0 (K.map encM), .fn 41 [.ptr i1 0 0 1, .ptr i2 0 0 1]] h = some (I (-1), h) :=
    F_slices_IndexFunc_Message__law41_NetworkKnows_1_q (g := []) (by
      rw [List.append_nil]
      have := IndexFunc_Message_K (T := t_slices_IndexFunc_Message__law41_NetworkKnows_1) (P := Try.prog) (D := d_slices_IndexFunc_Message__law41_NetworkKnows_1) (N := NN) (K := fun v h => some (v, h)) (l := K) (b := b0) (fv := .fn 41 [.ptr i1 0 0 1, .ptr i2 0 0 1]) (h := h) (p := fun m => !(C.contains m) || !(E.any fun y => y.msg == m)) (by have := NN_ge; omega) NN_lt (fun y hy k => by
        show callK (t_slices_IndexFunc_Message__law41_NetworkKnows_1 41) [.agg (encM y), .ptr i1 0 0 1, .ptr i2 0 0 1] h k = _
        simp -implicitDefEqProofs only [t_slices_IndexFunc_Message__law41_NetworkKnows_1_41, callK_F, know1_at hC hd h1 h2])
      rw [this, show K.findIdx? (fun m => !(C.contains m) || !(E.any fun y => y.msg == m)) = none from List.findIdx?_eq_none_iff.2 fun m hm => by
        obtain ⟨q1, y, q2, q3⟩ := ha m hm
        have e1 : C.contains m = true := by simpa using q1
        have e2 : (E.any fun y => y.msg == m) = true := List.any_eq_true.2 ⟨y, q2, by simpa using q3⟩
        rw [e1, e2]; rfl]) rfl
  refine F_slices_ContainsFunc_Message__law41_NetworkKnows_1_q (g := []) ?_ rfl
  rw [List.append_nil]
  simp -implicitDefEqProofs only [f_slices_ContainsFunc_Message, t_slices_ContainsFunc_Message__law41_NetworkKnows_1_65, callK_F, fi, arithK_geq]
  rfl
theorem Knows_L2 {x0 : AV → AV → AV → Hp → Option AV} {xr : AV → Hp → Option AV} {X : Option AV} {K : List Msg} {E : List Envl} {b b2 : Bool} {i1 i2 : Nat} {o1 o2 : AObj} (hK : K.length < 1000000) (hl : E.length < 100000) (ha : ∀ e ∈ E, e.msg ∈ K) (hx : ∀ h : Hp, h[i1]? = some o1 → h[i2]? = some o2 → x0 (.lst 7 b (K.map encM)) (.ptr i1 0 0 1) (.ptr i2 0 0 1) h = X) : ∀ (n i : Nat) (h : Hp), i ≤ E.length → E.length < i + n → h[i1]? = some o1 → h[i2]? = some o2 →
    f_law41_NetworkKnows_L2 Try.prog t_law41_NetworkKnows d_law41_NetworkKnows NN x0 xr n (.lst 7 b (K.map encM)) (.ptr i1 0 0 1) (.ptr i2 0 0 1) (.lst 10 b2 (E.map encV)) (I E.length) (I i) h = X := by
  intro n
  induction n with
  | zero => intro i h h1 h2; omega
  | succ n ih =>
    intro i h h1 h2 g1 g2
    show f_law41_NetworkKnows_b2 Try.prog t_law41_NetworkKnows d_law41_NetworkKnows NN (f_law41_NetworkKnows_L2 Try.prog t_law41_NetworkKnows d_law41_NetworkKnows NN x0 xr n) x0 xr _ _ _ _ _ _ h = _
    rcases Nat.lt_or_ge i E.length with hi | hi
    · have hx' : E[i]? = some E[i] := List.getElem?_eq_getElem hi
      have hm := ha E[i] (List.getElem_mem hi)
      generalize E[i] = e at hx' hm
      have hlt : ((i : Int) < (E.length : Int)) := by omega
      have hw : IntKind.i64.wrap ((i : Int) + 1) = ((i + 1 : Nat) : Int) := by rw [wrap64 (by omega) (by omega)]; omega
      have ic : ∀ k : Go.AM.K AV, iaK 10 (.lst 10 b2 (E.map encV)) (I i) k = k (.ep (encV e) 0) := fun k => iaK_at i rfl hx' k
      have ld : ∀ k : Go.AM.K AV, ldK 10 true (.ep (encV e) 0) h k = k (.agg (encV e)) := fun k => rfl
      obtain ⟨x, hhx⟩ : ∃ x, x = h ++ [AObj.arr 10 [encV e] true false] := ⟨_, rfl⟩
      have ns : ∀ k : AV → Hp → Option AV, effK (stE 10 (.ptr h.length 0 0 1) (.agg (encV e)) (h ++ [.arr 10 [zE] true false])) (h ++ [.arr 10 [zE] true false]) k = k .u x := fun k => by rw [hhx]; exact nst k
      have m3 : ∀ k : Go.AM.K AV, ldK 7 true (.ptr h.length 0 3 1) x k = k (.agg (encM e.msg)) := fun k => by rw [hhx]; exact nl3 k
      have fc := F_slices_Contains_Message_val K b e.msg hK (fun x y h k => by rw [eqs_Me, Bool.false_xor])
      have hc : K.contains e.msg = true := by simpa using hm
      simp -implicitDefEqProofs only [f_law41_NetworkKnows_b2, arithK_lss, hlt, decide_true, condK_bool, if_true, ic, ld, nbx, ns, faK_ptr, Nat.zero_add, m3, t_law41_NetworkKnows_37, callK_F, fc, hc, notK_bool, Bool.not_true, Bool.false_eq_true, if_false, arithK_add, hw]
      exact ih (i + 1) x hi (by omega) (by rw [hhx]; exact get_app g1) (by rw [hhx]; exact get_app g2)
    · have : i = E.length := by omega
      subst this
      have c1 : ¬ ((E.length : Int) < (E.length : Int)) := by omega
      simp -implicitDefEqProofs only [f_law41_NetworkKnows_b2, arithK_lss, c1, decide_false, condK_bool, Bool.false_eq_true, if_false]
      exact hx h g1 g2
end Go.AM


namespace Go.AM
open Go.Proofs
set_option linter.unusedVariables false
set_option linter.unusedSimpArgs false
set_option linter.constructorNameAsVariable false
set_option maxRecDepth 20000
attribute [local congr] arithK_cg eqK_cg notK_cg convK_cg pickK_cg buildK_cg ldK_cg nilK_cg sliceK_cg faK_cg fldK_cg iaK_cg iaA_cg lookK_cg capK_cg exK_cg lenK_cg minK_cg maxK_cg effK_cg callK_cg callVK_cg effD_cg gopD_cg grpK_cg condK_cg cond_cg
theorem knows_law (l : List Envl) (b1 : Bool) (sch : List Int) (b2 : Bool) (node : Int) (more : Int) (hmore : 0 ≤ more ∧ more ≤ 255) : F_law41_NetworkKnows [SL 10 encV b1 l, SL 1 enI b2 sch, I node, .s (.int .u8 more)] [] = some (B true, []) := by
  refine F_law41_NetworkKnows_run (a0 := SL 10 encV b1 l) (a1 := SL 1 enI b2 sch) (a2 := I node) (a3 := .s (.int .u8 more)) rfl ?_ []
  simp only [nrm, nrmC]
  have fw := F_law41_awake_val
  have ff := F_law41_few_val l (b1 && l.isEmpty) sch (b2 && sch.isEmpty)
  simp -implicitDefEqProofs only [f_law41_NetworkKnows, t_law41_NetworkKnows_10, t_law41_NetworkKnows_29, callK_F, fw, ff, notK_bool, Bool.not_true, condK_bool, Bool.false_eq_true, if_false, SL, lenK_lst, List.length_map, eqK_int, Bool.false_xor, grpK_or]
  by_cases hb : fewS l sch = true ∧ l.length ≠ 0
  · obtain ⟨hf, hl0⟩ := hb
    have hf' := hf
    simp only [fewS, Bool.and_eq_true, decide_eq_true_eq] at hf'
    obtain ⟨q1, q2⟩ := hf'
    have e0 : ((l.length : Int) == 0) = false := by simpa using hl0
    have fcE : ∀ h, F_slices_Clone_Envelope [.lst 10 (b1 && l.isEmpty) (l.map encV)] h = some (.lst 10 (b1 && l.isEmpty) (l.map encV), h) := fun h => F_slices_Clone_Envelope_val l b1 (by omega) h
    have fcI : ∀ h, F_slices_Clone_int [.lst 1 (b2 && sch.isEmpty) (sch.map enI)] h = some (.lst 1 (b2 && sch.isEmpty) (sch.map enI), h) := fun h => F_slices_Clone_int_val sch b2 (by omega) h
    obtain ⟨h1, k1, -⟩ := Known_keyW l (b1 && l.isEmpty) sch (b2 := b2 && sch.isEmpty) node (by omega) (by omega) (h := []) (v := .lst 1 (b2 && sch.isEmpty) (sch.map enI)) (a := .lst 1 (b2 && sch.isEmpty) (sch.map enI)) rfl rfl
    have fk1 : R_network_Known [.lst 10 (b1 && l.isEmpty) (l.map encV), .lst 1 (b2 && sch.isEmpty) (sch.map enI), I node] [] = some (.tup [knW l sch node, I (knS l sch node).2], h1) := by rw [R_network_Known_raw]; exact k1 _
    have tp : ∀ (a b : AV) (k : Go.AM.K AV), exK (.tup [a, b]) 0 k = k a := fun a b k => rfl
    have tq : ∀ (a b : AV) (k : Go.AM.K AV), exK (.tup [a, b]) 1 k = k b := fun a b k => rfl
    simp -implicitDefEqProofs only [hf, e0, Bool.not_true, Bool.or_self, Bool.false_eq_true, if_false, t_law41_NetworkKnows_13, t_law41_NetworkKnows_16, t_law41_NetworkKnows_18, callK_F, fcE, fcI, fk1, tp, tq, eqK_int, Bool.true_xor, condK_bool]
    by_cases z : (knS l sch node).2 = 0
    · have ez : ((knS l sch node).2 == 0) = true := by simpa using z
      obtain ⟨mo, rfl⟩ : ∃ mo : Nat, more = (mo : Int) := ⟨more.toNat, by omega⟩
      obtain ⟨zz, hzz⟩ : ∃ zz : Nat, zz = mo % l.length := ⟨_, rfl⟩
      have hzl : zz < l.length := by rw [hzz]; exact Nat.mod_lt _ (by omega)
      -- both twice, backwards
      obtain ⟨A, hA⟩ : ∃ A : AV, A = .lst 1 (b2 && sch.isEmpty) (sch.map enI) := ⟨_, rfl⟩
      obtain ⟨H1, hH1⟩ : ∃ H1 : Hp, H1 = h1 ++ [AObj.arr 1 [[A], [A]] true false] := ⟨_, rfl⟩
      have bs : ∀ k : AV → Hp → Option AV, effK (bsE 1 [.s (.slice none 0 0)] 2 [(0, A), (1, A)] h1.length) h1 k = k (.sl 1 h1.length 0 2 2 true) H1 := fun k => by rw [hH1, hA]; simp [bsE, fillS, effK, ap]
      obtain ⟨vm, h2, c1, c2⟩ := Concat2_raw (s := sch) (b := b2 && sch.isEmpty) (h := H1) (k := h1.length) (by omega) (by rw [hH1, ← hA, get_new0]; rfl)
      obtain ⟨h3, d1, d2⟩ := rev_gro c2 (by simp; omega)
      obtain ⟨w, w1, w2⟩ := d2.cvts (fun x st => by cases st <;> simp [isS])
      obtain ⟨h4, k2, -⟩ := Known_keyW l (b1 && l.isEmpty) (sch ++ sch).reverse node (by omega) (by simp; omega) (w1 false) w2
      have fk2 : R_network_Known [.lst 10 (b1 && l.isEmpty) (l.map encV), vm, I node] h3 = some (.tup [knW l (sch ++ sch).reverse node, I (knS l (sch ++ sch).reverse node).2], h4) := by rw [R_network_Known_raw]; exact k2 _
      have hset : knS l (sch ++ sch).reverse node = knS l sch node := kn_set (fun x => by simp) (by simp; omega) (by omega)
      have zm : (knS l (sch ++ sch).reverse node).2 = 0 := by rw [hset]; exact z
      have eW : knW l (sch ++ sch).reverse node = .lst 7 (knS l sch node).1.isEmpty ((knS l sch node).1.map encM) := by rw [knW_ok zm, hset]
      have eW0 := knW_ok z
      have zc := kn_more (z := (zz : Int)) z q2 (by omega) (by omega)
      have eC := knW_ok zc
      rw [eW, zm] at fk2
      -- one more
      have gE : ∀ h base, G_slices_Clone_Envelope [.lst 10 (b1 && l.isEmpty) (l.map encV)] h base = some (.lst 10 (b1 && l.isEmpty) (l.map encV), EF []) := fun h base => (closedXD_val (F_slices_Clone_Envelope_val l b1 (by omega) h) base).trans (by simp [SL, idss, ids])
      obtain ⟨x, g1, e1, y, g2, e2, id, g3, e3, p1, p2, p3, p4, p5, p6, p7⟩ := knows_app sch b2 (zz : Int) (by omega) h4
      rw [← hA] at p1
      have kl := fun base => known_looks l (b1 && l.isEmpty) (sch ++ [(zz : Int)]) node (by omega) (by simp; omega) p4 base
      rw [eC, zc] at kl
      have cv : ∀ k : Go.AM.K AV, convK Try.prog 5 3 (.s (.int .u8 (mo : Int))) k = k (I (mo : Int)) := fun k => by
        rw [convK_int Try.underlying5 Try.underlying3, wrap64 (by omega) (by omega)]
      have rk : ∀ k : Go.AM.K AV, reckK Try.prog .rem 3 (I (mo : Int)) (I l.length) k = k (I zz) := fun k => by rw [reck_remI mo l.length hl0, hzz]
      obtain ⟨C, hC⟩ : ∃ C : List Msg, C = (knS l (sch ++ [(zz : Int)]) node).1 := ⟨_, rfl⟩
      obtain ⟨K, hK⟩ : ∃ K : List Msg, K = (knS l sch node).1 := ⟨_, rfl⟩
      rw [← hC] at kl
      obtain ⟨g4, hg4⟩ : ∃ g4 : Hp, g4 = g3 ++ [AObj.arr 1 [[.lst 7 C.isEmpty (C.map encM)]] true false] := ⟨_, rfl⟩
      obtain ⟨ka, kb, kc, kd, ke⟩ := kn_facts z
      obtain ⟨E, hE⟩ : ∃ E : List Envl, E = toL l sch node := ⟨_, rfl⟩
      have hEl : E.length ≤ 24 := by have := toL_len l sch node; rw [← hE] at this; omega
      have hKl : K.length ≤ 64 := by rw [hK, kd]; exact (normL_ok ke).1
      have hCl : C.length ≤ 64 := by
        obtain ⟨-, -, -, cd, ce⟩ := kn_facts zc
        rw [hC, cd]; exact (normL_ok ce).1
      have dV : dlvV l sch node = .tup [.lst 10 E.isEmpty (E.map encV), I 0] := by unfold dlvV; rw [kc, ← hE]
      have fD := fun h => F_network_Deliver_val l (b1 && l.isEmpty) sch (b2 && sch.isEmpty) node (by omega) (by omega) h
      rw [dV, ← hA] at fD
      rw [← hA] at fcI
      have hc4 : g4[g3.length]? = some (.arr 1 [[.lst 7 C.isEmpty (C.map encM)]] true false) := by rw [hg4, get_new0]; rfl
      obtain ⟨h6, hh6⟩ : ∃ h6 : Hp, h6 = g4 ++ [AObj.arr 1 [[.lst 10 E.isEmpty (E.map encV)]] true false] := ⟨_, rfl⟩
      have hc6 : h6[g3.length]? = some (.arr 1 [[.lst 7 C.isEmpty (C.map encM)]] true false) := by rw [hh6]; exact get_app hc4
      have hd6 : h6[g4.length]? = some (.arr 1 [[.lst 10 E.isEmpty (E.map encV)]] true false) := by rw [hh6, get_new0]; rfl
      have bxD : ∀ k : AV → Hp → Ent → Option AV, effD (boxE 1 (.s (.slice none 0 0)) g3.length) g3 k = k (.ptr g3.length 0 0 1) (g3 ++ [.arr 1 [[nilS]] true false]) ([], [g3.length]) := fun k => by simp [effD, boxE, ap, wrOf]
      have stD : ∀ k : AV → Hp → Ent → Option AV, effD (stE 1 (.ptr g3.length 0 0 1) (.lst 7 C.isEmpty (C.map encM)) (g3 ++ [.arr 1 [[nilS]] true false])) (g3 ++ [.arr 1 [[nilS]] true false]) k = k .u g4 ([g3.length], [g3.length]) := fun k => by
        have : stE 1 (.ptr g3.length 0 0 1) (.lst 7 C.isEmpty (C.map encM)) (g3 ++ [.arr 1 [[nilS]] true false]) = some (.u, ⟨[(g3.length, .arr 1 [[.lst 7 C.isEmpty (C.map encM)]] true false)], [], [g3.length]⟩) := by
          rw [stE_ptr, get_new0]
          simp [putAt]
        rw [this, hg4]
        simp only [effD, wrOf, ap, List.foldl_cons, List.foldl_nil, List.append_nil, set_new0]
        rfl
      have bxK : ∀ k : AV → Hp → Option AV, effK (boxE 1 (.s (.slice none 0 0)) g4.length) g4 k = k (.ptr g4.length 0 0 1) (g4 ++ [.arr 1 [[nilS]] true false]) := fun k => effK_box 1 g4.length _ g4 k rfl rfl rfl
      have stK : ∀ k : AV → Hp → Option AV, effK (stE 1 (.ptr g4.length 0 0 1) (.lst 10 E.isEmpty (E.map encV)) (g4 ++ [.arr 1 [[nilS]] true false])) (g4 ++ [.arr 1 [[nilS]] true false]) k = k .u h6 := fun k => by
        have : stE 1 (.ptr g4.length 0 0 1) (.lst 10 E.isEmpty (E.map encV)) (g4 ++ [.arr 1 [[nilS]] true false]) = some (.u, ⟨[(g4.length, .arr 1 [[.lst 10 E.isEmpty (E.map encV)]] true false)], [], [g4.length]⟩) := by
          rw [stE_ptr, get_new0]
          simp [putAt]
        rw [effK_putg this, hh6, set_new0]
        rfl
      have ld6 : ∀ k : Go.AM.K AV, ldK 1 false (.ptr g4.length 0 0 1) h6 k = k (.lst 10 E.isEmpty (E.map encV)) := fun k => by rw [ldK_ptr, hd6]; rfl
      obtain ⟨p6a, p6b, p6c⟩ := p6 g3.length (Nat.le_refl _)
      have hidn : id ≠ g3.length := by omega
      have dj : disjAll [(1, 9), (3, 9), (1, 16), (3, 16), (9, 16), (10, 16), (12, 16)] [([], []), ([], []), ([], []), e1, ([], []), ([], []), ([], []), ([], []), ([], []), e2, e3, ([], []), ([id], []), ([], []), ([], []), ([], []), ([], [g3.length]), ([g3.length], [g3.length]), ([], [])] = true := by
        simp [disjAll, p5, p6a, p6b, p6c]
        simp [disj2, Ne.symm hidn]
      have fe := F_slices_Equal_Message_val K K K.isEmpty K.isEmpty (by omega) (fun x y h k => by rw [eqs_Me, Bool.true_xor])
      rw [eW0] at *
      rw [← hK] at fk2
      simp -implicitDefEqProofs only [← hA, ← hK, ez, Bool.not_true, Bool.false_eq_true, if_false, bs, t_law41_NetworkKnows_35, t_law41_NetworkKnows_34, callK_F, c1, d1, fcE, fk2, d_law41_NetworkKnows_13, d_law41_NetworkKnows_16, d_law41_NetworkKnows_18, callE_F, gE, effD_ro, p1, cv, lenK_lst, List.length_map, rk, p2, p3, kl, bxD, stD, dj, cond_true, tp, tq, fcI, t_law41_NetworkKnows_15, fD, bxK, stK, eqK_int, beq_self_eq_true, Bool.true_xor, grpK_ff, t_law41_NetworkKnows_36, fe, decide_true, notK_bool, condK_bool, ld6]
      have hmem : ∀ m, m ∈ K ↔ ∃ e ∈ E, e.msg = m := fun m => by rw [hK, hE]; exact mem_kn z
      have hcm : ∀ m ∈ K, m ∈ C := fun m hm => by
        obtain ⟨e, he, rfl⟩ := (hmem m).1 hm
        rw [hC]
        rw [hE] at he
        obtain ⟨⟨s, hs, hs2⟩, ht⟩ := mem_toL.1 he
        exact (mem_kn zc).2 ⟨e, mem_toL.2 ⟨⟨s, List.mem_append_left _ hs, hs2⟩, ht⟩, rfl⟩
      have hsrt : normL K = K := by rw [hK, kd]; exact normL_of_srt (normL_srt _)
      have hok : errM K = 0 := by rw [hK]; exact kn_ok z
      refine Knows_L2 (K := K) (E := E) (b := K.isEmpty) (b2 := E.isEmpty) (by omega) (by omega) (fun e he => (hmem _).2 ⟨e, he, rfl⟩) (fun h i1 i2 => ?_) NN 0 h6 (by omega) (by have := NN_ge; omega) hc6 hd6
      have fcM := fun h => F_slices_Clone_Message_val K true (by omega) h
      simp only [SL, Bool.true_and] at fcM
      have fN := F_document_Normal_at K (b := true) (by omega) (h := h) (v := .lst 7 K.isEmpty (K.map encM)) (a := .lst 7 K.isEmpty (K.map encM)) rfl rfl
      have nV : normR true K = .tup [.lst 7 K.isEmpty (K.map encM), I 0] := by unfold normR; rw [hok, if_pos rfl, hsrt]; rfl
      rw [nV] at fN
      have fa := know_all (K := K) (C := C) (E := E) (b0 := K.isEmpty) (b := C.isEmpty) (b2 := E.isEmpty) (by omega) (by omega) (by omega) i1 i2 (fun m hm => ⟨hcm m hm, (hmem m).1 hm⟩)
      simp -implicitDefEqProofs only [f_law41_NetworkKnows_j1, t_law41_NetworkKnows_39, t_law41_NetworkKnows_38, t_law41_NetworkKnows_36, t_law41_NetworkKnows_40, callK_F, fcM, fN, tp, tq, eqK_int, beq_self_eq_true, Bool.false_xor, grpK_tt, fe, decide_true, fa, notK_bool, Bool.not_false]
      rfl
    · have ez : ((knS l sch node).2 == 0) = false := by simpa using z
      have hz := kn_zero z
      have ll : ∀ k : Go.AM.K AV, lenK (knW l sch node) k = k (I 0) := fun k => by
        rcases (knW_form l sch node).1 with e | ⟨x, e⟩
        · rw [e]; rfl
        · rw [e, hz]; rfl
      simp -implicitDefEqProofs only [ez, Bool.not_false, if_true, ll, eqK_int, Bool.false_xor]
      rfl
  · have e : (!fewS l sch || ((l.length : Int) == 0)) = true := by
      cases hf : fewS l sch with
      | false => simp
      | true =>
        have : l.length = 0 := Classical.byContradiction fun h => hb ⟨hf, h⟩
        simp [this]
    simp only [e, if_true]
    rfl
end Go.AM


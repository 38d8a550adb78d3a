import Derived.Test.YtflcobokgfellaaG4
import Derived.Below
import Derived.ChangeOld
import Derived.Carry
import Derived.OpenShut
set_option linter.unusedSectionVars false
set_option linter.unusedVariables false
set_option linter.unusedSimpArgs false
set_option linter.constructorNameAsVariable false
namespace Go.AM
open Go.Proofs
set_option linter.unusedVariables false
set_option linter.unusedSimpArgs false
set_option linter.constructorNameAsVariable false
set_option maxRecDepth 20000
attribute [local congr] arithK_cg eqK_cg notK_cg convK_cg pickK_cg buildK_cg ldK_cg nilK_cg sliceK_cg faK_cg fldK_cg iaK_cg iaA_cg lookK_cg capK_cg exK_cg lenK_cg minK_cg maxK_cg effK_cg callK_cg callVK_cg effD_cg gopD_cg grpK_cg condK_cg cond_cg
theorem fstP_len : ∀ (r : List Int) (c : List (Int × Int)) (n : Nat), (fstP c n r).length ≤ c.length + r.length
  | [], c, n => by simp [fstP]
  | s :: r, c, n => by
    have h1 := fstP_len r c (n + 1)
    have h2 := fstP_len r (c ++ [(s, (n : Int))]) (n + 1)
    rw [List.length_append] at h2
    simp only [fstP, List.length_cons, List.length_nil] at h2 ⊢
    split <;> omega
def lostA (c : List (Int × Int)) (n : Nat) : List Int := ((List.range n).filter fun i : Nat => !hasK c (i : Int)).map fun i : Nat => (i : Int)
theorem lostA_succ (c : List (Int × Int)) (n : Nat) : lostA c (n + 1) = if hasK c (n : Int) = true then lostA c n else lostA c n ++ [(n : Int)] := by
  unfold lostA
  rw [List.range_succ, List.filter_append, List.map_append]
  cases h : hasK c (n : Int) <;> simp [h]
theorem lostA_len (c : List (Int × Int)) (n : Nat) : (lostA c n).length ≤ n := by
  unfold lostA
  rw [List.length_map]
  exact Nat.le_trans (List.length_filter_le _ _) (by simp)
def lostS (l : List Envl) (sch : List Int) : List Int × Int := if askS l sch ≠ 0 then ([], askS l sch) else (lostA (fstS sch) l.length, 0)
theorem Lost_L2 {T : Tab} {D : DTab} {N : Nat} {x0 : AV → Hp → Option AV} {X : Option AV} {c : List (Int × Int)} {m : Nat} (hm : m < 100000) (hx : ∀ v h, Gro 1 enI h v (lostA c m) → x0 v h = X) : ∀ (n i : Nat) (v : AV) (h : Hp), i ≤ m → m < i + n → Gro 1 enI h v (lostA c i) → (∀ k, idOf v = some k → k ≠ 0) → h[0]? = some (.map (kvI c)) →
    f_network_Lost_L2 Try.prog T D N x0 n (.mp 0) v (I m) (I i) h = X := by
  intro n
  induction n with
  | zero => intro i v h h1 h2; omega
  | succ n ih =>
    intro i v h h1 h2 G hv h0
    show f_network_Lost_b2 Try.prog T D N (f_network_Lost_L2 Try.prog T D N x0 n) x0 _ _ _ _ h = _
    rcases Nat.lt_or_ge i m with hi | hi
    · have hlt : ((i : Int) < (m : Int)) := by omega
      have hw : IntKind.i64.wrap ((i : Int) + 1) = ((i + 1 : Nat) : Int) := by rw [wrap64 (by omega) (by omega)]; omega
      obtain ⟨lv, lk⟩ := lookI (z := .s (.int .i64 0)) (n := (i : Int)) Try.underlying3 h0
      have e0 : ∀ k : Go.AM.K AV, exK (.tup [lv, B (hasK c i)]) 0 k = k lv := fun k => rfl
      have e1 : ∀ k : Go.AM.K AV, exK (.tup [lv, B (hasK c i)]) 1 k = k (B (hasK c i)) := fun k => rfl
      have hsn := lostA_succ c i
      have hal := lostA_len c i
      simp -implicitDefEqProofs only [f_network_Lost_b2, arithK_lss, hlt, decide_true, condK_bool, if_true, lk, e0, e1, notK_bool]
      cases hk : hasK c (i : Int) with
      | true =>
        rw [hk, if_pos rfl] at hsn
        simp -implicitDefEqProofs only [Bool.not_true, Bool.false_eq_true, if_false, f_network_Lost_j4, f_network_Lost_j3, arithK_add, hw]
        exact ih (i + 1) v h hi (by omega) (by rw [hsn]; exact G) hv h0
      | false =>
        rw [hk, if_neg (by simp)] at hsn
        have bs : ∀ k : AV → Hp → Option AV, effK (bsE 1 [.s (.int .i64 0)] 1 [(0, I i)] h.length) h k = k (.sl 1 h.length 0 1 1 true) (h ++ [.arr 1 [[I i]] true false]) := fun k => by simp [bsE, fillS, effK, ap]
        obtain ⟨v', h', q1, q2, q3, q4, q5⟩ := Gro.snoc AV (G.app [.arr 1 [[I i]] true false]) (by_ := 8) (m := h.length) (z := (i : Int)) (b := true) (by rw [get_new0]; rfl) (fun hk => by have := G.lt hk; omega) (fun x _ => rfl) (by omega)
        have h0l : 0 < h.length := (List.getElem?_eq_some_iff.1 h0).1
        simp -implicitDefEqProofs only [Bool.not_false, if_true, bs, q1, f_network_Lost_j4, f_network_Lost_j3, arithK_add, hw]
        refine ih (i + 1) v' h' hi (by omega) (by rw [hsn]; exact q2) (fun k hk => ?_) (q4 0 _ (get_app h0) fun hk => hv 0 hk rfl)
        rcases q5 with e | e
        · exact hv k (e ▸ hk)
        · rw [e] at hk; simp at hk; omega
    · have : i = m := by omega
      subst this
      have c1 : ¬ ((i : Int) < (i : Int)) := by omega
      simp -implicitDefEqProofs only [f_network_Lost_b2, arithK_lss, c1, decide_false, condK_bool, Bool.false_eq_true, if_false]
      exact hx v h G
theorem Lost_run (l : List Envl) (b : Bool) (sch : List Int) (b2 : Bool) (hl : l.length < 1000000) (hs : sch.length < 1000000) : ∃ w, (∀ st, f_network_Lost Try.prog t_network_Lost d_network_Lost NN (fun v g => cvt st g v) (.lst 10 b (l.map encV)) (.lst 1 b2 (sch.map enI)) [] = some (.tup [w, I (lostS l sch).2])) ∧ nrm (.l 1) w = .lst 1 (lostS l sch).1.isEmpty ((lostS l sch).1.map enI) := by
  have fa := F_network_asked_val l b sch b2 hl hs
  simp -implicitDefEqProofs only [f_network_Lost, t_network_Lost_53, callK_F, fa, eqK_int, Bool.true_xor, condK_bool]
  by_cases q : askS l sch = 0
  · have e1 : (askS l sch == 0) = true := by simpa using q
    obtain ⟨-, k1, k2, k3⟩ := askS_ok q
    obtain ⟨h', f1, f2⟩ := firsts_run (l := l) (b := b) (sch := sch) (b2 := b2) (by omega) k3
    have hS : lostS l sch = (lostA (fstS sch) l.length, 0) := if_neg (by simp [q])
    rw [hS]
    simp -implicitDefEqProofs only [e1, Bool.not_true, Bool.false_eq_true, if_false, t_network_Lost_54, callK_F, f1, lenK_lst, List.length_map]
    by_cases hz : lostA (fstS sch) l.length = []
    · refine ⟨nilS, fun st => Lost_L2 (c := fstS sch) (by omega) (fun v h G => ?_) NN 0 nilS h' (by omega) (by have := NN_ge; omega) .nil (by simp) f2, by rw [hz]; rfl⟩
      rw [hz] at G
      rcases G with ⟨-, rfl⟩ | ⟨h1, -⟩
      · rfl
      · exact absurd rfl h1
    · refine ⟨.lst 1 false ((lostA (fstS sch) l.length).map enI), fun st => Lost_L2 (c := fstS sch) (by omega) (fun v h G => ?_) NN 0 nilS h' (by omega) (by have := NN_ge; omega) .nil (by simp) f2, ?_⟩
      · rcases G with ⟨h1, -⟩ | ⟨h1, k, rfl, h2⟩
        · exact absurd h1 hz
        · have := cvt_whole (st := st) (full := false) h2 (n := (lostA (fstS sch) l.length).length) (fr := (lostA (fstS sch) l.length).length) (by simp) (by simp) (okE_map fun x => by cases st <;> simp [isS])
          simp only [f_network_Lost_j1, cvt_tup, cvts_cons, cvts_nil, this, cvt_s]
          rfl
      · have : (lostA (fstS sch) l.length).isEmpty = false := by simpa using hz
        rw [this]; rfl
  · have e1 : (askS l sch == 0) = false := by simpa using q
    have hS : lostS l sch = ([], askS l sch) := if_pos q
    rw [hS]
    exact ⟨nilS, fun st => by simp only [e1, Bool.not_false, if_true]; rfl, rfl⟩
theorem F_network_Lost_val (l : List Envl) (b : Bool) (sch : List Int) (b2 : Bool) (hl : l.length < 1000000) (hs : sch.length < 1000000) (h : Hp) : F_network_Lost [.lst 10 b (l.map encV), .lst 1 b2 (sch.map enI)] h = some (.tup [.lst 1 (lostS l sch).1.isEmpty ((lostS l sch).1.map enI), I (lostS l sch).2], h) := by
  obtain ⟨w, w1, w2⟩ := Lost_run l b sch b2 hl hs
  refine (F_network_Lost_run (a0 := .lst 10 b (l.map encV)) (a1 := .lst 1 b2 (sch.map enI)) rfl (w1 false) h).trans ?_
  show some (AV.tup [nrm (.l 1) w, I (lostS l sch).2], h) = _
  rw [w2]
theorem F_network_Lost_at (l : List Envl) (b : Bool) (sch : List Int) {b2 : Bool} (hl : l.length < 1000000) (hs : sch.length < 1000000) {h : Hp} {v a : AV} (hv : cvt false h v = some a) (ha : nrm (.l 1) a = .lst 1 b2 (sch.map enI)) : F_network_Lost [.lst 10 b (l.map encV), v] h = some (.tup [.lst 1 (lostS l sch).1.isEmpty ((lostS l sch).1.map enI), I (lostS l sch).2], h) := by
  obtain ⟨w, w1, w2⟩ := Lost_run l b sch b2 hl hs
  refine (F_network_Lost_own (a0 := .lst 10 b (l.map encV)) (a1 := a) (by simp only [cvts_cons, cvts_nil, hv]; rfl) (fun st => by rw [ha]; exact w1 st)).trans ?_
  show some (AV.tup [nrm (.l 1) w, I (lostS l sch).2], h) = _
  rw [w2]
def repS (l : List Envl) (sch : List Int) : Int × Int := if askS l sch ≠ 0 then (0, askS l sch) else ((sch.length : Int) - (fstS sch).length, 0)
theorem F_network_Repeated_val (l : List Envl) (b : Bool) (sch : List Int) (b2 : Bool) (hl : l.length < 1000000) (hs : sch.length < 1000000) (h : Hp) : F_network_Repeated [.lst 10 b (l.map encV), .lst 1 b2 (sch.map enI)] h = some (tupP (repS l sch), h) := by
  have fa := F_network_asked_val l b sch b2 hl hs
  refine (F_network_Repeated_run (a0 := .lst 10 b (l.map encV)) (a1 := .lst 1 b2 (sch.map enI)) (v := tupP (repS l sch)) rfl ?_ h).trans rfl
  simp only [nrm, nrmC]
  simp -implicitDefEqProofs only [f_network_Repeated, t_network_Repeated_53, callK_F, fa, eqK_int, Bool.true_xor, condK_bool]
  by_cases q : askS l sch = 0
  · have e1 : (askS l sch == 0) = true := by simpa using q
    obtain ⟨-, k1, k2, k3⟩ := askS_ok q
    obtain ⟨h', f1, f2⟩ := firsts_run (l := l) (b := b) (sch := sch) (b2 := b2) (by omega) k3
    have hS : repS l sch = ((sch.length : Int) - (fstS sch).length, 0) := if_neg (by simp [q])
    have hfl : (fstS sch).length ≤ sch.length := by simpa using fstP_len sch [] 0
    have lm : ∀ k : Go.AM.K AV, lenM (.mp 0) h' k = k (I (fstS sch).length) := fun k => by
      unfold lenM
      simp only [f2]
      rw [kvI, List.length_map]
    have hw : IntKind.i64.wrap ((sch.length : Int) - ((fstS sch).length : Int)) = (sch.length : Int) - ((fstS sch).length : Int) := wrap64 (by omega) (by omega)
    rw [hS]
    simp -implicitDefEqProofs only [e1, Bool.not_true, Bool.false_eq_true, if_false, t_network_Repeated_54, callK_F, f1, lenK_lst, List.length_map, lm, arithK_sub, hw]
    rfl
  · have e1 : (askS l sch == 0) = false := by simpa using q
    have hS : repS l sch = (0, askS l sch) := if_pos q
    rw [hS]
    simp only [e1, Bool.not_false, if_true]
    rfl
theorem sum_rm {g : Nat → Int} {j : Nat} : ∀ {L : List Nat}, L.Nodup → j ∈ L → ((L.filter fun i => i != j).map g).sum + g j = (L.map g).sum
  | x :: L, hn, hj => by
    rw [List.nodup_cons] at hn
    by_cases e : x = j
    · subst e
      have : L.filter (fun i => i != x) = L := List.filter_eq_self.2 fun y hy => by
        simp only [bne_iff_ne, ne_eq]
        rintro rfl
        exact hn.1 hy
      rw [List.filter_cons_of_neg (by simp), this, List.map_cons, List.sum_cons]
      omega
    · have hj2 : j ∈ L := by
        rcases List.mem_cons.1 hj with h | h
        · exact absurd h.symm e
        · exact h
      have ih := sum_rm (g := g) hn.2 hj2
      rw [List.filter_cons_of_pos (by simpa using e), List.map_cons, List.sum_cons, List.map_cons, List.sum_cons]
      omega
theorem left_snoc {n j : Nat} {seen : List Nat} : leftIt n (seen ++ [j]) = (leftIt n seen).filter fun i => i != j := by
  unfold leftIt
  rw [List.filter_filter]
  congr 1
  funext i
  simp [List.contains_append]
  by_cases e : i = j <;> simp [e]
theorem left_sum {g : Nat → Int} {n j : Nat} {seen : List Nat} (hj : j ∈ leftIt n seen) : ((leftIt n (seen ++ [j])).map g).sum + g j = ((leftIt n seen).map g).sum := by
  rw [left_snoc]
  exact sum_rm (List.nodup_range.sublist List.filter_sublist) hj
theorem Kept.trans {h h1 h2 : Hp} {k : Nat} (a : Kept h h1 k) (b : Kept h1 h2 k) : Kept h h2 k := ⟨by have := a.len; have := b.len; omega, fun j h1 h2 => by rw [b.same j h1 (by have := a.len; omega), a.same j h1 h2]⟩
def crG (c : List (Int × Int)) (i a : Int) (j : Nat) : Int := match c[j]? with | some e => if i < e.1 ∧ a > e.2 then 1 else 0 | none => 0
def crRow (c : List (Int × Int)) (i a : Int) : Int := ((List.range c.length).map (crG c i a)).sum
def crF (c : List (Int × Int)) (j : Nat) : Int := match c[j]? with | some e => crRow c e.1 e.2 | none => 0
def crN (c : List (Int × Int)) : Int := ((List.range c.length).map (crF c)).sum
theorem crG_bd (c : List (Int × Int)) (i a : Int) (j : Nat) : 0 ≤ crG c i a j ∧ crG c i a j ≤ 1 := by
  unfold crG
  cases c[j]? with
  | none => simp
  | some e => dsimp only; split <;> simp
theorem sum_bd {g : Nat → Int} {m : Int} (hg : ∀ j, 0 ≤ g j ∧ g j ≤ m) : ∀ L : List Nat, 0 ≤ (L.map g).sum ∧ (L.map g).sum ≤ m * L.length
  | [] => by simp
  | x :: L => by
    have h1 := hg x
    have h2 := sum_bd hg L
    simp only [List.map_cons, List.sum_cons, List.length_cons]
    have e : m * ((L.length + 1 : Nat) : Int) = m * (L.length : Int) + m := by push_cast; rw [Int.mul_add, Int.mul_one]
    rw [e]
    omega
theorem crRow_bd (c : List (Int × Int)) (i a : Int) : 0 ≤ crRow c i a ∧ crRow c i a ≤ c.length := by
  have := sum_bd (crG_bd c i a) (List.range c.length)
  rw [List.length_range, Int.one_mul] at this
  exact this
theorem cross_L5 {T : Tab} {D : DTab} {N : Nat} {x2 : AV → AV → AV → Hp → Option AV} {X : Option AV} {c : List (Int × Int)} {i a : Int} {v23 : AV} {it : Nat} (hit : it ≠ 0) : ∀ (n : Nat) (seen : List Nat) (cnt : Int) (h : Hp), (leftIt c.length seen).length < n → h[it]? = some (.iter 0 c.length seen) → h[0]? = some (.map (kvI c)) → 0 ≤ cnt → cnt + (leftIt c.length seen).length ≤ 1000000 →
    (∀ h', Kept h h' it → x2 (.mp 0) (I (cnt + ((leftIt c.length seen).map (crG c i a)).sum)) v23 h' = X) →
    f_network_Crossed_L5 Try.prog T D N x2 n (.mp 0) (I cnt) (I i) (I a) v23 (.it it) h = X := by
  intro n
  induction n with
  | zero => intro seen cnt h h1; omega
  | succ n ih =>
    intro seen cnt h h1 h2 h3 h4 h5 hx
    show f_network_Crossed_b5 Try.prog T D N (f_network_Crossed_L5 Try.prog T D N x2 n) x2 _ _ _ _ _ _ h = _
    unfold f_network_Crossed_b5
    refine nextK_of h2 h3 (by rw [kvI, List.length_map]) _ (fun e => ?_) (fun j hj => ?_)
    · have := hx h (.refl h it)
      rw [e] at this
      simp only [List.map_nil, List.sum_nil, Int.add_zero] at this
      have e0 : ∀ k : Go.AM.K AV, exK (.tup [.s (.bool false)]) 0 k = k (B false) := fun k => rfl
      simp -implicitDefEqProofs only [e0, condK_bool, Bool.false_eq_true, if_false]
      exact this
    · have hjm := leftIt_mem.1 hj
      have hl := leftIt_snoc hj
      have hsum := left_sum (g := crG c i a) hj
      have hcj : c[j]? = some c[j] := List.getElem?_eq_getElem hjm.1
      have hg : crG c i a j = if i < c[j].1 ∧ a > c[j].2 then 1 else 0 := by unfold crG; rw [hcj]
      generalize c[j] = e at hcj hg
      have hset : (h.set it (.iter 0 c.length (seen ++ [j])))[it]? = some (.iter 0 c.length (seen ++ [j])) := getSelfN h2
      have hm : (h.set it (.iter 0 c.length (seen ++ [j])))[0]? = some (.map (kvI c)) := getSetN h3 hit
      have hkv : (kvI c)[j]? = some (Value.int .i64 e.1, I e.2) := by rw [kvI, List.getElem?_map, hcj]; rfl
      have en := fun k : Go.AM.K AV => entryK_at hset hm (by rw [kvI, List.length_map]) hkv k
      have kept : Kept h (h.set it (.iter 0 c.length (seen ++ [j]))) it := (Kept.refl h it).set _
      have e0 : ∀ (y z : AV) (k : Go.AM.K AV), exK (.tup [.s (.bool true), y, z]) 0 k = k (B true) := fun y z k => rfl
      have x0 : ∀ k : Go.AM.K AV, exK (.tup [keyAV (Value.int .i64 e.1), I e.2]) 0 k = k (I e.1) := fun k => rfl
      have x1 : ∀ k : Go.AM.K AV, exK (.tup [keyAV (Value.int .i64 e.1), I e.2]) 1 k = k (I e.2) := fun k => rfl
      generalize h.set it (.iter 0 c.length (seen ++ [j])) = h' at *
      simp -implicitDefEqProofs only [e0, condK_bool, if_true, en, x0, x1, arithK_lss, arithK_gtr, grpK_and]
      by_cases q : i < e.1 ∧ a > e.2
      · rw [if_pos q] at hg
        have d : (decide (i < e.1) && decide (a > e.2)) = true := by simp [q.1]; omega
        have hw : IntKind.i64.wrap (cnt + 1) = cnt + 1 := wrap64 (by omega) (by omega)
        simp -implicitDefEqProofs only [d, if_true, arithK_add, hw, f_network_Crossed_j6]
        refine ih (seen ++ [j]) (cnt + 1) h' (by omega) hset hm (by omega) (by omega) fun h'' hk => ?_
        have := hx h'' (kept.trans hk)
        rw [← hsum, hg] at this
        rw [show cnt + 1 + ((leftIt c.length (seen ++ [j])).map (crG c i a)).sum = cnt + (((leftIt c.length (seen ++ [j])).map (crG c i a)).sum + 1) by omega]
        exact this
      · rw [if_neg q] at hg
        have d : (decide (i < e.1) && decide (a > e.2)) = false := by
          rw [Bool.eq_false_iff]
          intro h
          simp only [Bool.and_eq_true, decide_eq_true_eq] at h
          exact q h
        simp -implicitDefEqProofs only [d, Bool.false_eq_true, if_false, f_network_Crossed_j6]
        refine ih (seen ++ [j]) cnt h' (by omega) hset hm h4 (by omega) fun h'' hk => ?_
        have := hx h'' (kept.trans hk)
        rw [← hsum, hg, Int.add_zero] at this
        exact this
theorem cross_L2 {T : Tab} {D : DTab} {x0 : AV → Hp → Option AV} {X : Option AV} {c : List (Int × Int)} (hc : c.length ≤ 256) {o : Nat} (ho : o ≠ 0) : ∀ (n : Nat) (seen : List Nat) (cnt : Int) (h : Hp), (leftIt c.length seen).length < n → h[o]? = some (.iter 0 c.length seen) → h[0]? = some (.map (kvI c)) → 0 ≤ cnt → cnt + 256 * (leftIt c.length seen).length ≤ 100000 →
    (∀ h', x0 (I (cnt + ((leftIt c.length seen).map (crF c)).sum)) h' = X) →
    f_network_Crossed_L2 Try.prog T D NN x0 n (.mp 0) (I cnt) (.it o) h = X := by
  intro n
  induction n with
  | zero => intro seen cnt h h1; omega
  | succ n ih =>
    intro seen cnt h h1 h2 h3 h4 h5 hx
    show f_network_Crossed_b2 Try.prog T D NN (f_network_Crossed_L2 Try.prog T D NN x0 n) x0 _ _ _ h = _
    unfold f_network_Crossed_b2
    refine nextK_of h2 h3 (by rw [kvI, List.length_map]) _ (fun e => ?_) (fun j hj => ?_)
    · have := hx h
      rw [e] at this
      simp only [List.map_nil, List.sum_nil, Int.add_zero] at this
      have e0 : ∀ k : Go.AM.K AV, exK (.tup [.s (.bool false)]) 0 k = k (B false) := fun k => rfl
      simp -implicitDefEqProofs only [e0, condK_bool, Bool.false_eq_true, if_false]
      exact this
    · have hjm := leftIt_mem.1 hj
      have hl := leftIt_snoc hj
      have hsum := left_sum (g := crF c) hj
      have hcj : c[j]? = some c[j] := List.getElem?_eq_getElem hjm.1
      have hg : crF c j = crRow c c[j].1 c[j].2 := by unfold crF; rw [hcj]
      generalize c[j] = e at hcj hg
      have hset : (h.set o (.iter 0 c.length (seen ++ [j])))[o]? = some (.iter 0 c.length (seen ++ [j])) := getSelfN h2
      have hm : (h.set o (.iter 0 c.length (seen ++ [j])))[0]? = some (.map (kvI c)) := getSetN h3 ho
      have hkv : (kvI c)[j]? = some (Value.int .i64 e.1, I e.2) := by rw [kvI, List.getElem?_map, hcj]; rfl
      have en := fun k : Go.AM.K AV => entryK_at hset hm (by rw [kvI, List.length_map]) hkv k
      have e0 : ∀ (y z : AV) (k : Go.AM.K AV), exK (.tup [.s (.bool true), y, z]) 0 k = k (B true) := fun y z k => rfl
      have y0 : ∀ k : Go.AM.K AV, exK (.tup [keyAV (Value.int .i64 e.1), I e.2]) 0 k = k (I e.1) := fun k => rfl
      have y1 : ∀ k : Go.AM.K AV, exK (.tup [keyAV (Value.int .i64 e.1), I e.2]) 1 k = k (I e.2) := fun k => rfl
      generalize h.set o (.iter 0 c.length (seen ++ [j])) = h' at *
      have hol : o < h'.length := (List.getElem?_eq_some_iff.1 hset).1
      have h0l : 0 < h'.length := (List.getElem?_eq_some_iff.1 hm).1
      have rg : ∀ k : AV → Hp → Option AV, effK (rngE (.mp 0) h' h'.length) h' k = k (.it h'.length) (h' ++ [.iter 0 c.length []]) := fun k => by
        unfold rngE
        simp only [hm]
        rw [kvI, List.length_map]
        rfl
      have hl0 : leftIt c.length [] = List.range c.length := by unfold leftIt; exact List.filter_eq_self.2 fun x _ => by simp
      have hrb := crRow_bd c e.1 e.2
      simp -implicitDefEqProofs only [e0, condK_bool, if_true, en, y0, y1, rg]
      refine cross_L5 (it := h'.length) (by omega) NN [] cnt (h' ++ [.iter 0 c.length []]) (by rw [hl0, List.length_range]; have := NN_ge; omega) (by rw [get_new0]; rfl) (get_app hm) h4 (by rw [hl0, List.length_range]; omega) fun h'' hk => ?_
      rw [hl0]
      show f_network_Crossed_j4 Try.prog T D NN (f_network_Crossed_L2 Try.prog T D NN x0 n) x0 (.mp 0) (I (cnt + crRow c e.1 e.2)) (.it o) h'' = X
      have hk' : ∀ j < h'.length, h''[j]? = h'[j]? := fun j hj => by rw [hk.same j (by omega) (by simp; omega), List.getElem?_append_left hj]
      simp -implicitDefEqProofs only [f_network_Crossed_j4, f_network_Crossed_j3]
      refine ih (seen ++ [j]) (cnt + crRow c e.1 e.2) h'' (by omega) (by rw [hk' o hol]; exact hset) (by rw [hk' 0 h0l]; exact hm) (by omega) (by omega) fun h3 => ?_
      have := hx h3
      rw [← hsum, hg] at this
      rw [show cnt + crRow c e.1 e.2 + ((leftIt c.length (seen ++ [j])).map (crF c)).sum = cnt + (((leftIt c.length (seen ++ [j])).map (crF c)).sum + crRow c e.1 e.2) by omega]
      exact this
def croS (l : List Envl) (sch : List Int) : Int × Int := if askS l sch ≠ 0 then (0, askS l sch) else (crN (fstS sch), 0)
theorem Crossed_key (l : List Envl) (b : Bool) (sch : List Int) (b2 : Bool) (hl : l.length < 1000000) (hs : sch.length < 1000000) (st : Bool) : f_network_Crossed Try.prog t_network_Crossed d_network_Crossed NN (fun v g => cvt st g v) (.lst 10 b (l.map encV)) (.lst 1 b2 (sch.map enI)) [] = some (tupP (croS l sch)) := by
  have fa := F_network_asked_val l b sch b2 hl hs
  simp -implicitDefEqProofs only [f_network_Crossed, t_network_Crossed_53, callK_F, fa, eqK_int, Bool.true_xor, condK_bool]
  by_cases q : askS l sch = 0
  · have e1 : (askS l sch == 0) = true := by simpa using q
    obtain ⟨-, k1, k2, k3⟩ := askS_ok q
    obtain ⟨h', f1, f2⟩ := firsts_run (l := l) (b := b) (sch := sch) (b2 := b2) (by omega) k3
    have hS : croS l sch = (crN (fstS sch), 0) := if_neg (by simp [q])
    have hfl : (fstS sch).length ≤ sch.length := by simpa using fstP_len sch [] 0
    have h0l : 0 < h'.length := (List.getElem?_eq_some_iff.1 f2).1
    have rg : ∀ k : AV → Hp → Option AV, effK (rngE (.mp 0) h' h'.length) h' k = k (.it h'.length) (h' ++ [.iter 0 (fstS sch).length []]) := fun k => by
      unfold rngE
      simp only [f2]
      rw [kvI, List.length_map]
      rfl
    have hl0 : leftIt (fstS sch).length [] = List.range (fstS sch).length := by unfold leftIt; exact List.filter_eq_self.2 fun x _ => by simp
    rw [hS]
    simp -implicitDefEqProofs only [e1, Bool.not_true, Bool.false_eq_true, if_false, t_network_Crossed_54, callK_F, f1, rg]
    refine cross_L2 (c := fstS sch) (by omega) (o := h'.length) (by omega) NN [] 0 _ (by rw [hl0, List.length_range]; have := NN_ge; omega) (by rw [get_new0]; rfl) (get_app f2) (by omega) (by rw [hl0, List.length_range]; omega) fun h'' => ?_
    rw [hl0, Int.zero_add]
    rfl
  · have e1 : (askS l sch == 0) = false := by simpa using q
    have hS : croS l sch = (0, askS l sch) := if_pos q
    rw [hS]
    simp only [e1, Bool.not_false, if_true]
    rfl
theorem scal_P (r : Int × Int) : scal (tupP r) = true := rfl
theorem F_network_Repeated_at (l : List Envl) (b : Bool) (sch : List Int) {b2 : Bool} (hl : l.length < 1000000) (hs : sch.length < 1000000) {h : Hp} {v a : AV} (hv : cvt false h v = some a) (ha : nrm (.l 1) a = .lst 1 b2 (sch.map enI)) : F_network_Repeated [.lst 10 b (l.map encV), v] h = some (tupP (repS l sch), h) :=
  closedX_scal' (as' := [.lst 10 b (l.map encV), a]) (asl := [.lst 10 b (l.map encV), .lst 1 b2 (sch.map enI)]) (by simp only [cvts_cons, cvts_nil, hv]; rfl) (by simp only [nrms, ha]; rfl) rfl (F_network_Repeated_val l b sch b2 hl hs []) (scal_P _)
theorem F_network_Crossed_at (l : List Envl) (b : Bool) (sch : List Int) {b2 : Bool} (hl : l.length < 1000000) (hs : sch.length < 1000000) {h : Hp} {v a : AV} (hv : cvt false h v = some a) (ha : nrm (.l 1) a = .lst 1 b2 (sch.map enI)) : F_network_Crossed [.lst 10 b (l.map encV), v] h = some (tupP (croS l sch), h) :=
  F_network_Crossed_own (a0 := .lst 10 b (l.map encV)) (a1 := a) (by simp only [cvts_cons, cvts_nil, hv]; rfl) fun st => by rw [ha]; exact Crossed_key l b sch b2 hl hs st
end Go.AM


namespace Go.AM
open Go.Proofs
set_option linter.unusedVariables false
set_option linter.unusedSimpArgs false
set_option linter.constructorNameAsVariable false
set_option maxRecDepth 20000
section
variable {β : Type} {P : Program} {T : Tab} {D : DTab} {N : Nat} {K : AV → Hp → Option β}
theorem Index_Message_L2 {T : Tab} {D : DTab} {N : Nat} {x0 : Hp → Option β} {xr : AV → Hp → Option β} {l : List Msg} {b : Bool} {v : Msg} {h : Hp} {m : Nat} (hm : h[m]? = some (.arr 7 [encM v] true false)) (hl : l.length < 4611686018427387904) (heq : ∀ (x y : Msg) (h : Hp) (k : Go.AM.K β), eqK Try.prog false 31 (.agg (encM x)) (.agg (encM y)) h k = k (B (x == y))) :
    ∀ (n i : Nat), i ≤ l.length → l.length < i + n → f_slices_Index_Message_L2 Try.prog T D N x0 xr n (.lst 7 b (l.map encM)) (.ptr m 0 0 1) (I l.length) (I i) h = match (l.drop i).findIdx? (fun y => v == y) with | some j => xr (I ((i + j : Nat) : Int)) h | none => x0 h := by
  intro n
  induction n with
  | zero => intro i h1 h2; omega
  | succ n ih =>
    intro i h1 h2
    show f_slices_Index_Message_b2 Try.prog T D N (f_slices_Index_Message_L2 Try.prog T D N x0 xr n) x0 xr _ _ _ _ h = _
    unfold f_slices_Index_Message_b2
    rcases Nat.lt_or_ge i l.length with hi | hi
    · have hx : l[i]? = some l[i] := List.getElem?_eq_getElem hi
      have hlt : ((i : Int) < (l.length : Int)) := by omega
      have hw : IntKind.i64.wrap ((i : Int) + 1) = ((i + 1 : Nat) : Int) := by rw [wrap64 (by omega) (by omega)]; omega
      have hpx := fun k => heq v l[i] h k
      have h3 := ih (i + 1) hi (by omega)
      have ic : ∀ k : Go.AM.K β, iaK 7 (.lst 7 b (l.map encM)) (I i) k = k (.ep (encM l[i]) 0) := fun k => iaK_at i rfl hx k
      have ld : ∀ k : Go.AM.K β, ldK 7 true (.ep (encM l[i]) 0) h k = k ((fun y => .agg (encM y)) l[i]) := fun k => by simp [encM]
      rw [List.drop_eq_getElem_cons hi, List.findIdx?_cons]
      have lv : ∀ k : Go.AM.K β, ldK 7 true (.ptr m 0 0 1) h k = k ((fun x => .agg (encM x)) v) := fun k => by simp [hm, encM]
      dsimp only at h3 ld lv ⊢
      simp only [arithK_lss, hlt, decide_true, condK_bool, if_true, ic, ld, lv, hpx]
      cases hc : (v == l[i]) with
      | true => simp
      | false =>
        simp only [Bool.false_eq_true, if_false, arithK_add, hw]
        refine h3.trans ?_
        cases (List.drop (i + 1) l).findIdx? (fun y => v == y) with
        | none => rfl
        | some j =>
          show xr (I ((i + 1 + j : Nat) : Int)) h = xr (I ((i + (j + 1) : Nat) : Int)) h
          rw [show i + 1 + j = i + (j + 1) by omega]
    · have : i = l.length := by omega
      subst this
      simp
theorem F_slices_Contains_Message_val (l : List Msg) (b : Bool) (v : Msg) (hl : l.length < 1000000) (heq : ∀ (x y : Msg) (h : Hp) (k : Go.AM.K AV), eqK Try.prog false 31 (.agg (encM x)) (.agg (encM y)) h k = k (B (x == y))) (h : Hp) : F_slices_Contains_Message [.lst 7 b (l.map encM), (fun x => .agg (encM x)) v] h = some (B (l.contains v), h) := by
  have e : ∀ h, F_slices_Index_Message [.lst 7 b (l.map encM), (fun x => .agg (encM x)) v] h = some (I (match l.findIdx? (fun y => v == y) with | some j => (j : Int) | none => -1), h) :=
    F_slices_Index_Message_run rfl (by
      have := Index_Message_L2 (l := l) (T := t_slices_Index_Message) (D := d_slices_Index_Message) (N := NN) (b := b) (v := v) (h := [.arr 7 [encM v] true false]) (m := 0) (x0 := fun h => f_slices_Index_Message_j1 Try.prog t_slices_Index_Message d_slices_Index_Message NN (fun v g => cvt false g v) h) (xr := fun a h => cvt false h a) rfl (by omega) heq NN 0 (Nat.zero_le _) (by have := NN_ge; omega)
      have bx : ∀ k : AV → Hp → Option AV, effK (boxE 7 ((fun x => .agg (encM x)) v) ([] : Hp).length) [] k = k (.ptr 0 0 0 1) [.arr 7 [encM v] true false] := fun k => by simp [boxE, encM]
      simp only [nrm, nrmC, f_slices_Index_Message, lenK_lst, List.length_map, bx]
      simp only [List.drop_zero] at this
      refine this.trans ?_
      cases l.findIdx? (fun y => v == y) with
      | none => rfl
      | some j => simp)
  have bx : ∀ k : AV → Hp → Option AV, effK (boxE 7 ((fun x => .agg (encM x)) v) ([] : Hp).length) [] k = k (.ptr 0 0 0 1) [.arr 7 [encM v] true false] := fun k => by simp [boxE, encM]
  have lv : ∀ k : Go.AM.K AV, ldK 7 true (.ptr 0 0 0 1) [.arr 7 [encM v] true false] k = k ((fun x => .agg (encM x)) v) := fun k => by simp [encM]
  refine F_slices_Contains_Message_run rfl ?_ h
  simp only [nrm, nrmC, f_slices_Contains_Message, bx, lv, t_slices_Contains_Message_60, callK_F, e]
  have : l.contains v = (l.findIdx? (fun y => v == y)).isSome := by rw [List.findIdx?_isSome, List.contains_eq_any_beq]
  rw [this]
  cases l.findIdx? (fun y => v == y) <;> simp
end
attribute [local congr] arithK_cg eqK_cg notK_cg convK_cg pickK_cg buildK_cg ldK_cg nilK_cg sliceK_cg faK_cg fldK_cg iaK_cg iaA_cg lookK_cg capK_cg exK_cg lenK_cg minK_cg maxK_cg effK_cg callK_cg callVK_cg effD_cg gopD_cg grpK_cg condK_cg cond_cg
theorem contains_M {o : List Msg} {m : Msg} {h : Hp} {v a : AV} {b : Bool} (hl : o.length < 1000000) (hv : cvt false h v = some a) (ha : nrm (.l 7) a = .lst 7 b (o.map encM)) : F_slices_Contains_Message [v, .agg (encM m)] h = some (B (o.contains m), h) :=
  closedX_scal' (as' := [a, .agg (encM m)]) (asl := [.lst 7 b (o.map encM), .agg (encM m)]) (by simp only [cvts_cons, cvts_nil, hv]; rfl) (by simp only [nrms, ha]; rfl) rfl (F_slices_Contains_Message_val o b m hl (fun x y h k => by rw [eqs_Me, Bool.false_xor]) []) rfl
def uniqM : List Msg → List Envl → List Msg
  | o, [] => o
  | o, e :: r => if o.contains e.msg = true then uniqM o r else uniqM (o ++ [e.msg]) r
theorem uniqM_len : ∀ (r : List Envl) (o : List Msg), (uniqM o r).length ≤ o.length + r.length
  | [], o => by simp [uniqM]
  | e :: r, o => by
    have h1 := uniqM_len r o
    have h2 := uniqM_len r (o ++ [e.msg])
    rw [List.length_append] at h2
    simp only [uniqM, List.length_cons, List.length_nil] at h2 ⊢
    split <;> omega
theorem Known_L2 {E : List Envl} {b : Bool} {base : Nat} (hl : E.length < 100000) : ∀ (n i : Nat) (v : AV) (h : Hp) (o : List Msg), i ≤ E.length → E.length < i + n → Gro 7 encM h v o → o.length ≤ i → (∀ k, idOf v = some k → base ≤ k) → base ≤ h.length →
    ∃ v' h', (∀ {β : Type} (x0 : AV → Hp → Option β), f_network_Known_L2 Try.prog t_network_Known d_network_Known NN x0 n v (.lst 10 b (E.map encV)) (I E.length) (I i) h = x0 v' h') ∧ Gro 7 encM h' v' (uniqM o (E.drop i)) ∧ (∀ j < base, h'[j]? = h[j]?) := by
  intro n
  induction n with
  | zero => intro i v h o h1 h2; omega
  | succ n ih =>
    intro i v h o h1 h2 G ho hv hb
    rcases Nat.lt_or_ge i E.length with hi | hi
    · have hx : E[i]? = some E[i] := List.getElem?_eq_getElem hi
      rw [List.drop_eq_getElem_cons hi]
      generalize E[i] = e at hx
      have hlt : ((i : Int) < (E.length : Int)) := by omega
      have hw : IntKind.i64.wrap ((i : Int) + 1) = ((i + 1 : Nat) : Int) := by rw [wrap64 (by omega) (by omega)]; omega
      obtain ⟨x, hhx⟩ : ∃ x, x = h ++ [AObj.arr 10 [encV e] true false] := ⟨_, rfl⟩
      have Gx : Gro 7 encM x v o := by rw [hhx]; exact G.app _
      obtain ⟨w, w1, w2⟩ := Gx.cvts (fun x st => by cases st <;> simp [encM, isS])
      have fc := contains_M (m := e.msg) (by omega) (w1 false) w2
      have hxl : x.length = h.length + 1 := by rw [hhx]; simp
      simp only [uniqM]
      cases hk : o.contains e.msg with
      | true =>
        rw [if_pos rfl]
        obtain ⟨v', h', a1, a2, a3⟩ := ih (i + 1) v x o hi (by omega) Gx (by omega) hv (by omega)
        refine ⟨v', h', fun {β} x0 => ?_, a2, fun j hj => by rw [a3 j hj, hhx, List.getElem?_append_left (by omega)]⟩
        rw [← a1 x0]
        have ic : ∀ k : Go.AM.K β, iaK 10 (.lst 10 b (E.map encV)) (I i) k = k (.ep (encV e) 0) := fun k => iaK_at i rfl hx k
        have ld : ∀ k : Go.AM.K β, ldK 10 true (.ep (encV e) 0) h k = k (.agg (encV e)) := fun k => rfl
        have ns : ∀ k : AV → Hp → Option β, effK (stE 10 (.ptr h.length 0 0 1) (.agg (encV e)) (h ++ [.arr 10 [zE] true false])) (h ++ [.arr 10 [zE] true false]) k = k .u x := fun k => by rw [hhx]; exact nst k
        have m3 : ∀ k : Go.AM.K β, ldK 7 true (.ptr h.length 0 3 1) x k = k (.agg (encM e.msg)) := fun k => by rw [hhx]; exact nl3 k
        show f_network_Known_b2 Try.prog t_network_Known d_network_Known NN (f_network_Known_L2 Try.prog t_network_Known d_network_Known NN x0 n) x0 _ _ _ _ h = _
        simp -implicitDefEqProofs only [f_network_Known_b2, arithK_lss, hlt, decide_true, condK_bool, if_true, ic, ld, nbx, ns, faK_ptr, Nat.zero_add, m3, t_network_Known_37, callK_F, fc, hk, notK_bool, Bool.not_true, Bool.false_eq_true, if_false, f_network_Known_j4, f_network_Known_j3, arithK_add, hw]
      | false =>
        rw [if_neg (by simp)]
        obtain ⟨v1, e1, g1, g2, g3, g4, g5⟩ := Gro.snocE (f := encM) (sz := 7) (h := x ++ [AObj.arr 7 [encM e.msg] true false]) (Gx.app [AObj.arr 7 [encM e.msg] true false]) (by_ := 56) (m := x.length) (z := e.msg) (b := true) (by rw [get_new0]; rfl) (fun hk => by have := Gx.lt hk; omega) (fun x _ => rfl) (by omega)
        obtain ⟨v', h', a1, a2, a3⟩ := ih (i + 1) v1 (ap (x ++ [.arr 7 [encM e.msg] true false]) e1) (o ++ [e.msg]) hi (by omega) g2 (by simp; omega) (fun k hk => by
          rcases g5 with q | q
          · exact hv k (q ▸ hk)
          · rw [q] at hk; simp at hk; omega) (by simp at g3; omega)
        have kp : ∀ j < base, (ap (x ++ [.arr 7 [encM e.msg] true false]) e1)[j]? = h[j]? := fun j hj => by
          have hjh : j < h.length := by omega
          have hg : h[j]? = some h[j] := List.getElem?_eq_getElem hjh
          rw [hg]
          refine g4 j _ (get_app (by rw [hhx]; exact get_app hg)) fun hk => ?_
          have := hv j hk; omega
        refine ⟨v', h', fun {β} x0 => ?_, a2, fun j hj => by rw [a3 j hj, kp j hj]⟩
        rw [← a1 x0]
        have ic : ∀ k : Go.AM.K β, iaK 10 (.lst 10 b (E.map encV)) (I i) k = k (.ep (encV e) 0) := fun k => iaK_at i rfl hx k
        have ld : ∀ k : Go.AM.K β, ldK 10 true (.ep (encV e) 0) h k = k (.agg (encV e)) := fun k => rfl
        have ns : ∀ k : AV → Hp → Option β, effK (stE 10 (.ptr h.length 0 0 1) (.agg (encV e)) (h ++ [.arr 10 [zE] true false])) (h ++ [.arr 10 [zE] true false]) k = k .u x := fun k => by rw [hhx]; exact nst k
        have m3 : ∀ k : Go.AM.K β, ldK 7 true (.ptr h.length 0 3 1) x k = k (.agg (encM e.msg)) := fun k => by rw [hhx]; exact nl3 k
        have bs : ∀ k : AV → Hp → Option β, effK (bsE 7 zM 1 [(0, .agg (encM e.msg))] x.length) x k = k (.sl 7 x.length 0 1 1 true) (x ++ [.arr 7 [encM e.msg] true false]) := fun k => by simp [bsE, fillS, encM, effK, ap]
        have ae : ∀ k : AV → Hp → Option β, effK (appE 7 56 v (.sl 7 x.length 0 1 1 true) (x ++ [.arr 7 [encM e.msg] true false]) (x ++ [AObj.arr 7 [encM e.msg] true false]).length) (x ++ [.arr 7 [encM e.msg] true false]) k = k v1 (ap (x ++ [.arr 7 [encM e.msg] true false]) e1) := fun k => by rw [g1]; rfl
        show f_network_Known_b2 Try.prog t_network_Known d_network_Known NN (f_network_Known_L2 Try.prog t_network_Known d_network_Known NN x0 n) x0 _ _ _ _ h = _
        simp -implicitDefEqProofs only [f_network_Known_b2, arithK_lss, hlt, decide_true, condK_bool, if_true, ic, ld, nbx, ns, faK_ptr, Nat.zero_add, m3, t_network_Known_37, callK_F, fc, hk, notK_bool, Bool.not_false, bs, ae, f_network_Known_j4, f_network_Known_j3, arithK_add, hw]
    · have : i = E.length := by omega
      subst this
      refine ⟨v, h, fun {β} x0 => ?_, by rw [List.drop_length]; exact G, fun _ _ => rfl⟩
      have c1 : ¬ ((E.length : Int) < (E.length : Int)) := by omega
      show f_network_Known_b2 Try.prog t_network_Known d_network_Known NN (f_network_Known_L2 Try.prog t_network_Known d_network_Known NN x0 n) x0 _ _ _ _ h = _
      simp -implicitDefEqProofs only [f_network_Known_b2, arithK_lss, c1, decide_false, condK_bool, Bool.false_eq_true, if_false]
def knS (l : List Envl) (sch : List Int) (node : Int) : List Msg × Int := if (toS l sch node).2 ≠ 0 then ([], (toS l sch node).2) else if errM (uniqM [] (toS l sch node).1) = 0 then (normL (uniqM [] (toS l sch node).1), 0) else ([], errM (uniqM [] (toS l sch node).1))
theorem toS_len (l : List Envl) (sch : List Int) (node : Int) : (toS l sch node).1.length ≤ sch.length := by
  have := toL_len l sch node
  unfold toS
  split
  · simp
  · split
    · simp
    · exact this
theorem Known_key (l : List Envl) (b : Bool) (sch : List Int) {b2 : Bool} (node : Int) (hl : l.length < 1000000) (hs : sch.length < 100000) {h : Hp} {v a : AV} (hv : cvt false h v = some a) (ha : nrm (.l 1) a = .lst 1 b2 (sch.map enI)) :
    ∃ w h', (∀ {β : Type} (K : AV → Hp → Option β), f_network_Known Try.prog t_network_Known d_network_Known NN K (.lst 10 b (l.map encV)) v (I node) h = K (.tup [w, I (knS l sch node).2]) h') ∧ (w = nilS ∨ ∃ x, w = .lst 7 x ((knS l sch node).1.map encM)) ∧ nrm (.l 7) w = .lst 7 (knS l sch node).1.isEmpty ((knS l sch node).1.map encM) ∧ ∀ j < h.length, h'[j]? = h[j]? := by
  have ft := F_network_to_at l b sch node hl (by omega) hv ha
  have hlen := toS_len l sch node
  by_cases q : (toS l sch node).2 = 0
  · have e1 : ((toS l sch node).2 == 0) = true := by simpa using q
    obtain ⟨E, hE⟩ : ∃ E, E = (toS l sch node).1 := ⟨_, rfl⟩
    rw [← hE] at hlen
    obtain ⟨v', h', a1, a2, a3⟩ := Known_L2 (E := E) (b := E.isEmpty) (base := h.length) (by omega) NN 0 nilS h [] (by omega) (by have := NN_ge; omega) .nil (by simp) (by simp) (Nat.le_refl _)
    rw [List.drop_zero] at a2
    have hu := uniqM_len E []
    simp only [List.length_nil, Nat.zero_add] at hu
    obtain ⟨w, w1, w2⟩ := a2.cvts (fun x st => by cases st <;> simp [encM, isS])
    have fN := F_document_Normal_at (uniqM [] E) (b := true) (by omega) (h := h') (v := v') (a := w) (by simp only [cvts_cons, cvts_nil, w1]) (by rw [w2]; rfl)
    have hS : knS l sch node = if errM (uniqM [] E) = 0 then (normL (uniqM [] E), 0) else ([], errM (uniqM [] E)) := by unfold knS; rw [if_neg (by simp [q]), hE]
    refine ⟨if errM (uniqM [] E) = 0 then SLm true (normL (uniqM [] E)) else .lst 7 true [], h', fun {β} K => ?_, ?_, ?_, a3⟩
    · have x0 : ∀ k : Go.AM.K β, exK (dlvV l sch node) 0 k = k (.lst 10 E.isEmpty (E.map encV)) := fun k => by rw [hE]; rfl
      have x1 : ∀ k : Go.AM.K β, exK (dlvV l sch node) 1 k = k (I (toS l sch node).2) := fun k => rfl
      have y0 : ∀ k : Go.AM.K β, exK (normR true (uniqM [] E)) 0 k = k (if errM (uniqM [] E) = 0 then SLm true (normL (uniqM [] E)) else .lst 7 true []) := fun k => rfl
      have y1 : ∀ k : Go.AM.K β, exK (normR true (uniqM [] E)) 1 k = k (I (errM (uniqM [] E))) := fun k => rfl
      have hS2 : (knS l sch node).2 = errM (uniqM [] E) := by rw [hS]; by_cases z : errM (uniqM [] E) = 0 <;> simp [z]
      rw [hS2]
      simp -implicitDefEqProofs only [f_network_Known, t_network_Known_49, callK_F, ft, x0, x1, eqK_int, e1, Bool.true_xor, Bool.not_true, condK_bool, Bool.false_eq_true, if_false, lenK_lst, List.length_map]
      refine (a1 _).trans ?_
      simp -implicitDefEqProofs only [f_network_Known_j1, t_network_Known_38, callK_F, fN, y0, y1]
    · rw [hS]
      by_cases z : errM (uniqM [] E) = 0
      · exact .inr ⟨true && (normL (uniqM [] E)).isEmpty, by simp only [if_pos z]⟩
      · exact .inr ⟨true, by simp only [if_neg z]; rfl⟩
    · rw [hS]
      by_cases z : errM (uniqM [] E) = 0
      · simp only [if_pos z]; rfl
      · simp only [if_neg z]; rfl
  · have e1 : ((toS l sch node).2 == 0) = false := by simpa using q
    have hS : knS l sch node = ([], (toS l sch node).2) := if_pos q
    rw [hS]
    refine ⟨nilS, h, fun {β} K => ?_, .inl rfl, rfl, fun _ _ => rfl⟩
    have x0 : ∀ k : Go.AM.K β, exK (dlvV l sch node) 0 k = k (.lst 10 (toS l sch node).1.isEmpty ((toS l sch node).1.map encV)) := fun k => rfl
    have x1 : ∀ k : Go.AM.K β, exK (dlvV l sch node) 1 k = k (I (toS l sch node).2) := fun k => rfl
    simp -implicitDefEqProofs only [f_network_Known, t_network_Known_49, callK_F, ft, x0, x1, eqK_int, e1, Bool.true_xor, Bool.not_false, condK_bool, if_true]
end Go.AM


namespace Go.AM
open Go.Proofs
set_option linter.unusedVariables false
set_option linter.unusedSimpArgs false
set_option linter.constructorNameAsVariable false
theorem ltM_irrefl (a : Msg) : ltM a a = false := ltZ_irrefl _
theorem ltM_trans {a b c : Msg} (h1 : ltM a b = true) (h2 : ltM b c = true) : ltM a c = true := ltZ_trans (n := 7) rfl rfl rfl h1 h2
theorem ltM_total {a b : Msg} (h1 : ltM a b = false) (h2 : ltM b a = false) : a = b := by
  have := ltZ_total (n := 7) (a := cellsM a) (b := cellsM b) rfl rfl h1 h2
  obtain ⟨a0, a1, a2, a3, a4, a5, a6⟩ := a
  obtain ⟨b0, b1, b2, b3, b4, b5, b6⟩ := b
  simpa [cellsM] using this
theorem ltM_asymm {a b : Msg} (h : ltM a b = true) : ltM b a = false := by
  cases h2 : ltM b a with
  | false => rfl
  | true => have := ltM_trans h h2; rw [ltM_irrefl] at this; cases this
abbrev Srt (l : List Msg) : Prop := l.Pairwise fun a b => ltM a b = true
theorem srt_unique : ∀ {a b : List Msg}, Srt a → Srt b → (∀ x, x ∈ a ↔ x ∈ b) → a = b
  | [], [], _, _, _ => rfl
  | [], y :: b, _, _, h => by have := (h y).2 (by simp); simp at this
  | x :: a, [], _, _, h => by have := (h x).1 (by simp); simp at this
  | x :: a, y :: b, ha, hb, h => by
    rw [Srt, List.pairwise_cons] at ha hb
    have e : x = y := by
      rcases List.mem_cons.1 ((h x).1 (by simp)) with e | h1
      · exact e
      · rcases List.mem_cons.1 ((h y).2 (by simp)) with e | h2
        · exact e.symm
        · have h3 := hb.1 x h1
          have h4 := ha.1 y h2
          have := ltM_asymm h3
          rw [h4] at this
          cases this
    subst e
    rw [srt_unique ha.2 hb.2 fun z => ?_]
    have hz := h z
    simp only [List.mem_cons] at hz
    constructor
    · intro hm
      rcases hz.1 (.inr hm) with rfl | h1
      · have := ha.1 z hm; rw [ltM_irrefl] at this; cases this
      · exact h1
    · intro hm
      rcases hz.2 (.inr hm) with rfl | h1
      · have := hb.1 z hm; rw [ltM_irrefl] at this; cases this
      · exact h1
theorem mem_compL : ∀ {l : List Msg} {x : Msg}, x ∈ compL l ↔ x ∈ l
  | [], x => by simp [compL]
  | [a], x => by simp [compL]
  | a :: b :: l, x => by
    have ih := @mem_compL (b :: l) x
    simp only [compL]
    split
    · rename_i e
      subst e
      rw [ih]; simp
    · rw [List.mem_cons, ih, List.mem_cons (a := x) (b := a)]
theorem srt_compL : ∀ {l : List Msg}, l.Pairwise (fun a b => ltM b a = false) → Srt (compL l)
  | [], _ => by simp [compL]
  | [a], _ => by simp [compL]
  | a :: b :: l, h => by
    rw [List.pairwise_cons] at h
    have ih := srt_compL h.2
    simp only [compL]
    split
    · exact ih
    · rename_i hne
      rw [Srt, List.pairwise_cons]
      refine ⟨fun x hx => ?_, ih⟩
      rw [mem_compL] at hx
      cases h1 : ltM a x with
      | true => rfl
      | false =>
        have e := ltM_total h1 (h.1 x hx)
        subst e
        rcases List.mem_cons.1 hx with e | hx
        · exact absurd e hne
        · rw [List.pairwise_cons] at h
          exact absurd (ltM_total (h.2.1 a hx) (h.1 b (by simp))) hne
theorem sortM_pw (l : List Msg) : (sortM l).Pairwise fun a b => ltM b a = false := by
  have := List.pairwise_mergeSort (le := fun x y : Msg => !ltM y x) (fun a b c h1 h2 => ?_) (fun a b => ?_) l
  · exact this.imp fun h => by simpa using h
  · simp only [Bool.not_eq_true'] at h1 h2 ⊢
    cases h3 : ltM c a with
    | false => rfl
    | true =>
      cases h4 : ltM a b with
      | true => rw [ltM_trans h3 h4] at h2; cases h2
      | false =>
        have := ltM_total h4 h1
        subst this
        rw [h3] at h2; cases h2
  · cases h1 : ltM b a with
    | false => rfl
    | true => simp [ltM_asymm h1]
theorem mem_sortM {l : List Msg} {x : Msg} : x ∈ sortM l ↔ x ∈ l := by
  unfold sortM
  exact (List.mergeSort_perm l _).mem_iff
theorem normL_srt (l : List Msg) : Srt (normL l) := srt_compL (sortM_pw l)
theorem mem_normL {l : List Msg} {x : Msg} : x ∈ normL l ↔ x ∈ l := by unfold normL; rw [mem_compL, mem_sortM]
theorem normL_eq {l o : List Msg} (h1 : Srt o) (h2 : ∀ x, x ∈ o ↔ x ∈ l) : o = normL l := srt_unique h1 (normL_srt l) fun x => by rw [h2, mem_normL]
end Go.AM


namespace Go.AM
open Go.Proofs
set_option linter.unusedVariables false
set_option linter.unusedSimpArgs false
set_option linter.constructorNameAsVariable false
set_option maxRecDepth 20000
abbrev SL {α : Type} (sz : Nat) (f : α → List AV) (b : Bool) (l : List α) : AV := .lst sz (b && l.isEmpty) (l.map f)
section
variable {β : Type} {P : Program} {T : Tab} {D : DTab} {N : Nat} {K : AV → Hp → Option β}
theorem F_slices_Clone_Envelope_val (l : List Envl) (b : Bool) (hl : l.length < 1000000) (h : Hp) : F_slices_Clone_Envelope [SL 10 encV b l] h = some (SL 10 encV b l, h) := by
  refine (F_slices_Clone_Envelope_run (v := if b && l.isEmpty then nilS else SL 10 encV b l) rfl ?_ h).trans ?_
  · by_cases hb : (b && l.isEmpty) = true
    · simp [f_slices_Clone_Envelope, hb]
    · have hb' : (b && l.isEmpty) = false := by simpa using hb
      have hle : l.length * 80 ≤ 140737488355328 := by omega
      have h2 : ((l.map encV).all fun e => e.length == 10) = true := by simp [encV]
      have h3 : okE false (l.map encV) = true := okE_map (by intro x; simp [encV])
      simp [f_slices_Clone_Envelope, hb', bsE, fillS, appE, readSl, hle, h2, ap]
      rw [cvt_whole rfl (by simp) (by simp) h3, SL, hb']
  · by_cases hb : (b && l.isEmpty) = true
    · obtain ⟨rfl, hl0⟩ := Bool.and_eq_true_iff.1 hb
      have : l = [] := by simpa using hl0
      subst this
      rfl
    · rw [if_neg hb]
      rfl
theorem F_slices_Clone_int_val (l : List Int) (b : Bool) (hl : l.length < 1000000) (h : Hp) : F_slices_Clone_int [SL 1 enI b l] h = some (SL 1 enI b l, h) := by
  refine (F_slices_Clone_int_run (v := if b && l.isEmpty then nilS else SL 1 enI b l) rfl ?_ h).trans ?_
  · by_cases hb : (b && l.isEmpty) = true
    · simp [f_slices_Clone_int, hb]
    · have hb' : (b && l.isEmpty) = false := by simpa using hb
      have hle : l.length * 8 ≤ 140737488355328 := by omega
      have h2 : ((l.map enI).all fun e => e.length == 1) = true := by simp [enI]
      have h3 : okE false (l.map enI) = true := okE_map (by intro x; simp [enI])
      simp [f_slices_Clone_int, hb', bsE, fillS, appE, readSl, hle, h2, ap]
      rw [cvt_whole rfl (by simp) (by simp) h3, SL, hb']
  · by_cases hb : (b && l.isEmpty) = true
    · obtain ⟨rfl, hl0⟩ := Bool.and_eq_true_iff.1 hb
      have : l = [] := by simpa using hl0
      subst this
      rfl
    · rw [if_neg hb]
      rfl
end
attribute [local congr] arithK_cg eqK_cg notK_cg convK_cg pickK_cg buildK_cg ldK_cg nilK_cg sliceK_cg faK_cg fldK_cg iaK_cg iaA_cg lookK_cg capK_cg exK_cg lenK_cg minK_cg maxK_cg effK_cg callK_cg callVK_cg effD_cg gopD_cg grpK_cg condK_cg cond_cg
abbrev g1 : Envl := ⟨1, 2, 1, ⟨1, 1, 0, 0, 1, 2, 10⟩⟩
abbrev g2 : Envl := ⟨1, 2, 2, ⟨2, 1, 0, 0, 1, 2, 10⟩⟩
abbrev g3 : Envl := ⟨1, 2, 3, ⟨3, 1, 0, 0, 1, 2, 10⟩⟩
abbrev exE : List Envl := [g1, g2, g3]
theorem exE_L (T : Tab) (D : DTab) (N n : Nat) : f_law41_example_L2 Try.prog T D N (fun w11_1 h => f_law41_example_j1 Try.prog T D N (fun v g => cvt false g v) w11_1 h) (n + 4) nilS (I 0) [] = some (.lst 10 false (exE.map encV)) := by kernel_rfl
theorem F_law41_example_val (h : Hp) : F_law41_example [] h = some (.lst 10 false (exE.map encV), h) := by
  refine (F_law41_example_run (v := .lst 10 false (exE.map encV)) rfl ?_ h).trans rfl
  obtain ⟨n, hn⟩ : ∃ n, NN = n + 4 := ⟨NN - 4, by have := NN_ge; omega⟩
  refine Eq.trans ?_ (exE_L t_law41_example d_law41_example NN n)
  rw [← hn]
  rfl
abbrev exS : List Int := [2, 0, 2]
theorem ex_to : toS exE exS 2 = ([g3, g1, g3], 0) := by decide +kernel
theorem ex_lost : lostS exE exS = ([1], 0) := by decide +kernel
theorem ex_rep : repS exE exS = (1, 0) := by decide +kernel
theorem ex_cro : croS exE exS = (1, 0) := by decide +kernel
theorem ex_uniq : uniqM [] [g3, g1, g3] = [g3.msg, g1.msg] := by decide +kernel
theorem ex_normN : normL [g3.msg, g1.msg] = [g1.msg, g3.msg] := by
  refine (normL_eq (o := [g1.msg, g3.msg]) (by decide) fun x => ?_).symm
  simp only [List.mem_cons, List.not_mem_nil, or_false]
  constructor
  · rintro (h | h) <;> simp [h]
  · rintro (h | h) <;> simp [h]
theorem ex_kn : knS exE exS 2 = ([g1.msg, g3.msg], 0) := by
  unfold knS
  rw [ex_to]
  simp only [ne_eq, not_true_eq_false, if_false]
  rw [ex_uniq, if_pos (by decide +kernel), ex_normN]
theorem eqI_L (T : Tab) (D : DTab) (N n : Nat) : f_slices_Equal_int_L2 Try.prog T D N (fun h => f_slices_Equal_int_j1 Try.prog T D N (fun v g => cvt false g v) h) (fun w13_4 h => cvt false h w13_4) (n + 2) (.lst 1 false [[I 1]]) (.lst 1 false [[I 1]]) (I 1) (I 0) [] = some (B true) := by kernel_rfl
theorem eq_one (h : Hp) : F_slices_Equal_int [.lst 1 false [[I 1]], .lst 1 false [[I 1]]] h = some (B true, h) := by
  refine F_slices_Equal_int_run rfl ?_ h
  obtain ⟨n, hn⟩ : ∃ n, NN = n + 2 := ⟨NN - 2, by have := NN_ge; omega⟩
  refine Eq.trans ?_ (eqI_L t_slices_Equal_int d_slices_Equal_int NN n)
  rw [← hn]
  rfl
theorem F_law41_awake_val (h : Hp) : F_law41_awake [] h = some (B true, h) := by
  refine F_law41_awake_run rfl ?_ h
  obtain ⟨H, hH⟩ : ∃ H : Hp, H = [.arr 1 [[I 2], [I 0], [I 2]] true false] := ⟨_, rfl⟩
  have bs : ∀ k : AV → Hp → Option AV, effK (bsE 1 [.s (.int .i64 0)] 3 [(0, .s (.int .i64 2)), (1, .s (.int .i64 0)), (2, .s (.int .i64 2))] 0) [] k = k (.sl 1 0 0 3 3 true) H := fun k => by rw [hH]; rfl
  have cv : cvt false H (.sl 1 0 0 3 3 true) = some (.lst 1 false (exS.map enI)) := by rw [hH]; exact cvt_whole (es := exS.map enI) rfl rfl rfl (okE_map fun x => by simp)
  have ft := F_network_to_at exE false exS (b2 := false) 2 (by decide) (by decide) cv rfl
  have fd : R_network_Deliver [.lst 10 false (exE.map encV), .sl 1 0 0 3 3 true, I 2] H = some (dlvV exE exS 2, H) := by
    rw [R_network_Deliver_raw]
    simp -implicitDefEqProofs only [f_network_Deliver, t_network_Deliver_49, callK_F, ft]
    rfl
  have fl := F_network_Lost_at exE false exS (b2 := false) (by decide) (by decide) cv rfl
  have fr := F_network_Repeated_at exE false exS (b2 := false) (by decide) (by decide) cv rfl
  have fc := F_network_Crossed_at exE false exS (b2 := false) (by decide) (by decide) cv rfl
  obtain ⟨w, h', k1, -, k3, k4⟩ := Known_key exE false exS (b2 := false) 2 (by decide) (by decide) cv rfl
  rw [ex_kn] at k1 k3
  have fk : R_network_Known [.lst 10 false (exE.map encV), .sl 1 0 0 3 3 true, I 2] H = some (.tup [w, I 0], h') := by
    rw [R_network_Known_raw]
    exact k1 _
  have hwl : ∀ k : Go.AM.K AV, lenK w k = k (I 2) := fun k => by
    cases w with
    | s v =>
      by_cases hv : v = .slice none 0 0
      · subst hv; simp [nrm, nrmC] at k3
      · exfalso
        have : nrm (.l 7) (.s v) = .s v := by
          cases v <;> try rfl
          rename_i a b c
          cases a <;> try rfl
          cases b <;> try rfl
          cases c <;> try rfl
          exact absurd rfl hv
        rw [this] at k3
        simp at k3
    | lst sz nil es =>
      simp only [nrm, nrmC, AV.lst.injEq] at k3
      obtain ⟨-, -, rfl⟩ := k3
      rfl
    | _ => simp [nrm, nrmC] at k3
  have fe := F_law41_example_val
  have x0 : ∀ k : Go.AM.K AV, exK (dlvV exE exS 2) 0 k = k (.lst 10 false ([g3, g1, g3].map encV)) := fun k => by unfold dlvV; rw [ex_to]; rfl
  have x1 : ∀ k : Go.AM.K AV, exK (dlvV exE exS 2) 1 k = k (I 0) := fun k => by unfold dlvV; rw [ex_to]; rfl
  rw [ex_lost] at fl
  rw [ex_rep] at fr
  rw [ex_cro] at fc
  have tp : ∀ (a b : AV) (k : Go.AM.K AV), exK (.tup [a, b]) 0 k = k a := fun a b k => rfl
  have tq : ∀ (a b : AV) (k : Go.AM.K AV), exK (.tup [a, b]) 1 k = k b := fun a b k => rfl
  have i0 : ∀ k : Go.AM.K AV, iaK 10 (.lst 10 false ([g3, g1, g3].map encV)) (.s (.int .i64 0)) k = k (.ep (encV g3) 0) := fun k => rfl
  have i1 : ∀ k : Go.AM.K AV, iaK 10 (.lst 10 false ([g3, g1, g3].map encV)) (.s (.int .i64 1)) k = k (.ep (encV g1) 0) := fun k => rfl
  have ln : ∀ (h : Hp) (e : Envl) (k : Go.AM.K AV), ldK 1 false (.ep (encV e) 2) h k = k (I e.num) := fun h e k => rfl
  have bq : ∀ k : AV → Hp → Option AV, effK (bsE 1 [.s (.int .i64 0)] 1 [(0, .s (.int .i64 1))] h'.length) h' k = k (.sl 1 h'.length 0 1 1 true) (h' ++ [.arr 1 [[I 1]] true false]) := fun k => by simp [bsE, fillS, effK, ap]
  have fq : F_slices_Equal_int [.lst 1 ([1] : List Int).isEmpty (([1] : List Int).map enI), .sl 1 h'.length 0 1 1 true] (h' ++ [.arr 1 [[I 1]] true false]) = some (B true, h' ++ [.arr 1 [[I 1]] true false]) :=
    closedX_scal' (as' := [.lst 1 false [[I 1]], .lst 1 false [[I 1]]]) (asl := [.lst 1 false [[I 1]], .lst 1 false [[I 1]]]) (by
      have : cvt false (h' ++ [.arr 1 [[I 1]] true false]) (.sl 1 h'.length 0 1 1 true) = some (.lst 1 false [[I 1]]) := cvt_whole (es := [[I 1]]) (by rw [get_new0]; rfl) rfl rfl rfl
      simp only [cvts_cons, cvts_nil, this]
      rfl) rfl rfl (eq_one []) rfl
  have w0 : IntKind.i64.wrap (0 + 0) = 0 := by kernel_rfl
  simp -implicitDefEqProofs only [f_law41_awake, bs, t_law41_awake_45, t_law41_awake_15, t_law41_awake_22, t_law41_awake_24, t_law41_awake_26, t_law41_awake_18, t_law41_awake_46, callK_F, fe, fd, fl, fr, fc, fk, x0, x1, tp, tq, tupP, lenK_lst, List.length_map, List.length_cons, List.length_nil, eqK_int, Bool.false_xor, grpK_tt, i0, i1, faK_ep, Nat.zero_add, ln, beq_self_eq_true, bq, fq, hwl, arithK_add, w0, show (((0 + 1 + 1 + 1 : Nat) : Int) == 3) = true from rfl, show (((1 + 1 + 1 : Nat) : Int) == 3) = true from rfl, show (g3.num == 3) = true from rfl, show (g1.num == 1) = true from rfl, show (((0 + 1 + 1 : Nat) : Int) == 2) = true from rfl]
  rfl
end Go.AM


namespace Go.AM
open Go.RowKit
set_option linter.unusedVariables false
def mu0 (w : World) : Mu := ⟨fun _ => .virt none, w, fun k => k < w.heap.size⟩
theorem rel0 (w : World) : Rel (mu0 w) [] w where
  obj := fun id o h => by simp at h
  sep := fun i j o p b x c y d h => by simp at h
  apart := fun i sz es nil b x c h => by simp at h
  imm := fun k hk => ⟨hk, rfl, fun ⟨id, o, off, c, h, _⟩ => by simp at h⟩
theorem own0 (w : World) (b : Nat) : ¬ Own (mu0 w) [] b := fun ⟨id, o, off, c, h, _⟩ => by simp at h
theorem below0 {w w' : World} {μ' : Mu} {h' : Hp} (s : Step (mu0 w) [] w μ' h' w') : Below w.heap.size w w' :=
  ⟨s.frame.os, s.frame.tape, s.frame.output, s.frame.size, fun k hk => s.frame.block k hk (own0 w k)⟩
theorem row_calls {P : Program} {f : FuncId} {F : Fun} {args : List AV} {h' : Hp} {b : Bool} {W : World} {cargs : Array Value} (hc : CSound P f F) (hF : F args [] = some (.s (.bool b), h')) (hv : VRs (mu0 W) [] args cargs.toList) :
    Calls P f cargs W fun e W' => e = .returned (.bool b) ∧ Below W.heap.size W W' := by
  refine (hc args [] _ h' hF (mu0 W) W cargs (rel0 W) hv).2.mono fun e W' => ?_
  rintro ⟨cv, μ', rfl, s, hr⟩
  simp only [VR] at hr
  exact ⟨by rw [hr.2], below0 s⟩

inductive Ty where
  | int (k : IntKind)
  | bool
  | str
  | sl (e : List Ty)
def tyFs (f : TypeId → Option (List Ty)) (size : TypeId → Nat) : List Field → Nat → Option (List Ty)
  | [], _ => some []
  | x :: l, pos => match f x.type, tyFs f size l (pos + size x.type) with
    | some a, some b => if x.offset = pos ∧ a.length = size x.type then some (a ++ b) else none
    | _, _ => none
def tyOf (P : Program) : Nat → TypeId → Option (List Ty)
  | 0, _ => none
  | n + 1, t => match P.underlying t with
    | some .bool => some [.bool]
    | some (.int k) => some [.int k]
    | some .string => some [.str]
    | some (.slice e) => match tyOf P n e with
      | some l => if l.length = P.cellsOf e ∧ 0 < l.length then some [.sl l] else none
      | none => none
    | some (.struct fs) => match tyFs (tyOf P n) P.cellsOf fs.toList 0 with
      | some l => if l.length = P.cellsOf t then some l else none
      | none => none
    | some (.array m e) => match tyOf P n e with
      | some l => if l.length = P.cellsOf e ∧ m * P.cellsOf e = P.cellsOf t then some (List.replicate m l).flatten else none
      | none => none
    | _ => none
mutual
def HasT : Ty → AV → Prop
  | .int k, a => ∃ n, a = .s (.int k n) ∧ (Lit.int k n).wf = true
  | .bool, a => ∃ b, a = .s (.bool b)
  | .str, a => ∃ s : ByteArray, a = .s (.string s) ∧ s.size ≤ maxLen
  | .sl ts, a => ∃ nil es, a = .lst ts.length nil es ∧ (nil = true → es = []) ∧ es.length ≤ maxLen ∧ ∀ e ∈ es, HasTs ts e
def HasTs : List Ty → List AV → Prop
  | [], asl => asl = []
  | t :: ts, asl => ∃ a as', asl = a :: as' ∧ HasT t a ∧ HasTs ts as'
end
theorem HasTs.app : ∀ {ts us : List Ty} {asl bs : List AV}, HasTs ts asl → HasTs us bs → HasTs (ts ++ us) (asl ++ bs)
  | [], us, asl, bs, h, k => by simp only [HasTs] at h; subst h; exact k
  | t :: ts, us, asl, bs, h, k => by
    simp only [HasTs] at h
    obtain ⟨a, as', rfl, h1, h2⟩ := h
    simp only [List.cons_append, HasTs]
    exact ⟨a, _, rfl, h1, HasTs.app h2 k⟩
theorem HasTs.len : ∀ {ts : List Ty} {asl : List AV}, HasTs ts asl → asl.length = ts.length
  | [], asl, h => by simp only [HasTs] at h; subst h; rfl
  | t :: ts, asl, h => by
    simp only [HasTs] at h
    obtain ⟨a, as', rfl, h1, h2⟩ := h
    simp [HasTs.len h2]
theorem HasT.ok : ∀ {t : Ty} {a : AV}, HasT t a → okC a = true
  | .int k, a, h => by simp only [HasT] at h; obtain ⟨n, rfl, _⟩ := h; rfl
  | .bool, a, h => by simp only [HasT] at h; obtain ⟨n, rfl⟩ := h; rfl
  | .str, a, h => by simp only [HasT] at h; obtain ⟨n, rfl, _⟩ := h; rfl
  | .sl ts, a, h => by simp only [HasT] at h; obtain ⟨n, es, rfl, _⟩ := h; rfl
theorem HasTs.ok : ∀ {ts : List Ty} {asl : List AV}, HasTs ts asl → ∀ x ∈ asl, okC x = true
  | [], asl, h, x, hx => by simp only [HasTs] at h; subst h; simp at hx
  | t :: ts, asl, h, x, hx => by
    simp only [HasTs] at h
    obtain ⟨a, as', rfl, h1, h2⟩ := h
    rcases List.mem_cons.1 hx with rfl | hx
    · exact h1.ok
    · exact h2.ok x hx
theorem VRs_app' {μ : Mu} {h : Hp} : ∀ {asl bs : List AV} {cs ds : List Value}, VRs μ h asl cs → VRs μ h bs ds → VRs μ h (asl ++ bs) (cs ++ ds)
  | [], bs, cs, ds, h1, h2 => by simp only [VRs] at h1; subst h1; exact h2
  | a :: asl, bs, cs, ds, h1, h2 => by
    simp only [VRs] at h1
    obtain ⟨v, vs, rfl, h3, h4⟩ := h1
    simp only [List.cons_append, VRs]
    exact ⟨v, _, rfl, h3, VRs_app' h4 h2⟩
section
variable {H : Type} {enc : TypeId × Value → H} {P : Program} {w : World} {base : Nat} {spare : Nat → Bool} {held : Bool}
def Opened (w : World) (ts : List Ty) (cs : List Value) : Prop := ∃ asl, HasTs ts asl ∧ VRs (mu0 w) [] asl cs ∧ ∀ u ∈ cs, u.oneCell' = true
theorem open_one {t : Ty} {u : Value} {a : AV} (h1 : HasT t a) (h2 : VR (mu0 w) [] a u) (h3 : u.oneCell' = true) : Opened w [t] [u] :=
  ⟨[a], by simp only [HasTs]; exact ⟨a, [], rfl, h1, rfl⟩, by simp only [VRs]; exact ⟨u, [], rfl, h2, rfl⟩, by simpa using h3⟩
theorem open_fs {f : TypeId → Option (List Ty)} {g : TypeId → List Value → Prop} {cs : List Value} (hg : ∀ t ts cs', f t = some ts → g t cs' → Opened w ts cs') : ∀ (l : List Field) (pos : Nat) (ts : List Ty), tyFs f P.cellsOf l pos = some ts →
    (∀ x ∈ l, g x.type ((cs.drop x.offset).take (P.cellsOf x.type))) → Opened w ts ((cs.drop pos).take ts.length)
  | [], pos, ts, h, _ => by
    simp only [tyFs, Option.some.injEq] at h
    subst h
    exact ⟨[], rfl, rfl, by simp⟩
  | x :: l, pos, ts, h, hx => by
    simp only [tyFs] at h
    split at h
    · rename_i a b h1 h2
      split at h
      · rename_i hc
        simp only [Option.some.injEq] at h
        subst h
        obtain ⟨h3, h4⟩ := hc
        obtain ⟨asl, p1, p2, p3⟩ := hg _ _ _ h1 (hx x (by simp))
        obtain ⟨bs, q1, q2, q3⟩ := open_fs hg l _ b h2 (fun y hy => hx y (by simp [hy]))
        have e : (cs.drop pos).take (a ++ b).length = (cs.drop x.offset).take (P.cellsOf x.type) ++ (cs.drop (pos + P.cellsOf x.type)).take b.length := by
          rw [List.length_append, h4, h3, ← List.drop_drop, List.take_add]
        rw [e]
        refine ⟨asl ++ bs, p1.app q1, VRs_app' p2 q2, ?_⟩
        intro u hu
        rcases List.mem_append.1 hu with hu | hu
        · exact p3 u hu
        · exact q3 u hu
      · simp at h
    · simp at h
theorem open_arr {ts : List Ty} {sz : Nat} {cs : List Value} : ∀ (n i0 : Nat), (∀ i, i < n → Opened w ts ((cs.drop ((i0 + i) * sz)).take sz)) → Opened w (List.replicate n ts).flatten ((cs.drop (i0 * sz)).take (n * sz))
  | 0, i0, _ => ⟨[], rfl, by simp [VRs], by simp⟩
  | n + 1, i0, h => by
    obtain ⟨asl, p1, p2, p3⟩ := h 0 (by omega)
    obtain ⟨bs, q1, q2, q3⟩ := open_arr n (i0 + 1) (fun i hi => by have := h (i + 1) (by omega); rwa [show i0 + (i + 1) = i0 + 1 + i by omega] at this)
    have e : (cs.drop (i0 * sz)).take ((n + 1) * sz) = (cs.drop (i0 * sz)).take sz ++ (cs.drop ((i0 + 1) * sz)).take (n * sz) := by
      rw [show (n + 1) * sz = sz + n * sz by rw [Nat.add_mul]; omega, show (i0 + 1) * sz = i0 * sz + sz by rw [Nat.add_mul]; omega, ← List.drop_drop, List.take_add]
    rw [e, List.replicate_succ, List.flatten_cons]
    refine ⟨asl ++ bs, p1.app q1, VRs_app' p2 q2, ?_⟩
    intro u hu
    rcases List.mem_append.1 hu with hu | hu
    · exact p3 u hu
    · exact q3 u hu
theorem open_es {ts : List Ty} {sz b : Nat} (hts : ts.length = sz) : ∀ (n o : Nat), (∀ i, i < n → ∃ cs, Opened w ts cs ∧ cs.length = sz ∧ ∀ j u, cs[j]? = some u → w.cell? ⟨b, o + i * sz + j, none⟩ = some u) →
    ∃ es vs, es.length = n ∧ (∀ e ∈ es, HasTs ts e) ∧ VRf (mu0 w) [] es vs ∧ ∀ j u, vs[j]? = some u → w.cell? ⟨b, o + j, none⟩ = some u ∧ u.oneCell' = true
  | 0, o, h => ⟨[], [], rfl, by simp, rfl, by simp⟩
  | n + 1, o, h => by
    obtain ⟨cs, ⟨asl, h1, h2, h3⟩, h4, h5⟩ := h 0 (by omega)
    obtain ⟨es, vs, k1, k2, k3, k4⟩ := open_es hts n (o + sz) (fun i hi => by
      obtain ⟨cs', q1, q2, q3⟩ := h (i + 1) (by omega)
      refine ⟨cs', q1, q2, fun j u hu => ?_⟩
      rw [← q3 j u hu]
      congr 2
      rw [Nat.add_mul]; omega)
    refine ⟨asl :: es, cs ++ vs, by simp [k1], ?_, ?_, ?_⟩
    · intro e he
      rcases List.mem_cons.1 he with rfl | he
      · exact h1
      · exact k2 e he
    · simp only [VRf]; exact ⟨cs, vs, rfl, h2, k3⟩
    · intro j u hj
      by_cases hlt : j < cs.length
      · rw [List.getElem?_append_left hlt] at hj
        have := h5 j u hj
        exact ⟨by simpa using this, h3 u (List.mem_of_getElem? hj)⟩
      · rw [List.getElem?_append_right (by omega)] at hj
        have := k4 _ _ hj
        rw [show o + sz + (j - cs.length) = o + j by omega] at this
        exact this
theorem cell_lt {a : Addr} {v : Value} (h : w.cell? a = some v) : a.block < w.heap.size := by
  rcases Nat.lt_or_ge a.block w.heap.size with h1 | h1
  · exact h1
  · have : w.heap[a.block]? = none := by simpa using h1
    simp [World.cell?, this] at h
theorem open_cells : ∀ (fuel n : Nat) (t : TypeId) (ts : List Ty) (cs : List Value) (x : DataW H × List MemPlace), tyOf P n t = some ts → DataW.trod enc P w base spare held fuel t cs = some x → Opened w ts cs
  | 0, n, t, ts, cs, x, _, h => by simp [DataW.trod] at h
  | fuel + 1, 0, t, ts, cs, x, h0, _ => by simp [tyOf] at h0
  | fuel + 1, n + 1, t, ts, cs, x, h0, h => by
    unfold tyOf at h0
    cases hu : P.underlying t with
    | none => rw [hu] at h0; simp at h0
    | some T =>
      rw [hu] at h0
      cases T with
      | bool =>
        simp only [Option.some.injEq] at h0
        subst h0
        obtain ⟨b, rfl, _⟩ := DataW.trod_bool hu h
        exact open_one (a := .s (.bool b)) (by simp [HasT]) (by simp [VR, gv]) rfl
      | int k =>
        simp only [Option.some.injEq] at h0
        subst h0
        obtain ⟨m, rfl, _, hw⟩ := DataW.trod_int hu h
        exact open_one (a := .s (.int k m)) (by simp [HasT, hw]) (by simp [VR, gv]) rfl
      | string =>
        simp only [Option.some.injEq] at h0
        subst h0
        obtain ⟨s, rfl, _, hs⟩ := DataW.trod_string hu h
        exact open_one (a := .s (.string s)) (by simp [HasT, hs]) (by simp [VR, gv]) rfl
      | slice e =>
        simp only at h0
        cases he : tyOf P n e with
        | none => rw [he] at h0; simp at h0
        | some l =>
          rw [he] at h0
          simp only at h0
          split at h0
          · rename_i hl
            simp only [Option.some.injEq] at h0
            subst h0
            rcases DataW.trod_slice hu h with ⟨rfl, _⟩ | ⟨a, len, cap, elems, rest, m, hm, rfl, _, hb, h1, h2, h3, h4, _, _⟩
            · refine open_one (a := .lst l.length true []) ?_ ?_ rfl
              · simp only [HasT]; exact ⟨true, [], rfl, fun _ => rfl, by simp, by simp⟩
              · simp only [VR]
                exact ⟨none, 0, rfl, by simp, by simp, rfl, fun _ => rfl, by simp, by simp⟩
            · have hm' : m = fuel := by omega
              subst hm'
              have cell : ∀ i, i < len → ∃ cs, Opened w l cs ∧ cs.length = P.cellsOf e ∧ ∀ j, j < P.cellsOf e → w.cell? ((a.add (i * P.cellsOf e)).add j) = cs[j]? := by
                intro i hi
                have hi' := h4 i hi
                rw [List.getElem?_eq_getElem (by omega), Option.bind_eq_some_iff] at hi'
                obtain ⟨cs, q1, q2⟩ := hi'
                have q3 := World.cells?_some q1
                exact ⟨cs, open_cells m n e l cs _ he q2, q3.2.1, q3.2.2⟩
              obtain ⟨b, off, spot⟩ := a
              have hsp : len ≠ 0 → spot = none := fun hn => by
                obtain ⟨cs, _, q2, q3⟩ := cell 0 (by omega)
                have q4 := q3 0 (by omega)
                rw [List.getElem?_eq_getElem (by omega)] at q4
                simpa [Addr.add] using World.cell?_spot q4
              by_cases hn : len = 0
              · subst hn
                refine open_one (a := .lst l.length false []) ?_ ?_ rfl
                · simp only [HasT]; exact ⟨false, [], rfl, fun _ => rfl, by simp, by simp⟩
                · simp only [VR]
                  exact ⟨_, cap, rfl, by simp, h2, rfl, by simp, by simp, by simp⟩
              · have hs := hsp hn
                subst hs
                obtain ⟨es, vs, k1, k2, k3, k4⟩ := open_es (w := w) (ts := l) (sz := P.cellsOf e) (b := b) hl.1 len off (fun i hi => by
                  obtain ⟨cs, q1, q2, q3⟩ := cell i hi
                  refine ⟨cs, q1, q2, fun j u hj => ?_⟩
                  have hjl := (List.getElem?_eq_some_iff.1 hj).1
                  have := q3 j (by omega)
                  rw [hj] at this
                  rw [← this, Go.WideShapes.add_plain, Go.WideShapes.add_plain])
                refine open_one (a := .lst l.length false es) ?_ ?_ rfl
                · simp only [HasT]; exact ⟨false, es, rfl, by simp, by omega, k2⟩
                · simp only [VR]
                  refine ⟨_, cap, by rw [k1], by omega, h2, rfl, by simp, fun e' he' => ⟨(k2 e' he').len, (k2 e' he').ok⟩, fun _ => ⟨b, off, vs, rfl, ?_, k3, k4⟩⟩
                  obtain ⟨cs, q1, q2, q3⟩ := cell 0 (by omega)
                  have q4 := q3 0 (by omega)
                  rw [List.getElem?_eq_getElem (by omega)] at q4
                  show b < w.heap.size
                  rw [Go.WideShapes.add_plain, Go.WideShapes.add_plain] at q4
                  exact cell_lt q4
          · simp at h0
      | struct fs =>
        simp only at h0
        cases he : tyFs (tyOf P n) P.cellsOf fs.toList 0 with
        | none => rw [he] at h0; simp at h0
        | some l =>
          rw [he] at h0
          simp only at h0
          split at h0
          · rename_i hl
            simp only [Option.some.injEq] at h0
            subst h0
            obtain ⟨xs, m, hm, _, h2, h3, h4⟩ := DataW.trod_struct hu h
            have hm' : m = fuel := by omega
            subst hm'
            have := open_fs (w := w) (P := P) (f := tyOf P n) (g := fun t cs' => ∃ y, DataW.trod enc P w base spare held m t cs' = some y) (cs := cs) (fun t ts cs' q1 ⟨y, q2⟩ => open_cells m n t ts cs' y q1 q2) fs.toList 0 l he (fun y hy => by
              obtain ⟨i, hi⟩ := List.getElem?_of_mem hy
              have hi2 : fs[i]? = some y := by simpa using hi
              have := h4 i y hi2
              have hlt : i < xs.length := by rw [h3]; exact (Array.getElem?_eq_some_iff.1 hi2).1
              rw [List.getElem?_eq_getElem hlt] at this
              exact ⟨_, this⟩)
            rw [List.drop_zero, hl, ← h2, List.take_length] at this
            exact this
          · simp at h0
      | array k e =>
        simp only at h0
        cases he : tyOf P n e with
        | none => rw [he] at h0; simp at h0
        | some l =>
          rw [he] at h0
          simp only at h0
          split at h0
          · rename_i hl
            simp only [Option.some.injEq] at h0
            subst h0
            obtain ⟨xs, m, hm, _, h2, h3, h4⟩ := DataW.trod_array hu h
            have hm' : m = fuel := by omega
            subst hm'
            have := open_arr (w := w) (ts := l) (sz := P.cellsOf e) (cs := cs) k 0 (fun i hi => by
              have h5 := h4 i hi
              rw [List.getElem?_eq_getElem (by omega)] at h5
              have h6 := open_cells m n e l _ _ he h5
              rwa [Nat.zero_add])
            rw [Nat.zero_mul, List.drop_zero, hl.2, ← h2, List.take_length] at this
            exact this
          · simp at h0
      | _ => simp at h0
theorem open_cell {t : TypeId} {v : Value} {d : DataW H} {ps : List MemPlace} {n : Nat} {ty : Ty} (hv : v.cells = #[v]) (ht : tyOf P n t = some [ty]) (hd : DataW.Trod enc P w base spare held t v d ps) : ∃ a, HasT ty a ∧ VR (mu0 w) [] a v := by
  obtain ⟨fuel, hf⟩ := hd
  rw [hv] at hf
  obtain ⟨asl, h1, h2, _⟩ := open_cells fuel n t [ty] _ _ ht hf
  simp only [HasTs] at h1
  obtain ⟨a, as', rfl, h1, rfl⟩ := h1
  simp only [VRs] at h2
  obtain ⟨v', vs', h3, h4, _⟩ := h2
  simp at h3
  exact ⟨a, h1, by rw [h3.1]; exact h4⟩
end
theorem has_list {α : Type} {ts : List Ty} {f : α → List AV} (hf : ∀ cs, HasTs ts cs → ∃ x, cs = f x) {a : AV} (h : HasT (.sl ts) a) : ∃ (l : List α) (b : Bool), a = .lst ts.length (b && l.isEmpty) (l.map f) := by
  simp only [HasT] at h
  obtain ⟨nil, es, rfl, hn, hm, he⟩ := h
  have : ∃ l : List α, es = l.map f := by
    clear hn hm
    induction es with
    | nil => exact ⟨[], rfl⟩
    | cons e es ih =>
      obtain ⟨x, hx⟩ := hf e (he e (by simp))
      obtain ⟨l, hl⟩ := ih (fun e' h' => he e' (by simp [h']))
      exact ⟨x :: l, by simp [hx, hl]⟩
  obtain ⟨l, rfl⟩ := this
  refine ⟨l, nil, ?_⟩
  cases nil with
  | false => rfl
  | true =>
    have : l = [] := by simpa using hn rfl
    subst this; rfl
end Go.AM


namespace Go.AM
open Go.Proofs
set_option linter.unusedVariables false
set_option linter.unusedSimpArgs false
set_option linter.constructorNameAsVariable false
set_option maxRecDepth 20000
attribute [local congr] arithK_cg eqK_cg notK_cg convK_cg pickK_cg buildK_cg ldK_cg nilK_cg sliceK_cg faK_cg fldK_cg iaK_cg iaA_cg lookK_cg capK_cg exK_cg lenK_cg minK_cg maxK_cg effK_cg callK_cg callVK_cg effD_cg gopD_cg grpK_cg condK_cg cond_cg
theorem has_Env {cs : List AV} (h : HasTs [.int .i64, .int .i64, .int .i64, .int .i64, .int .i64, .int .i64, .int .i64, .int .i64, .int .i64, .int .i64] cs) : ∃ p : Envl, cs = encV p := by
  simp only [HasTs, HasT] at h
  obtain ⟨_, _, rfl, ⟨x, rfl, _⟩, _, _, rfl, ⟨y, rfl, _⟩, _, _, rfl, ⟨z, rfl, _⟩, _, _, rfl, ⟨a, rfl, _⟩, _, _, rfl, ⟨b, rfl, _⟩, _, _, rfl, ⟨c, rfl, _⟩, _, _, rfl, ⟨d, rfl, _⟩, _, _, rfl, ⟨e, rfl, _⟩, _, _, rfl, ⟨f, rfl, _⟩, _, _, rfl, ⟨g, rfl, _⟩, rfl⟩ := h
  exact ⟨⟨x, y, z, ⟨a, b, c, d, e, f, g⟩⟩, rfl⟩
theorem has_Envs {a : AV} (h : HasT (.sl [.int .i64, .int .i64, .int .i64, .int .i64, .int .i64, .int .i64, .int .i64, .int .i64, .int .i64, .int .i64]) a) : ∃ (l : List Envl) (b : Bool), a = SL 10 encV b l := has_list (fun _ h => has_Env h) h
theorem has_IntsN {a : AV} (h : HasT (.sl [.int .i64]) a) : ∃ (l : List Int) (b : Bool), a = SL 1 enI b l := has_list (fun cs h => by
  simp only [HasTs, HasT] at h
  obtain ⟨_, _, rfl, ⟨x, rfl, _⟩, rfl⟩ := h
  exact ⟨x, rfl⟩) h
end Go.AM


namespace Go.AM
open Go.Proofs
set_option linter.unusedVariables false
set_option linter.unusedSimpArgs false
set_option linter.constructorNameAsVariable false
set_option maxRecDepth 20000
attribute [local congr] arithK_cg eqK_cg notK_cg convK_cg pickK_cg buildK_cg ldK_cg nilK_cg sliceK_cg faK_cg fldK_cg iaK_cg iaA_cg lookK_cg capK_cg exK_cg lenK_cg minK_cg maxK_cg effK_cg callK_cg callVK_cg effD_cg gopD_cg grpK_cg condK_cg cond_cg
end Go.AM


namespace Go.AM
open Go.Proofs
set_option linter.unusedVariables false
set_option linter.unusedSimpArgs false
set_option linter.constructorNameAsVariable false
set_option maxRecDepth 20000
attribute [local congr] arithK_cg eqK_cg notK_cg convK_cg pickK_cg buildK_cg ldK_cg nilK_cg sliceK_cg faK_cg fldK_cg iaK_cg iaA_cg lookK_cg capK_cg exK_cg lenK_cg minK_cg maxK_cg effK_cg callK_cg callVK_cg effD_cg gopD_cg grpK_cg condK_cg cond_cg
structure Fol where
  d : Docu
  en : Bool
  an : Int
  cnt : List ((Int × Int) × Int)
def cntP (c : List ((Int × Int) × Int)) (p : Int × Int) : Int := ((fndT c p).map (·.2)).getD 0
def bumpP (c : List ((Int × Int) × Int)) (p : Int × Int) : List ((Int × Int) × Int) := updT c p (IntKind.i64.wrap (cntP c p + 1))
def stepF (mv : Int) (s : Fol) (m : Msg) : Fol :=
  if m.mv ≠ mv then s
  else if m.kind = 1 then { s with d := { s.d with stage := 1, frm := m.frm, to := m.to, sent := m.alc }, cnt := bumpP s.cnt (m.kind, m.num) }
  else if m.kind = 2 then { s with d := { s.d with to := m.to, chg := IntKind.i64.wrap (s.d.chg + 1) }, cnt := bumpP s.cnt (m.kind, m.num) }
  else if m.kind = 3 then { s with d := { s.d with got := m.alc }, an := 2, cnt := bumpP s.cnt (m.kind, m.num) }
  else if m.kind = 4 then { s with an := 3, cnt := bumpP s.cnt (3, m.num) }
  else if m.kind = 5 then { s with en := true }
  else { s with cnt := bumpP s.cnt (m.kind, m.num) }
def begF (mv : Int) : Fol := ⟨⟨mv, 0, 0, 0, 0, 0, 0⟩, false, 0, []⟩
def folF (mv : Int) (l : List Msg) : Fol := l.foldl (stepF mv) (begF mv)
def noneD (mv : Int) : Docu := ⟨mv, 0, 0, 0, 0, 0, 0⟩
section
variable {β : Type}
variable {o0 o1 o2 : AObj} {g t : Hp} {m : Msg}
end
end Go.AM


namespace Go.AM
open Go.Proofs
set_option linter.unusedVariables false
set_option linter.unusedSimpArgs false
set_option linter.constructorNameAsVariable false
set_option maxRecDepth 20000
def ofk (mv k : Int) (l : List Msg) : List Msg := l.filter fun m => m.mv == mv && m.kind == k
theorem ofk_snoc (mv k : Int) (l : List Msg) (m : Msg) : ofk mv k (l ++ [m]) = if m.mv = mv ∧ m.kind = k then ofk mv k l ++ [m] else ofk mv k l := by
  unfold ofk
  rw [List.filter_append]
  by_cases h : m.mv = mv ∧ m.kind = k
  · simp [h]
  · rw [if_neg h]
    have : (m.mv == mv && m.kind == k) = false := by
      rw [Bool.eq_false_iff]; intro q; simp at q; exact h q
    simp [this]
theorem mem_ofk {mv k : Int} {l : List Msg} {m : Msg} : m ∈ ofk mv k l ↔ m ∈ l ∧ m.mv = mv ∧ m.kind = k := by unfold ofk; simp
theorem checkM_kind {m : Msg} (h : checkM m = 0) : 1 ≤ m.kind ∧ m.kind ≤ 5 ∧ 1 ≤ m.mv ∧ m.mv ≤ 1073741824 ∧ formM m = true := by
  unfold checkM at h
  split at h
  · simp at h
  · rename_i hr
    split at h
    · rename_i hf
      simp [rangeM] at hr
      exact ⟨by omega, by omega, by omega, by omega, hf⟩
    · simp at h
theorem ltM_lex {a b : Msg} (h : ltM a b = true) : a.mv ≤ b.mv ∧ (a.mv = b.mv → a.kind ≤ b.kind ∧ (a.kind = b.kind → a.num ≤ b.num)) := by
  unfold ltM cellsM at h
  simp only [ltZ_cons, Bool.or_eq_true, Bool.and_eq_true, decide_eq_true_eq] at h
  omega
def partM (m : Msg) : Option (Int × Int) := if m.kind = 5 then none else if m.kind = 4 then some (3, m.num) else some (m.kind, m.num)
abbrev keysD {α : Type} (c : List ((Int × Int) × α)) : Prop := c.Pairwise fun a b => a.1 ≠ b.1
theorem updT_mem {α : Type} : ∀ {c : List ((Int × Int) × α)} {p : Int × Int} {x : α} {e : (Int × Int) × α}, e ∈ updT c p x → e = (p, x) ∨ e ∈ c
  | [], p, x, e, h => by simp [updT] at h; exact .inl h
  | (q, y) :: c, p, x, e, h => by
    simp only [updT] at h
    split at h
    · rcases List.mem_cons.1 h with h | h
      · exact .inl h
      · exact .inr (by simp [h])
    · rcases List.mem_cons.1 h with h | h
      · exact .inr (by simp [h])
      · rcases updT_mem h with h | h
        · exact .inl h
        · exact .inr (by simp [h])
theorem keysD_upd {α : Type} : ∀ {c : List ((Int × Int) × α)} (p : Int × Int) (x : α), keysD c → keysD (updT c p x)
  | [], p, x, h => by simp [updT]
  | (q, y) :: c, p, x, h => by
    rw [keysD, List.pairwise_cons] at h
    simp only [updT]
    split
    · rename_i e
      subst e
      rw [keysD, List.pairwise_cons]
      exact h
    · rename_i e
      rw [keysD, List.pairwise_cons]
      refine ⟨fun z hz => ?_, keysD_upd p x h.2⟩
      rcases updT_mem hz with rfl | hz
      · exact fun q => e q.symm
      · exact h.1 z hz
theorem cntP_bump (c : List ((Int × Int) × Int)) (p q : Int × Int) : cntP (bumpP c p) q = if q = p then IntKind.i64.wrap (cntP c p + 1) else cntP c q := by
  unfold cntP bumpP
  rw [fndT_upd]
  split <;> rfl
structure InF (mv : Int) (l : List Msg) (s : Fol) : Prop where
  mve : s.d.mv = mv
  stage : s.d.stage = if ofk mv 1 l = [] then 0 else 1
  frm : s.d.frm = (((ofk mv 1 l).getLast?).map (·.frm)).getD 0
  sent : s.d.sent = (((ofk mv 1 l).getLast?).map (·.alc)).getD 0
  to : s.d.to = match (ofk mv 2 l).getLast? with | some c => c.to | none => (((ofk mv 1 l).getLast?).map (·.to)).getD 0
  got : s.d.got = (((ofk mv 3 l).getLast?).map (·.alc)).getD 0
  chg : s.d.chg = (ofk mv 2 l).length
  en : s.en = !(ofk mv 5 l).isEmpty
  an : s.an = if ofk mv 4 l ≠ [] then 3 else if ofk mv 3 l ≠ [] then 2 else 0
  cnt : ∀ p, cntP s.cnt p = (l.countP fun m => m.mv == mv && partM m == some p : Nat)
  keys : keysD s.cnt
theorem ofk_len (mv k : Int) (l : List Msg) : (ofk mv k l).length ≤ l.length := List.length_filter_le _ _
theorem InF.step {mv : Int} {l : List Msg} {s : Fol} {m : Msg} (H : InF mv l s) (hs : Srt (l ++ [m])) (hm : checkM m = 0) (hl : l.length < 1000000) : InF mv (l ++ [m]) (stepF mv s m) := by
  obtain ⟨k0, k5, -⟩ := checkM_kind hm
  have hlt : ∀ x ∈ l, ltM x m = true := fun x hx => by
    rw [Srt, List.pairwise_append] at hs
    exact hs.2.2 x hx m (by simp)
  by_cases hmv : m.mv = mv
  · have noK : ∀ k, m.kind < k → ofk mv k l = [] := fun k hk => by
      rw [List.eq_nil_iff_forall_not_mem]
      intro x hx
      obtain ⟨h1, h2, h3⟩ := mem_ofk.1 hx
      have := ltM_lex (hlt x h1)
      have h4 := this.2 (by omega)
      omega
    have wr : IntKind.i64.wrap (((ofk mv 2 l).length : Int) + 1) = (((ofk mv 2 l).length + 1 : Nat) : Int) := by
      have := ofk_len mv 2 l
      rw [wrap64 (by omega) (by omega)]; rfl
    have cn : ∀ (p q : Int × Int) (b : Bool), ((partM m == some q) = b) → cntP s.cnt q = (l.countP fun m => m.mv == mv && partM m == some q : Nat) → (((l ++ [m]).countP fun m => m.mv == mv && partM m == some q : Nat) : Int) = cntP s.cnt q + if b = true then 1 else 0 := by
      intro p q b hb hc
      rw [List.countP_append, hc]
      simp [hmv, hb]
      cases b <;> rfl
    have wc : ∀ q, IntKind.i64.wrap (cntP s.cnt q + 1) = cntP s.cnt q + 1 := fun q => by
      have h1 := H.cnt q
      have h2 := List.countP_le_length (p := fun m : Msg => m.mv == mv && partM m == some q) (l := l)
      rw [wrap64 (by omega) (by omega)]
    have cb : ∀ p, partM m = some p → ∀ q, cntP (bumpP s.cnt p) q = ((l ++ [m]).countP fun m => m.mv == mv && partM m == some q : Nat) := fun p hp q => by
      rw [cntP_bump]
      by_cases e : q = p
      · subst e
        rw [if_pos rfl, wc, cn q q true (by simp [hp]) (H.cnt q)]; simp
      · rw [if_neg e, cn p q false (by simp [hp]; exact fun h => e h.symm) (H.cnt q)]; simp
    have kb : ∀ p, keysD (bumpP s.cnt p) := fun p => keysD_upd p _ H.keys
    have hk : m.kind = 1 ∨ m.kind = 2 ∨ m.kind = 3 ∨ m.kind = 4 ∨ m.kind = 5 := by omega
    rcases hk with k | k | k | k | k
    · have e2 := noK 2 (by omega)
      have st : stepF mv s m = { s with d := { s.d with stage := 1, frm := m.frm, to := m.to, sent := m.alc }, cnt := bumpP s.cnt (m.kind, m.num) } := by simp [stepF, hmv, k]
      rw [st]
      exact ⟨H.mve, by simp [ofk_snoc, hmv, k], by simp [ofk_snoc, hmv, k], by simp [ofk_snoc, hmv, k], by simp [ofk_snoc, hmv, k, e2], by simp [ofk_snoc, hmv, k, H.got], by simp [ofk_snoc, hmv, k, H.chg], by simp [ofk_snoc, hmv, k, H.en], by simp [ofk_snoc, hmv, k, H.an], cb _ (by simp [partM, k]), kb _⟩
    · have st : stepF mv s m = { s with d := { s.d with to := m.to, chg := IntKind.i64.wrap (s.d.chg + 1) }, cnt := bumpP s.cnt (m.kind, m.num) } := by simp [stepF, hmv, k]
      rw [st]
      exact ⟨H.mve, by simp [ofk_snoc, hmv, k, H.stage], by simp [ofk_snoc, hmv, k, H.frm], by simp [ofk_snoc, hmv, k, H.sent], by simp [ofk_snoc, hmv, k], by simp [ofk_snoc, hmv, k, H.got], by simp [ofk_snoc, hmv, k, H.chg, wr], by simp [ofk_snoc, hmv, k, H.en], by simp [ofk_snoc, hmv, k, H.an], cb _ (by simp [partM, k]), kb _⟩
    · have e4 := noK 4 (by omega)
      have st : stepF mv s m = { s with d := { s.d with got := m.alc }, an := 2, cnt := bumpP s.cnt (m.kind, m.num) } := by simp [stepF, hmv, k]
      rw [st]
      exact ⟨H.mve, by simp [ofk_snoc, hmv, k, H.stage], by simp [ofk_snoc, hmv, k, H.frm], by simp [ofk_snoc, hmv, k, H.sent], by simp [ofk_snoc, hmv, k, H.to], by simp [ofk_snoc, hmv, k], by simp [ofk_snoc, hmv, k, H.chg], by simp [ofk_snoc, hmv, k, H.en], by simp [ofk_snoc, hmv, k, e4], cb _ (by simp [partM, k]), kb _⟩
    · have st : stepF mv s m = { s with an := 3, cnt := bumpP s.cnt (3, m.num) } := by simp [stepF, hmv, k]
      rw [st]
      exact ⟨H.mve, by simp [ofk_snoc, hmv, k, H.stage], by simp [ofk_snoc, hmv, k, H.frm], by simp [ofk_snoc, hmv, k, H.sent], by simp [ofk_snoc, hmv, k, H.to], by simp [ofk_snoc, hmv, k, H.got], by simp [ofk_snoc, hmv, k, H.chg], by simp [ofk_snoc, hmv, k, H.en], by simp [ofk_snoc, hmv, k], cb _ (by simp [partM, k]), kb _⟩
    · have st : stepF mv s m = { s with en := true } := by simp [stepF, hmv, k]
      rw [st]
      exact ⟨H.mve, by simp [ofk_snoc, hmv, k, H.stage], by simp [ofk_snoc, hmv, k, H.frm], by simp [ofk_snoc, hmv, k, H.sent], by simp [ofk_snoc, hmv, k, H.to], by simp [ofk_snoc, hmv, k, H.got], by simp [ofk_snoc, hmv, k, H.chg], by simp [ofk_snoc, hmv, k], by simp [ofk_snoc, hmv, k, H.an], fun q => by rw [cn q q false (by simp [partM, k]) (H.cnt q)]; simp, H.keys⟩
  · have st : stepF mv s m = s := by simp [stepF, hmv]
    have ek : ∀ k, ofk mv k (l ++ [m]) = ofk mv k l := fun k => by rw [ofk_snoc, if_neg (by simp [hmv])]
    rw [st]
    exact ⟨H.mve, by rw [ek]; exact H.stage, by rw [ek]; exact H.frm, by rw [ek]; exact H.sent, by rw [ek, ek]; exact H.to, by rw [ek]; exact H.got, by rw [ek]; exact H.chg, by rw [ek]; exact H.en, by rw [ek, ek]; exact H.an, fun p => by rw [List.countP_append, H.cnt p]; simp [hmv], H.keys⟩
theorem InF.beg (mv : Int) : InF mv [] (begF mv) := ⟨rfl, rfl, rfl, rfl, rfl, rfl, rfl, rfl, rfl, fun p => rfl, .nil⟩
theorem InF.all {mv : Int} {l : List Msg} (hs : Srt l) (hv : ∀ m ∈ l, checkM m = 0) (hl : l.length < 1000000) : ∀ i, i ≤ l.length → InF mv (l.take i) (folF mv (l.take i))
  | 0, _ => by rw [List.take_zero]; exact InF.beg mv
  | i + 1, hi => by
    have ih := InF.all (mv := mv) hs hv hl i (by omega)
    have hx : l[i]? = some l[i] := List.getElem?_eq_getElem (by omega)
    have ht := take_succ_get hx
    have : folF mv (l.take (i + 1)) = stepF mv (folF mv (l.take i)) l[i] := by
      unfold folF; rw [ht, List.foldl_append]; rfl
    rw [this, ht]
    refine ih.step ?_ (hv _ (List.getElem_mem _)) (by simp; omega)
    rw [← ht]
    exact hs.sublist (List.take_sublist _ _)
end Go.AM


namespace Go.AM
open Go.Proofs
set_option linter.unusedVariables false
set_option linter.unusedSimpArgs false
set_option linter.constructorNameAsVariable false
set_option maxRecDepth 20000
attribute [local congr] arithK_cg eqK_cg notK_cg convK_cg pickK_cg buildK_cg ldK_cg nilK_cg sliceK_cg faK_cg fldK_cg iaK_cg iaA_cg lookK_cg capK_cg exK_cg lenK_cg minK_cg maxK_cg effK_cg callK_cg callVK_cg effD_cg gopD_cg grpK_cg condK_cg cond_cg
structure Frs where
  d : Docu
  dis : Int
  ans : Int
  en : Int
  cf : Bool
  rf : Bool
def stepR (mv : Int) (p : Msg) (s : Frs) (m : Msg) : Frs :=
  if m.mv ≠ mv then s
  else if m.kind = 1 then { s with d := { s.d with frm := m.frm, to := m.to, sent := m.alc }, dis := IntKind.i64.wrap (s.dis + 1) }
  else if m.kind = 2 then { s with d := { s.d with to := m.to, chg := IntKind.i64.wrap (s.d.chg + 1) }, cf := s.cf || (p.mv == mv && p.kind == m.kind && p.num == m.num) }
  else if m.kind = 3 then { s with d := { s.d with got := m.alc }, ans := IntKind.i64.wrap (s.ans + 1) }
  else if m.kind = 4 then { s with ans := IntKind.i64.wrap (s.ans + 1), rf := true }
  else { s with en := IntKind.i64.wrap (s.en + 1) }
def foldR (mv : Int) : Msg → Frs → List Msg → Frs
  | _, s, [] => s
  | p, s, m :: l => foldR mv m (stepR mv p s m) l
def begR (mv : Int) : Frs := ⟨noneD mv, 0, 0, 0, false, false⟩
def zeroM : Msg := ⟨0, 0, 0, 0, 0, 0, 0⟩
section
variable {β : Type}
variable {o0 o1 : AObj} {g t : Hp} {m : Msg}
end
end Go.AM


namespace Go.AM
open Go.Proofs
set_option linter.unusedVariables false
set_option linter.unusedSimpArgs false
set_option linter.constructorNameAsVariable false
set_option maxRecDepth 20000
structure InR (mv : Int) (l : List Msg) (s : Frs) : Prop where
  mve : s.d.mv = mv
  stage : s.d.stage = 0
  frm : s.d.frm = (((ofk mv 1 l).getLast?).map (·.frm)).getD 0
  sent : s.d.sent = (((ofk mv 1 l).getLast?).map (·.alc)).getD 0
  to : s.d.to = match (ofk mv 2 l).getLast? with | some c => c.to | none => (((ofk mv 1 l).getLast?).map (·.to)).getD 0
  got : s.d.got = (((ofk mv 3 l).getLast?).map (·.alc)).getD 0
  chg : s.d.chg = (ofk mv 2 l).length
  dis : s.dis = (ofk mv 1 l).length
  ans : s.ans = ((ofk mv 3 l).length + (ofk mv 4 l).length : Nat)
  en : s.en = (ofk mv 5 l).length
  rf : s.rf = !(ofk mv 4 l).isEmpty
  cf : s.cf = decide (¬ ((ofk mv 2 l).map (·.num)).Nodup)
theorem srt_last {l : List Msg} {m p x : Msg} (hs : Srt (l ++ [m])) (hp : (zeroM :: l).getLast? = some p) (hx : x ∈ l) : p ∈ l ∧ (x = p ∨ ltM x p = true) := by
  rcases List.eq_nil_or_concat l with rfl | ⟨l', q, rfl⟩
  · simp at hx
  · rw [List.concat_eq_append] at *
    have : p = q := by rw [← List.cons_append, List.getLast?_append] at hp; simpa using hp.symm
    subst this
    refine ⟨by simp, ?_⟩
    rcases List.mem_append.1 hx with hx | hx
    · right
      rw [Srt, List.append_assoc, List.pairwise_append] at hs
      exact hs.2.2 x hx p (by simp)
    · simp at hx; exact .inl hx
theorem InR.step {mv : Int} {l : List Msg} {s : Frs} {m p : Msg} (H : InR mv l s) (hs : Srt (l ++ [m])) (hm : checkM m = 0) (hp : (zeroM :: l).getLast? = some p) (h0 : mv ≠ 0) (hl : l.length < 1000000) : InR mv (l ++ [m]) (stepR mv p s m) := by
  obtain ⟨k0, k5, -⟩ := checkM_kind hm
  have hlt : ∀ x ∈ l, ltM x m = true := fun x hx => by
    rw [Srt, List.pairwise_append] at hs
    exact hs.2.2 x hx m (by simp)
  by_cases hmv : m.mv = mv
  · have noK : ∀ k, m.kind < k → ofk mv k l = [] := fun k hk => by
      rw [List.eq_nil_iff_forall_not_mem]
      intro x hx
      obtain ⟨h1, h2, h3⟩ := mem_ofk.1 hx
      have := ltM_lex (hlt x h1)
      have h4 := this.2 (by omega)
      omega
    have wr : ∀ k, IntKind.i64.wrap (((ofk mv k l).length : Int) + 1) = ((ofk mv k l).length : Int) + 1 := fun k => by
      have := ofk_len mv k l
      rw [wrap64 (by omega) (by omega)]
    have wa : IntKind.i64.wrap (((((ofk mv 3 l).length + (ofk mv 4 l).length : Nat)) : Int) + 1) = ((((ofk mv 3 l).length + (ofk mv 4 l).length : Nat)) : Int) + 1 := by
      have h3 := ofk_len mv 3 l
      have h4 := ofk_len mv 4 l
      rw [wrap64 (by omega) (by omega)]
    have hk : m.kind = 1 ∨ m.kind = 2 ∨ m.kind = 3 ∨ m.kind = 4 ∨ m.kind = 5 := by omega
    rcases hk with k | k | k | k | k
    · have e2 := noK 2 (by omega)
      have st : stepR mv p s m = { s with d := { s.d with frm := m.frm, to := m.to, sent := m.alc }, dis := IntKind.i64.wrap (s.dis + 1) } := by simp [stepR, hmv, k]
      rw [st]
      exact ⟨H.mve, H.stage, by simp [ofk_snoc, hmv, k], by simp [ofk_snoc, hmv, k], by simp [ofk_snoc, hmv, k, e2], by simp [ofk_snoc, hmv, k, H.got], by simp [ofk_snoc, hmv, k, H.chg], by simp [ofk_snoc, hmv, k, H.dis, wr], by simp [ofk_snoc, hmv, k, H.ans], by simp [ofk_snoc, hmv, k, H.en], by simp [ofk_snoc, hmv, k, H.rf], by simp [ofk_snoc, hmv, k, H.cf]⟩
    · have st : stepR mv p s m = { s with d := { s.d with to := m.to, chg := IntKind.i64.wrap (s.d.chg + 1) }, cf := s.cf || (p.mv == mv && p.kind == m.kind && p.num == m.num) } := by simp [stepR, hmv, k]
      rw [st]
      refine ⟨H.mve, H.stage, by simp [ofk_snoc, hmv, k, H.frm], by simp [ofk_snoc, hmv, k, H.sent], by simp [ofk_snoc, hmv, k], by simp [ofk_snoc, hmv, k, H.got], by simp [ofk_snoc, hmv, k, H.chg, wr], by simp [ofk_snoc, hmv, k, H.dis], by simp [ofk_snoc, hmv, k, H.ans], by simp [ofk_snoc, hmv, k, H.en], by simp [ofk_snoc, hmv, k, H.rf], ?_⟩
      rw [ofk_snoc, if_pos ⟨hmv, k⟩, List.map_append, H.cf]
      rw [Bool.eq_iff_iff]
      simp only [Bool.or_eq_true, Bool.and_eq_true, beq_iff_eq, decide_eq_true_eq]
      rw [List.nodup_append]
      have key : (p.mv = mv ∧ p.kind = m.kind) ∧ p.num = m.num ↔ ∃ x ∈ ofk mv 2 l, x.num = m.num := by
        constructor
        · rintro ⟨⟨h1, h2⟩, h3⟩
          have hpl : p ∈ l := by
            rcases List.eq_nil_or_concat l with rfl | ⟨l', q, rfl⟩
            · simp at hp; subst hp; exact absurd h1.symm h0
            · rw [List.concat_eq_append, ← List.cons_append, List.getLast?_append] at hp
              have : q = p := by simpa using hp
              simp [this]
          exact ⟨p, mem_ofk.2 ⟨hpl, h1, by omega⟩, h3⟩
        · rintro ⟨x, hx, h3⟩
          obtain ⟨h1, h2, h4⟩ := mem_ofk.1 hx
          obtain ⟨hpl, hxp⟩ := srt_last hs hp h1
          rcases hxp with rfl | hxp
          · exact ⟨⟨h2, by omega⟩, h3⟩
          · have a1 := ltM_lex hxp
            have a2 := ltM_lex (hlt p hpl)
            omega
      constructor
      · rintro (h | h)
        · exact fun q => h q.1
        · obtain ⟨x, hx, hxn⟩ := key.1 h
          intro q
          exact q.2.2 x.num (List.mem_map.2 ⟨x, hx, rfl⟩) m.num (by simp) hxn
      · intro h
        by_cases hn : ((ofk mv 2 l).map (·.num)).Nodup
        · right
          refine key.2 ?_
          rcases Classical.em (∃ x ∈ ofk mv 2 l, x.num = m.num) with h2 | h2
          · exact h2
          · refine absurd ⟨hn, by simp, ?_⟩ h
            intro a ha b hb hab
            obtain ⟨x, hx, rfl⟩ := List.mem_map.1 ha
            simp at hb
            exact h2 ⟨x, hx, by rw [hab, hb]⟩
        · exact .inl hn
    · have st : stepR mv p s m = { s with d := { s.d with got := m.alc }, ans := IntKind.i64.wrap (s.ans + 1) } := by simp [stepR, hmv, k]
      rw [st]
      exact ⟨H.mve, H.stage, by simp [ofk_snoc, hmv, k, H.frm], by simp [ofk_snoc, hmv, k, H.sent], by simp [ofk_snoc, hmv, k, H.to], by simp [ofk_snoc, hmv, k], by simp [ofk_snoc, hmv, k, H.chg], by simp [ofk_snoc, hmv, k, H.dis], by rw [H.ans, wa, ofk_snoc, ofk_snoc, if_pos ⟨hmv, k⟩, if_neg (by omega), List.length_append]; simp; omega, by simp [ofk_snoc, hmv, k, H.en], by simp [ofk_snoc, hmv, k, H.rf], by simp [ofk_snoc, hmv, k, H.cf]⟩
    · have st : stepR mv p s m = { s with ans := IntKind.i64.wrap (s.ans + 1), rf := true } := by simp [stepR, hmv, k]
      rw [st]
      exact ⟨H.mve, H.stage, by simp [ofk_snoc, hmv, k, H.frm], by simp [ofk_snoc, hmv, k, H.sent], by simp [ofk_snoc, hmv, k, H.to], by simp [ofk_snoc, hmv, k, H.got], by simp [ofk_snoc, hmv, k, H.chg], by simp [ofk_snoc, hmv, k, H.dis], by rw [H.ans, wa, ofk_snoc, ofk_snoc, if_neg (by omega), if_pos ⟨hmv, k⟩, List.length_append]; simp; omega, by simp [ofk_snoc, hmv, k, H.en], by simp [ofk_snoc, hmv, k], by simp [ofk_snoc, hmv, k, H.cf]⟩
    · have st : stepR mv p s m = { s with en := IntKind.i64.wrap (s.en + 1) } := by simp [stepR, hmv, k]
      rw [st]
      exact ⟨H.mve, H.stage, by simp [ofk_snoc, hmv, k, H.frm], by simp [ofk_snoc, hmv, k, H.sent], by simp [ofk_snoc, hmv, k, H.to], by simp [ofk_snoc, hmv, k, H.got], by simp [ofk_snoc, hmv, k, H.chg], by simp [ofk_snoc, hmv, k, H.dis], by simp [ofk_snoc, hmv, k, H.ans], by simp [ofk_snoc, hmv, k, H.en, wr], by simp [ofk_snoc, hmv, k, H.rf], by simp [ofk_snoc, hmv, k, H.cf]⟩
  · have st : stepR mv p s m = s := by simp [stepR, hmv]
    have ek : ∀ k, ofk mv k (l ++ [m]) = ofk mv k l := fun k => by rw [ofk_snoc, if_neg (by simp [hmv])]
    rw [st]
    exact ⟨H.mve, H.stage, by rw [ek]; exact H.frm, by rw [ek]; exact H.sent, by rw [ek, ek]; exact H.to, by rw [ek]; exact H.got, by rw [ek]; exact H.chg, by rw [ek]; exact H.dis, by rw [ek, ek]; exact H.ans, by rw [ek]; exact H.en, by rw [ek]; exact H.rf, by rw [ek]; exact H.cf⟩
theorem InR.beg (mv : Int) : InR mv [] (begR mv) := ⟨rfl, rfl, rfl, rfl, rfl, rfl, rfl, rfl, rfl, rfl, rfl, rfl⟩
theorem InR.all {mv : Int} (h0 : mv ≠ 0) : ∀ (post pre : List Msg) (p : Msg) (s : Frs), Srt (pre ++ post) → (∀ m ∈ post, checkM m = 0) → (pre ++ post).length < 1000000 → (zeroM :: pre).getLast? = some p → InR mv pre s → InR mv (pre ++ post) (foldR mv p s post)
  | [], pre, p, s, _, _, _, _, H => by simpa [foldR] using H
  | m :: post, pre, p, s, hs, hv, hl, hp, H => by
    have e : pre ++ m :: post = (pre ++ [m]) ++ post := by simp
    rw [e] at hs hl ⊢
    refine InR.all h0 post (pre ++ [m]) m (stepR mv p s m) hs (fun x hx => hv x (by simp [hx])) hl (by rw [← List.cons_append, List.getLast?_append]; simp) (H.step ?_ (hv m (by simp)) hp h0 (by simp at hl; omega))
    exact hs.sublist (List.sublist_append_left _ _)
end Go.AM


namespace Go.AM
open Go.Proofs
set_option linter.unusedVariables false
set_option linter.unusedSimpArgs false
set_option linter.constructorNameAsVariable false
set_option maxRecDepth 20000
attribute [local congr] arithK_cg eqK_cg notK_cg convK_cg pickK_cg buildK_cg ldK_cg nilK_cg sliceK_cg faK_cg fldK_cg iaK_cg iaA_cg lookK_cg capK_cg exK_cg lenK_cg minK_cg maxK_cg effK_cg callK_cg callVK_cg effD_cg gopD_cg grpK_cg condK_cg cond_cg
section
variable {β : Type}
end
end Go.AM


namespace Go.AM
open Go.Proofs
set_option linter.unusedVariables false
set_option linter.unusedSimpArgs false
set_option linter.constructorNameAsVariable false
set_option maxRecDepth 20000
section
variable {β : Type} {P : Program} {T : Tab} {D : DTab} {N : Nat} {K : AV → Hp → Option β}
end
attribute [local congr] arithK_cg eqK_cg notK_cg convK_cg pickK_cg buildK_cg ldK_cg nilK_cg sliceK_cg faK_cg fldK_cg iaK_cg iaA_cg lookK_cg capK_cg exK_cg lenK_cg minK_cg maxK_cg effK_cg callK_cg callVK_cg effD_cg gopD_cg grpK_cg condK_cg cond_cg
def OwnI (h : Hp) (v : AV) (W : List Int) : Prop := (W = [] ∧ v = nilS) ∨ ∃ id, v = .sl 1 id 0 W.length W.length false ∧ h[id]? = some (.arr 1 (W.map enI) true false)
theorem OwnI.cvt {h : Hp} {v : AV} {W : List Int} (O : OwnI h v W) : ∃ a, cvt false h v = some a ∧ ∃ b, nrm (.l 1) a = .lst 1 b (W.map enI) := by
  rcases O with ⟨rfl, rfl⟩ | ⟨id, rfl, h1⟩
  · exact ⟨nilS, rfl, true, rfl⟩
  · exact ⟨.lst 1 false (W.map enI), cvt_whole h1 (by simp) (by simp) (okE_map fun x => by simp), false, rfl⟩
theorem OwnI.len {β : Type} {h : Hp} {v : AV} {W : List Int} (O : OwnI h v W) (k : Go.AM.K β) : lenK v k = k (I W.length) := by
  rcases O with ⟨rfl, rfl⟩ | ⟨id, rfl, h1⟩ <;> rfl
theorem OwnI.mono {h h' : Hp} {v : AV} {W : List Int} (O : OwnI h v W) (hk : ∀ j < h.length, h'[j]? = h[j]?) : OwnI h' v W := by
  rcases O with O | ⟨id, rfl, h1⟩
  · exact .inl O
  · exact .inr ⟨id, rfl, by rw [hk id (List.getElem?_eq_some_iff.1 h1).1, h1]⟩
def fewS (l : List Envl) (sch : List Int) : Bool := decide (l.length ≤ 14) && decide (sch.length ≤ 24)
theorem F_law41_few_val (l : List Envl) (b : Bool) (sch : List Int) (b2 : Bool) (h : Hp) : F_law41_few [.lst 10 b (l.map encV), .lst 1 b2 (sch.map enI)] h = some (B (fewS l sch), h) := by
  refine F_law41_few_run (a0 := .lst 10 b (l.map encV)) (a1 := .lst 1 b2 (sch.map enI)) rfl ?_ h
  have e1 : decide ((l.length : Int) ≤ 14) = decide (l.length ≤ 14) := by rw [decide_eq_decide]; omega
  have e2 : decide ((sch.length : Int) ≤ 24) = decide (sch.length ≤ 24) := by rw [decide_eq_decide]; omega
  simp only [nrm, nrmC]
  simp -implicitDefEqProofs only [f_law41_few, lenK_lst, List.length_map, arithK_leq, grpK_and, e1, e2]
  rfl
end Go.AM


namespace Go.AM
open Go.Proofs
set_option linter.unusedVariables false
set_option linter.unusedSimpArgs false
set_option linter.constructorNameAsVariable false
set_option maxRecDepth 20000
section
variable {β : Type} {P : Program} {T : Tab} {D : DTab} {N : Nat} {K : AV → Hp → Option β}
theorem Index_int_L2 {T : Tab} {D : DTab} {N : Nat} {x0 : Hp → Option β} {xr : AV → Hp → Option β} {l : List Int} {b : Bool} {v : Int} {h : Hp} (hl : l.length < 4611686018427387904) (heq : ∀ (x y : Int) (h : Hp) (k : Go.AM.K β), eqK Try.prog false 3 (I x) (I y) h k = k (B (x == y))) :
    ∀ (n i : Nat), i ≤ l.length → l.length < i + n → f_slices_Index_int_L2 Try.prog T D N x0 xr n (.lst 1 b (l.map enI)) ((fun x => I x) v) (I l.length) (I i) h = match (l.drop i).findIdx? (fun y => v == y) with | some j => xr (I ((i + j : Nat) : Int)) h | none => x0 h := by
  intro n
  induction n with
  | zero => intro i h1 h2; omega
  | succ n ih =>
    intro i h1 h2
    show f_slices_Index_int_b2 Try.prog T D N (f_slices_Index_int_L2 Try.prog T D N x0 xr n) x0 xr _ _ _ _ h = _
    unfold f_slices_Index_int_b2
    rcases Nat.lt_or_ge i l.length with hi | hi
    · have hx : l[i]? = some l[i] := List.getElem?_eq_getElem hi
      have hlt : ((i : Int) < (l.length : Int)) := by omega
      have hw : IntKind.i64.wrap ((i : Int) + 1) = ((i + 1 : Nat) : Int) := by rw [wrap64 (by omega) (by omega)]; omega
      have hpx := fun k => heq v l[i] h k
      have h3 := ih (i + 1) hi (by omega)
      have ic : ∀ k : Go.AM.K β, iaK 1 (.lst 1 b (l.map enI)) (I i) k = k (.ep (enI l[i]) 0) := fun k => iaK_at i rfl hx k
      have ld : ∀ k : Go.AM.K β, ldK 1 false (.ep (enI l[i]) 0) h k = k ((fun y => I y) l[i]) := fun k => by simp [enI]
      rw [List.drop_eq_getElem_cons hi, List.findIdx?_cons]
      dsimp only at h3 ld ⊢
      simp only [arithK_lss, hlt, decide_true, condK_bool, if_true, ic, ld, hpx]
      cases hc : (v == l[i]) with
      | true => simp
      | false =>
        simp only [Bool.false_eq_true, if_false, arithK_add, hw]
        refine h3.trans ?_
        cases (List.drop (i + 1) l).findIdx? (fun y => v == y) with
        | none => rfl
        | some j =>
          show xr (I ((i + 1 + j : Nat) : Int)) h = xr (I ((i + (j + 1) : Nat) : Int)) h
          rw [show i + 1 + j = i + (j + 1) by omega]
    · have : i = l.length := by omega
      subst this
      simp
theorem F_slices_Contains_int_val (l : List Int) (b : Bool) (v : Int) (hl : l.length < 1000000) (heq : ∀ (x y : Int) (h : Hp) (k : Go.AM.K AV), eqK Try.prog false 3 (I x) (I y) h k = k (B (x == y))) (h : Hp) : F_slices_Contains_int [.lst 1 b (l.map enI), (fun x => I x) v] h = some (B (l.contains v), h) := by
  have e : ∀ h, F_slices_Index_int [.lst 1 b (l.map enI), (fun x => I x) v] h = some (I (match l.findIdx? (fun y => v == y) with | some j => (j : Int) | none => -1), h) :=
    F_slices_Index_int_run rfl (by
      have := Index_int_L2 (l := l) (T := t_slices_Index_int) (D := d_slices_Index_int) (N := NN) (b := b) (v := v) (h := []) (x0 := fun h => f_slices_Index_int_j1 Try.prog t_slices_Index_int d_slices_Index_int NN (fun v g => cvt false g v) h) (xr := fun a h => cvt false h a) (by omega) heq NN 0 (Nat.zero_le _) (by have := NN_ge; omega)
      simp only [nrm, nrmC, f_slices_Index_int, lenK_lst, List.length_map]
      simp only [List.drop_zero] at this
      refine this.trans ?_
      cases l.findIdx? (fun y => v == y) with
      | none => rfl
      | some j => simp)
  refine F_slices_Contains_int_run rfl ?_ h
  simp only [nrm, nrmC, f_slices_Contains_int, t_slices_Contains_int_56, callK_F, e]
  have : l.contains v = (l.findIdx? (fun y => v == y)).isSome := by rw [List.findIdx?_isSome, List.contains_eq_any_beq]
  rw [this]
  cases l.findIdx? (fun y => v == y) <;> simp
end
attribute [local congr] arithK_cg eqK_cg notK_cg convK_cg pickK_cg buildK_cg ldK_cg nilK_cg sliceK_cg faK_cg fldK_cg iaK_cg iaA_cg lookK_cg capK_cg exK_cg lenK_cg minK_cg maxK_cg effK_cg callK_cg callVK_cg effD_cg gopD_cg grpK_cg condK_cg cond_cg
def uniqI : List Int → List Int → List Int
  | o, [] => o
  | o, s :: r => if o.contains s = true then uniqI o r else uniqI (o ++ [s]) r
theorem hasK_keys (c : List (Int × Int)) (s : Int) : hasK c s = (c.map (·.1)).contains s := by
  unfold hasK
  rw [List.contains_eq_any_beq, List.any_map]
  congr 1
  funext e
  show (e.1 == s) = (s == e.1)
  rw [Bool.eq_iff_iff, beq_iff_eq, beq_iff_eq]
  exact eq_comm
theorem fst_keys : ∀ (r : List Int) (c : List (Int × Int)) (n : Nat), (fstP c n r).map (·.1) = uniqI (c.map (·.1)) r
  | [], c, n => rfl
  | s :: r, c, n => by
    simp only [fstP, uniqI, ← hasK_keys]
    split
    · exact fst_keys r c (n + 1)
    · rw [fst_keys r _ (n + 1), List.map_append]
      rfl
theorem uniqI_nodup : ∀ (r o : List Int), o.Nodup → (uniqI o r).Nodup
  | [], o, h => h
  | e :: r, o, h => by
    simp only [uniqI]
    split
    · exact uniqI_nodup r o h
    · rename_i hc
      refine uniqI_nodup r _ (List.nodup_append.2 ⟨h, by simp, fun x hx y hy => ?_⟩)
      simp only [List.mem_singleton] at hy
      subst hy
      rintro rfl
      exact hc (by simpa using hx)
theorem mem_uniqI : ∀ (r o : List Int) (x : Int), x ∈ uniqI o r → x ∈ o ∨ x ∈ r
  | [], o, x, h => .inl h
  | e :: r, o, x, h => by
    simp only [uniqI] at h
    split at h
    · rcases mem_uniqI r o x h with h | h
      · exact .inl h
      · exact .inr (by simp [h])
    · rcases mem_uniqI r _ x h with h | h
      · rcases List.mem_append.1 h with h | h
        · exact .inl h
        · simp only [List.mem_singleton] at h; exact .inr (by simp [h])
      · exact .inr (by simp [h])
def one (p : Prop) [Decidable p] : Int := if p then 1 else 0
end Go.AM


namespace Go.AM
open Go.Proofs
set_option linter.unusedVariables false
set_option linter.unusedSimpArgs false
set_option linter.constructorNameAsVariable false
set_option maxRecDepth 20000
section
variable {β : Type} {P : Program} {T : Tab} {D : DTab} {N : Nat} {K : AV → Hp → Option β}
theorem Index_Envelope_L2 {T : Tab} {D : DTab} {N : Nat} {x0 : Hp → Option β} {xr : AV → Hp → Option β} {l : List Envl} {b : Bool} {v : Envl} {h : Hp} {m : Nat} (hm : h[m]? = some (.arr 10 [encV v] true false)) (hl : l.length < 4611686018427387904) (heq : ∀ (x y : Envl) (h : Hp) (k : Go.AM.K β), eqK Try.prog false 33 (.agg (encV x)) (.agg (encV y)) h k = k (B (x == y))) :
    ∀ (n i : Nat), i ≤ l.length → l.length < i + n → f_slices_Index_Envelope_L2 Try.prog T D N x0 xr n (.lst 10 b (l.map encV)) (.ptr m 0 0 1) (I l.length) (I i) h = match (l.drop i).findIdx? (fun y => v == y) with | some j => xr (I ((i + j : Nat) : Int)) h | none => x0 h := by
  intro n
  induction n with
  | zero => intro i h1 h2; omega
  | succ n ih =>
    intro i h1 h2
    show f_slices_Index_Envelope_b2 Try.prog T D N (f_slices_Index_Envelope_L2 Try.prog T D N x0 xr n) x0 xr _ _ _ _ h = _
    unfold f_slices_Index_Envelope_b2
    rcases Nat.lt_or_ge i l.length with hi | hi
    · have hx : l[i]? = some l[i] := List.getElem?_eq_getElem hi
      have hlt : ((i : Int) < (l.length : Int)) := by omega
      have hw : IntKind.i64.wrap ((i : Int) + 1) = ((i + 1 : Nat) : Int) := by rw [wrap64 (by omega) (by omega)]; omega
      have hpx := fun k => heq v l[i] h k
      have h3 := ih (i + 1) hi (by omega)
      have ic : ∀ k : Go.AM.K β, iaK 10 (.lst 10 b (l.map encV)) (I i) k = k (.ep (encV l[i]) 0) := fun k => iaK_at i rfl hx k
      have ld : ∀ k : Go.AM.K β, ldK 10 true (.ep (encV l[i]) 0) h k = k ((fun y => .agg (encV y)) l[i]) := fun k => by simp [encV]
      rw [List.drop_eq_getElem_cons hi, List.findIdx?_cons]
      have lv : ∀ k : Go.AM.K β, ldK 10 true (.ptr m 0 0 1) h k = k ((fun x => .agg (encV x)) v) := fun k => by simp [hm, encV]
      dsimp only at h3 ld lv ⊢
      simp only [arithK_lss, hlt, decide_true, condK_bool, if_true, ic, ld, lv, hpx]
      cases hc : (v == l[i]) with
      | true => simp
      | false =>
        simp only [Bool.false_eq_true, if_false, arithK_add, hw]
        refine h3.trans ?_
        cases (List.drop (i + 1) l).findIdx? (fun y => v == y) with
        | none => rfl
        | some j =>
          show xr (I ((i + 1 + j : Nat) : Int)) h = xr (I ((i + (j + 1) : Nat) : Int)) h
          rw [show i + 1 + j = i + (j + 1) by omega]
    · have : i = l.length := by omega
      subst this
      simp
theorem F_slices_Contains_Envelope_val (l : List Envl) (b : Bool) (v : Envl) (hl : l.length < 1000000) (heq : ∀ (x y : Envl) (h : Hp) (k : Go.AM.K AV), eqK Try.prog false 33 (.agg (encV x)) (.agg (encV y)) h k = k (B (x == y))) (h : Hp) : F_slices_Contains_Envelope [.lst 10 b (l.map encV), (fun x => .agg (encV x)) v] h = some (B (l.contains v), h) := by
  have e : ∀ h, F_slices_Index_Envelope [.lst 10 b (l.map encV), (fun x => .agg (encV x)) v] h = some (I (match l.findIdx? (fun y => v == y) with | some j => (j : Int) | none => -1), h) :=
    F_slices_Index_Envelope_run rfl (by
      have := Index_Envelope_L2 (l := l) (T := t_slices_Index_Envelope) (D := d_slices_Index_Envelope) (N := NN) (b := b) (v := v) (h := [.arr 10 [encV v] true false]) (m := 0) (x0 := fun h => f_slices_Index_Envelope_j1 Try.prog t_slices_Index_Envelope d_slices_Index_Envelope NN (fun v g => cvt false g v) h) (xr := fun a h => cvt false h a) rfl (by omega) heq NN 0 (Nat.zero_le _) (by have := NN_ge; omega)
      have bx : ∀ k : AV → Hp → Option AV, effK (boxE 10 ((fun x => .agg (encV x)) v) ([] : Hp).length) [] k = k (.ptr 0 0 0 1) [.arr 10 [encV v] true false] := fun k => by simp [boxE, encV]
      simp only [nrm, nrmC, f_slices_Index_Envelope, lenK_lst, List.length_map, bx]
      simp only [List.drop_zero] at this
      refine this.trans ?_
      cases l.findIdx? (fun y => v == y) with
      | none => rfl
      | some j => simp)
  have bx : ∀ k : AV → Hp → Option AV, effK (boxE 10 ((fun x => .agg (encV x)) v) ([] : Hp).length) [] k = k (.ptr 0 0 0 1) [.arr 10 [encV v] true false] := fun k => by simp [boxE, encV]
  have lv : ∀ k : Go.AM.K AV, ldK 10 true (.ptr 0 0 0 1) [.arr 10 [encV v] true false] k = k ((fun x => .agg (encV x)) v) := fun k => by simp [encV]
  refine F_slices_Contains_Envelope_run rfl ?_ h
  simp only [nrm, nrmC, f_slices_Contains_Envelope, bx, lv, t_slices_Contains_Envelope_58, callK_F, e]
  have : l.contains v = (l.findIdx? (fun y => v == y)).isSome := by rw [List.findIdx?_isSome, List.contains_eq_any_beq]
  rw [this]
  cases l.findIdx? (fun y => v == y) <;> simp
theorem IndexFunc_Envelope_L2 {x0 : Hp → Option β} {xr : AV → Hp → Option β} {l : List Envl} {b : Bool} {fv : AV} {h : Hp} {p : Envl → Bool} (hl : l.length < 4611686018427387904) (hp : ∀ x ∈ l, ∀ k : AV → Hp → Option β, callVK T fv [.agg (encV x)] h k = k (B (p x)) h) :
    ∀ (n i : Nat), i ≤ l.length → l.length < i + n → f_slices_IndexFunc_Envelope_L2 P T D N x0 xr n (.lst 10 b (l.map encV)) fv (I l.length) (I i) h = match (l.drop i).findIdx? p with | some j => xr (I ((i + j : Nat) : Int)) h | none => x0 h := by
  intro n
  induction n with
  | zero => intro i h1 h2; omega
  | succ n ih =>
    intro i h1 h2
    show f_slices_IndexFunc_Envelope_b2 P T D N (f_slices_IndexFunc_Envelope_L2 P T D N x0 xr n) x0 xr _ _ _ _ h = _
    unfold f_slices_IndexFunc_Envelope_b2
    rcases Nat.lt_or_ge i l.length with hi | hi
    · have hx : l[i]? = some l[i] := List.getElem?_eq_getElem hi
      have hlt : ((i : Int) < (l.length : Int)) := by omega
      have hw : IntKind.i64.wrap ((i : Int) + 1) = ((i + 1 : Nat) : Int) := by rw [wrap64 (by omega) (by omega)]; omega
      have hpx := hp l[i] (List.getElem_mem hi)
      rw [List.drop_eq_getElem_cons hi, List.findIdx?_cons]
      simp [hlt, hx, hw, encV] at hpx ⊢
      rw [hpx]
      cases hc : p l[i] with
      | true => simp
      | false =>
        have h3 := ih (i + 1) hi (by omega)
        rw [show ((i : Int) + 1) = ((i + 1 : Nat) : Int) by omega]
        simp only [Bool.false_eq_true, if_false]
        refine h3.trans ?_
        cases (List.drop (i + 1) l).findIdx? p with
        | none => rfl
        | some j =>
          show xr (I ((i + 1 + j : Nat) : Int)) h = xr (I ((i + (j + 1) : Nat) : Int)) h
          rw [show i + 1 + j = i + (j + 1) by omega]
    · have : i = l.length := by omega
      subst this
      simp
theorem IndexFunc_Envelope_K {l : List Envl} {b : Bool} {fv : AV} {h : Hp} {p : Envl → Bool} {K : AV → Hp → Option β} (hl : l.length < N) (hN : N < 4611686018427387904) (hp : ∀ x ∈ l, ∀ k : AV → Hp → Option β, callVK T fv [.agg (encV x)] h k = k (B (p x)) h) :
    f_slices_IndexFunc_Envelope P T D N K (.lst 10 b (l.map encV)) fv h = K (I (match l.findIdx? p with | some j => (j : Int) | none => -1)) h := by
  unfold f_slices_IndexFunc_Envelope
  simp only [lenK_lst, List.length_map]
  have := IndexFunc_Envelope_L2 (P := P) (D := D) (N := N) (b := b) (x0 := fun h => f_slices_IndexFunc_Envelope_j1 P T D N K h) (xr := fun a h => K a h) (by omega) hp N 0 (Nat.zero_le _) (by omega)
  simp only [List.drop_zero] at this
  refine this.trans ?_
  cases l.findIdx? p with
  | none => rfl
  | some j => simp
end
attribute [local congr] arithK_cg eqK_cg notK_cg convK_cg pickK_cg buildK_cg ldK_cg nilK_cg sliceK_cg faK_cg fldK_cg iaK_cg iaA_cg lookK_cg capK_cg exK_cg lenK_cg minK_cg maxK_cg effK_cg callK_cg callVK_cg effD_cg gopD_cg grpK_cg condK_cg cond_cg
theorem eqs_V (x y : Envl) (n : Bool) (h : Hp) {β : Type} (k : Go.AM.K β) : eqK Try.prog n 33 (.agg (encV x)) (.agg (encV y)) h k = k (B (xor n (x == y))) := by
  obtain ⟨a0, a1, a2, a3, a4, a5, a6, a7, a8, a9⟩ := x
  obtain ⟨b0, b1, b2, b3, b4, b5, b6, b7, b8, b9⟩ := y
  simp only [encV, eqs_33]
  congr 4
  rw [Bool.eq_iff_iff]
  simp [Envl.mk.injEq, Msg.mk.injEq]
def kvB (c : List Int) : List (Value × AV) := c.map fun k => (Value.int .i64 k, B true)
section
variable {P : Program} {kt : TypeId}
theorem lookupB (hu : P.underlying kt = some (.int .i64)) (n : Int) : ∀ c : List Int, lookupKV (kvB c) (keyEq P kt) (.int .i64 n) = some (if c.contains n = true then some (B true) else none)
  | [] => rfl
  | e :: c => by
    have ih := lookupB hu n c
    simp only [kvB, List.map_cons, lookupKV, keyEq_int hu] at ih ⊢
    by_cases q : n = e
    · subst q; simp
    · have : (e :: c).contains n = c.contains n := by rw [List.contains_cons]; simp [q]
      rw [this]
      simp only [q, decide_false]
      exact ih
theorem lookB {β : Type} {h : Hp} {id : Nat} {c : List Int} {n : Int} (hu : P.underlying kt = some (.int .i64)) (hid : h[id]? = some (.map (kvB c))) (k : K β) : lookK P kt (.s (.bool false)) false (.mp id) (I n) h k = k (B (c.contains n)) := by
  have e : toV (I n) = some (.int .i64 n) := rfl
  unfold lookK
  simp only [e, hid, keyOk_int hu, lookupB hu n c, if_true]
  cases c.contains n <;> rfl
theorem updateB (hu : P.underlying kt = some (.int .i64)) (n : Int) : ∀ c : List Int, c.contains n = false → updateKV (kvB c) (keyEq P kt) (.int .i64 n) (B true) = some (kvB (c ++ [n]))
  | [], _ => rfl
  | e :: c, h => by
    rw [List.contains_cons, Bool.or_eq_false_iff, beq_eq_false_iff_ne] at h
    have ih := updateB hu n c h.2
    simp only [kvB, List.map_cons, List.cons_append, updateKV, keyEq_int hu] at ih ⊢
    simp [h.1, ih]
theorem mupB {h : Hp} {id : Nat} {c : List Int} {n : Int} (hu : P.underlying kt = some (.int .i64)) (hid : h[id]? = some (.map (kvB c))) (hc : c.contains n = false) : mupE P kt (.mp id) (I n) (.s (.bool true)) h = some (.u, ⟨[(id, .map (kvB (c ++ [n])))], [], [id]⟩) := by
  have e : toV (I n) = some (.int .i64 n) := rfl
  unfold mupE
  simp only [e, hid, keyOk_int hu, updateB hu n c hc, if_true]
end
theorem chkE_form : ∀ (l : List Envl) (c : List ((Int × Int) × Unit)) (i : Nat), (chkE c i l).2 = 0 → ∀ e ∈ l, formE e = 0
  | [], _, _, _ => by simp
  | x :: l, c, i, h => by
    simp only [chkE] at h
    split at h
    · rename_i h1; exact absurd h h1
    · rename_i h1
      split at h
      · simp at h
      · intro e he
        rcases List.mem_cons.1 he with rfl | he
        · simpa using h1
        · exact chkE_form l _ _ h e he
theorem chkS_to {l : List Envl} (h : (chkS l).2 = 0) : ∀ e ∈ l, isNode e.to = true := fun e he => by
  have : (chkE [] 0 l).2 = 0 := by
    unfold chkS at h
    split at h
    · simp at h
    · exact h
  have hf := chkE_form l [] 0 this e he
  unfold formE at hf
  split at hf
  · simp at hf
  · rename_i hr
    simp [rangeE] at hr
    simp [isNode]
    omega
theorem lostA_facts {c : List (Int × Int)} {n : Nat} : (∀ (i : Nat) (x : Int), (lostA c n)[i]? = some x → 0 ≤ x ∧ x < (n : Int) ∧ hasK c x = false) ∧ ∀ (i : Nat) (x y : Int), (lostA c n)[i]? = some x → (lostA c n)[i + 1]? = some y → x < y := by
  have hp : (lostA c n).Pairwise (· < ·) := by
    unfold lostA
    rw [List.pairwise_map]
    exact (List.pairwise_lt_range.sublist List.filter_sublist).imp fun {a b} h => by show (a : Int) < (b : Int); omega
  refine ⟨fun i x hx => ?_, fun i x y hx hy => ?_⟩
  · have := List.mem_of_getElem? hx
    unfold lostA at this
    obtain ⟨j, hj, rfl⟩ := List.mem_map.1 this
    obtain ⟨h1, h2⟩ := List.mem_filter.1 hj
    have := List.mem_range.1 h1
    exact ⟨by omega, by omega, by simpa using h2⟩
  · obtain ⟨h1, rfl⟩ := List.getElem?_eq_some_iff.1 hx
    obtain ⟨h2, rfl⟩ := List.getElem?_eq_some_iff.1 hy
    exact List.pairwise_iff_getElem.1 hp i (i + 1) h1 h2 (by omega)
theorem mem_uniqI2 : ∀ (r o : List Int) (x : Int), x ∈ o ∨ x ∈ r → x ∈ uniqI o r
  | [], o, x, h => by simpa [uniqI] using h
  | e :: r, o, x, h => by
    simp only [uniqI]
    split
    · rename_i hc
      refine mem_uniqI2 r o x ?_
      rcases h with h | h
      · exact .inl h
      · rcases List.mem_cons.1 h with rfl | h
        · exact .inl (by simpa using hc)
        · exact .inr h
    · refine mem_uniqI2 r _ x ?_
      rcases h with h | h
      · exact .inl (by simp [h])
      · rcases List.mem_cons.1 h with rfl | h
        · exact .inl (by simp)
        · exact .inr h
theorem hasK_fst {sch : List Int} {x : Int} (h : hasK (fstS sch) x = false) : sch.contains x = false := by
  rw [hasK_keys, fst_keys] at h
  rw [Bool.eq_false_iff] at h ⊢
  intro hc
  exact h (by simpa using mem_uniqI2 sch [] x (.inr (by simpa using hc)))
theorem filter_two {α : Type} (p : α → Bool) : ∀ l : List α, (l.filter fun x => !p x).length + (l.filter p).length = l.length
  | [] => rfl
  | x :: l => by
    have := filter_two p l
    cases h : p x <;> simp [h] <;> omega
theorem lost_count {sch : List Int} {n : Nat} (h : ∀ i ∈ sch, 0 ≤ i ∧ i < (n : Int)) : (lostA (fstS sch) n).length + (fstS sch).length = n := by
  have h1 : ((List.range n).filter fun i : Nat => hasK (fstS sch) (i : Int)).length = (fstS sch).length := by
    have hU := uniqI_nodup sch [] .nil
    have hk : (fstS sch).map (·.1) = uniqI [] sch := fst_keys sch [] 0
    have hp : (((List.range n).filter fun i : Nat => hasK (fstS sch) (i : Int)).map fun i : Nat => (i : Int)).Perm (uniqI [] sch) := by
      refine (List.perm_ext_iff_of_nodup ?_ hU).2 fun x => ?_
      · exact List.Pairwise.map _ (fun a b hab => by intro h; exact hab (by omega)) ((List.nodup_range (n := n)).sublist List.filter_sublist)
      · rw [List.mem_map]
        constructor
        · rintro ⟨j, hj, rfl⟩
          have := (List.mem_filter.1 hj).2
          rw [hasK_keys, hk] at this
          simpa using this
        · intro hx
          have hm : 0 ≤ x ∧ x < (n : Int) := by
            rcases mem_uniqI sch [] x hx with q | q
            · simp at q
            · exact h x q
          refine ⟨x.toNat, List.mem_filter.2 ⟨List.mem_range.2 (by omega), ?_⟩, by omega⟩
          rw [hasK_keys, hk, show ((x.toNat : Nat) : Int) = x by omega]
          simpa using hx
    have := hp.length_eq
    rw [List.length_map] at this
    rw [this, ← hk, List.length_map]
  have h2 := filter_two (fun i : Nat => hasK (fstS sch) (i : Int)) (List.range n)
  rw [h1, List.length_range] at h2
  unfold lostA
  rw [List.length_map]
  exact h2
def cntT (l : List Envl) (sch : List Int) (c : List Int) : Nat := ((dlv l sch).filter fun e => c.contains e.to).length
theorem cntT_snoc {l : List Envl} {sch c : List Int} {t : Int} (h : c.contains t = false) : cntT l sch (c ++ [t]) = cntT l sch c + (toL l sch t).length := by
  unfold cntT toL
  generalize dlv l sch = D
  induction D with
  | nil => rfl
  | cons e D ih =>
    have e1 : (c ++ [t]).contains e.to = (c.contains e.to || e.to == t) := by
      rw [Bool.eq_iff_iff]
      simp
    simp only [List.filter_cons, e1]
    by_cases q : e.to = t
    · have hc : c.contains e.to = false := by rw [q]; exact h
      have hb : (e.to == t) = true := by simpa using q
      simp only [hc, hb, Bool.or_true, if_true, Bool.false_eq_true, if_false, List.length_cons, ih]
      omega
    · have hb : (e.to == t) = false := by simpa using q
      simp only [hb, Bool.or_false, Bool.false_eq_true, if_false]
      cases c.contains e.to
      · simpa using ih
      · simp only [if_true, List.length_cons, ih]; omega
theorem dlv_len {l : List Envl} {sch : List Int} (h : ∀ i ∈ sch, 0 ≤ i ∧ i < (l.length : Int)) : (dlv l sch).length = sch.length := by
  unfold dlv
  induction sch with
  | nil => rfl
  | cons s sch ih =>
    have hs := h s (by simp)
    have : l[s.toNat]? = some l[s.toNat] := List.getElem?_eq_getElem (by omega)
    rw [List.filterMap_cons, this]
    simp only [List.length_cons, ih fun i hi => h i (by simp [hi])]
theorem mem_dlv {l : List Envl} {sch : List Int} {e : Envl} (h : e ∈ dlv l sch) : e ∈ l := by
  obtain ⟨s, -, hs⟩ := List.mem_filterMap.1 h
  exact List.mem_of_getElem? hs
theorem cntT_all {l : List Envl} {sch c : List Int} (h : ∀ i ∈ sch, 0 ≤ i ∧ i < (l.length : Int)) (hc : ∀ e ∈ l, c.contains e.to = true) : cntT l sch c = sch.length := by
  unfold cntT
  rw [List.filter_eq_self.2 fun e he => hc e (mem_dlv he), dlv_len h]
theorem acc1_at {l : List Envl} {b : Bool} {x y : Envl} {h : Hp} {id : Nat} (hl : l.length < 1000000) (h0 : h[0]? = some (.arr 1 [[.lst 10 b (l.map encV)]] true false)) (hi : h[id]? = some (.arr 10 [encV x] true false)) : F_law41_NetworkAccounts_1 [.agg (encV y), .ptr id 0 0 1, .ptr 0 0 0 1] h = some (B (!(y.to == x.to) || !(l.contains y)), h) := by
  refine F_law41_NetworkAccounts_1_q (g := [.arr 10 [encV y] true false]) ?_ rfl
  have bx : ∀ k : AV → Hp → Option (AV × Hp), effK (boxE 10 (.agg (encV y)) h.length) h k = k (.ptr h.length 0 0 1) (h ++ [.arr 10 [encV y] true false]) := fun k => effK_box 10 h.length _ h k rfl rfl rfl
  have e0 : ∀ k : Go.AM.K (AV × Hp), ldK 1 false (.ptr 0 0 0 1) (h ++ [.arr 10 [encV y] true false]) k = k (.lst 10 b (l.map encV)) := fun k => by rw [ldK_ptr, get_app h0]; rfl
  have e1 : ∀ k : Go.AM.K (AV × Hp), ldK 1 false (.ptr id 0 1 1) (h ++ [.arr 10 [encV y] true false]) k = k (I x.to) := fun k => by rw [ldK_ptr, get_app hi]; rfl
  have fc := F_slices_Contains_Envelope_val l b y hl (fun x y h k => by rw [eqs_V, Bool.false_xor])
  simp -implicitDefEqProofs only [f_law41_NetworkAccounts_1, bx, faK_ptr, Nat.zero_add, nl1, e1, eqK_int, Bool.true_xor, e0, nlw, t_law41_NetworkAccounts_1_33, callK_F, fc, notK_bool, grpK_or]
theorem acc_any {l d : List Envl} {b b2 : Bool} {x : Envl} {h : Hp} {id : Nat} (hl : l.length < 1000000) (hd : d.length < 1000000) (h0 : h[0]? = some (.arr 1 [[.lst 10 b (l.map encV)]] true false)) (hi : h[id]? = some (.arr 10 [encV x] true false)) (hall : ∀ y ∈ d, y.to = x.to ∧ y ∈ l) :
    F_slices_ContainsFunc_Envelope__law41_NetworkAccounts_1 [.lst 10 b2 (d.map encV), .fn 32 [.ptr id 0 0 1, .ptr 0 0 0 1]] h = some (B false, h) := by
  have fi : F_slices_IndexFunc_Envelope__law41_NetworkAccounts_1 [.lst 10 b2 (d.map encV), .fn 32 [.ptr id 0 0 1, .ptr 0 0 0 1]] h = some (I (-1), h) :=
    F_slices_IndexFunc_Envelope__law41_NetworkAccounts_1_q (g := []) (by
      rw [List.append_nil]
      have := IndexFunc_Envelope_K (T := t_slices_IndexFunc_Envelope__law41_NetworkAccounts_1) (P := Try.prog) (D := d_slices_IndexFunc_Envelope__law41_NetworkAccounts_1) (N := NN) (K := fun v h => some (v, h)) (l := d) (b := b2) (fv := .fn 32 [.ptr id 0 0 1, .ptr 0 0 0 1]) (h := h) (p := fun y => !(y.to == x.to) || !(l.contains y)) (by have := NN_ge; omega) NN_lt (fun y hy k => by
        show callK (t_slices_IndexFunc_Envelope__law41_NetworkAccounts_1 32) [.agg (encV y), .ptr id 0 0 1, .ptr 0 0 0 1] h k = _
        simp -implicitDefEqProofs only [t_slices_IndexFunc_Envelope__law41_NetworkAccounts_1_32, callK_F, acc1_at hl h0 hi])
      rw [this, show d.findIdx? (fun y => !(y.to == x.to) || !(l.contains y)) = none from List.findIdx?_eq_none_iff.2 fun y hy => by
        obtain ⟨q1, q2⟩ := hall y hy
        simp [q1, q2]]) rfl
  refine F_slices_ContainsFunc_Envelope__law41_NetworkAccounts_1_q (g := []) ?_ rfl
  rw [List.append_nil]
  simp -implicitDefEqProofs only [f_slices_ContainsFunc_Envelope, t_slices_ContainsFunc_Envelope__law41_NetworkAccounts_1_57, callK_F, fi, arithK_geq]
  rfl
end Go.AM


namespace Go.AM
open Go.Proofs
set_option linter.unusedVariables false
set_option linter.unusedSimpArgs false
set_option linter.constructorNameAsVariable false
set_option maxRecDepth 20000
attribute [local congr] arithK_cg eqK_cg notK_cg convK_cg pickK_cg buildK_cg ldK_cg nilK_cg sliceK_cg faK_cg fldK_cg iaK_cg iaA_cg lookK_cg capK_cg exK_cg lenK_cg minK_cg maxK_cg effK_cg callK_cg callVK_cg effD_cg gopD_cg grpK_cg condK_cg cond_cg
theorem acc_L6 {x0 : AV → AV → AV → AV → AV → Hp → Option AV} {xr : AV → Hp → Option AV} {X : Option AV} {l : List Envl} {b : Bool} {sch : List Int} {b2 : Bool} {A : List Int} {b3 : Bool} {v7 v8 : AV} {h : Hp} (hA : A.length < 100000) (hs : sch.length < 100000) (h0 : h[0]? = some (.arr 1 [[.lst 10 b (l.map encV)]] true false))
    (f1 : ∀ (i : Nat) (x : Int), A[i]? = some x → 0 ≤ x ∧ x < (l.length : Int) ∧ sch.contains x = false) (f2 : ∀ (i : Nat) (x y : Int), A[i]? = some x → A[i + 1]? = some y → x < y) (hx : x0 (.lst 1 b2 (sch.map enI)) (.ptr 0 0 0 1) (.lst 1 b3 (A.map enI)) v7 v8 h = X) : ∀ (n i : Nat), i ≤ A.length → A.length < i + n →
    f_law41_NetworkAccounts_L6 Try.prog t_law41_NetworkAccounts d_law41_NetworkAccounts NN x0 xr n (.lst 1 b2 (sch.map enI)) (.ptr 0 0 0 1) (.lst 1 b3 (A.map enI)) v7 v8 (.lst 1 b3 (A.map enI)) (I A.length) (I i) h = X := by
  intro n
  induction n with
  | zero => intro i h1 h2; omega
  | succ n ih =>
    intro i h1 h2
    show f_law41_NetworkAccounts_b6 Try.prog t_law41_NetworkAccounts d_law41_NetworkAccounts NN (f_law41_NetworkAccounts_L6 Try.prog t_law41_NetworkAccounts d_law41_NetworkAccounts NN x0 xr n) x0 xr _ _ _ _ _ _ _ _ h = _
    rcases Nat.lt_or_ge i A.length with hi | hi
    · have hlt : ((i : Int) < (A.length : Int)) := by omega
      have hw : IntKind.i64.wrap ((i : Int) + 1) = ((i + 1 : Nat) : Int) := by rw [wrap64 (by omega) (by omega)]; omega
      have hk : A[i]? = some A[i] := List.getElem?_eq_getElem hi
      generalize A[i] = x at hk
      obtain ⟨p1, p2, p3⟩ := f1 i x hk
      have n1 : ¬ x < 0 := by omega
      have n2 : ¬ x ≥ (l.length : Int) := by omega
      have ic : ∀ k : Go.AM.K AV, iaK 1 (.lst 1 b3 (A.map enI)) (I i) k = k (.ep (enI x) 0) := fun k => iaK_at i rfl hk k
      have ld : ∀ k : Go.AM.K AV, ldK 1 false (.ep (enI x) 0) h k = k (I x) := fun k => rfl
      have ll : ∀ k : Go.AM.K AV, ldK 1 false (.ptr 0 0 0 1) h k = k (.lst 10 b (l.map encV)) := fun k => by rw [ldK_ptr, h0]; rfl
      have fc := F_slices_Contains_int_val sch b2 x (by omega) (fun x y h k => by rw [eqK_int, Bool.false_xor])
      rw [p3] at fc
      have cnd : ∀ (K : AV → Hp → Option AV), grpK true (B (decide ((i : Int) > 0))) h (fun k111 => arithK .sub (I i) (.s (.int .i64 1)) fun x112 => iaK 1 (.lst 1 b3 (A.map enI)) x112 fun x113 => ldK 1 false x113 h fun x114 => arithK .geq x114 (I x) fun x115 => k111 x115 h) K = K (B false) h := fun K => by
        cases i with
        | zero => rfl
        | succ j =>
          have c0 : (((j + 1 : Nat) : Int) > 0) := by omega
          have w1 : IntKind.i64.wrap (((j + 1 : Nat) : Int) - 1) = (j : Int) := by rw [wrap64 (by omega) (by omega)]; omega
          have hj : A[j]? = some A[j] := List.getElem?_eq_getElem (by omega)
          have hlt2 := f2 j _ _ hj hk
          generalize A[j] = y at hj hlt2
          have iy : ∀ k : Go.AM.K AV, iaK 1 (.lst 1 b3 (A.map enI)) (I j) k = k (.ep (enI y) 0) := fun k => iaK_at j rfl hj k
          have ly : ∀ k : Go.AM.K AV, ldK 1 false (.ep (enI y) 0) h k = k (I y) := fun k => rfl
          have c1 : ¬ y ≥ x := by omega
          simp -implicitDefEqProofs only [c0, decide_true, grpK_tt, arithK_sub, w1, iy, ly, arithK_geq, c1, decide_false]
      simp -implicitDefEqProofs only [f_law41_NetworkAccounts_b6, arithK_lss, hlt, decide_true, condK_bool, if_true, ic, ld, n1, decide_false, grpK_ff, ll, lenK_lst, List.length_map, arithK_geq, n2, arithK_gtr, cnd, t_law41_NetworkAccounts_30, callK_F, fc, Bool.false_eq_true, if_false, arithK_add, hw]
      exact ih (i + 1) hi (by omega)
    · have : i = A.length := by omega
      subst this
      have c1 : ¬ ((A.length : Int) < (A.length : Int)) := by omega
      simp -implicitDefEqProofs only [f_law41_NetworkAccounts_b6, arithK_lss, c1, decide_false, condK_bool, Bool.false_eq_true, if_false]
      exact hx
theorem cntT_le (l : List Envl) (sch : List Int) (c : List Int) : cntT l sch c ≤ sch.length := Nat.le_trans (List.length_filter_le _ _) (List.length_filterMap_le _ _)
theorem acc_L3 {x2 : AV → AV → AV → AV → AV → AV → Hp → Option AV} {xr : AV → Hp → Option AV} {X : Option AV} {l : List Envl} {b : Bool} {sch : List Int} {b2 : Bool} {v5 v7 v8 : AV} (hl : l.length < 10000) (hs : sch.length < 10000) (hask : askS l sch = 0)
    (hx : ∀ h : Hp, h[0]? = some (.arr 1 [[.lst 10 (b && l.isEmpty) (l.map encV)]] true false) → x2 (.lst 1 (b2 && sch.isEmpty) (sch.map enI)) (.ptr 0 0 0 1) v5 v7 v8 (I sch.length) h = X) : ∀ (n : Nat) (pre post : List Envl) (c : List Int) (h : Hp), l = pre ++ post → post.length < n → h[0]? = some (.arr 1 [[.lst 10 (b && l.isEmpty) (l.map encV)]] true false) → h[1]? = some (.map (kvB c)) → (∀ e ∈ pre, c.contains e.to = true) →
    f_law41_NetworkAccounts_L3 Try.prog t_law41_NetworkAccounts d_law41_NetworkAccounts NN x2 xr n (.lst 1 (b2 && sch.isEmpty) (sch.map enI)) (.ptr 0 0 0 1) v5 v7 v8 (I (cntT l sch c : Int)) (.mp 1) (.lst 10 (b && l.isEmpty) (l.map encV)) (I l.length) (I pre.length) h = X := by
  obtain ⟨k0, -, k2, k3⟩ := askS_ok hask
  intro n
  induction n with
  | zero => intro pre post c h h1 h2; omega
  | succ n ih =>
    intro pre post c h hc hn h0 h1 hpre
    show f_law41_NetworkAccounts_b3 Try.prog t_law41_NetworkAccounts d_law41_NetworkAccounts NN (f_law41_NetworkAccounts_L3 Try.prog t_law41_NetworkAccounts d_law41_NetworkAccounts NN x2 xr n) x2 xr _ _ _ _ _ _ _ _ _ _ h = _
    cases post with
    | nil =>
      have : l = pre := by simpa using hc
      subst this
      have c1 : ¬ ((l.length : Int) < (l.length : Int)) := by omega
      simp -implicitDefEqProofs only [f_law41_NetworkAccounts_b3, arithK_lss, c1, decide_false, condK_bool, Bool.false_eq_true, if_false]
      rw [cntT_all k3 hpre]
      exact hx h h0
    | cons x post =>
      have hi : pre.length < l.length := by rw [hc]; simp
      have hx' : l[pre.length]? = some x := by rw [hc]; simp
      have hxl : x ∈ l := List.mem_of_getElem? hx'
      have hlt : ((pre.length : Int) < (l.length : Int)) := by omega
      have hw : IntKind.i64.wrap ((pre.length : Int) + 1) = (((pre ++ [x]).length : Nat) : Int) := by rw [wrap64 (by omega) (by omega)]; simp
      have ic : ∀ k : Go.AM.K AV, iaK 10 (.lst 10 (b && l.isEmpty) (l.map encV)) (I pre.length) k = k (.ep (encV x) 0) := fun k => iaK_at pre.length rfl hx' k
      have ld : ∀ k : Go.AM.K AV, ldK 10 true (.ep (encV x) 0) h k = k (.agg (encV x)) := fun k => rfl
      obtain ⟨g, hg⟩ : ∃ g, g = h ++ [AObj.arr 10 [encV x] true false] := ⟨_, rfl⟩
      have g0 : g[0]? = some (.arr 1 [[.lst 10 (b && l.isEmpty) (l.map encV)]] true false) := by rw [hg]; exact get_app h0
      have g1 : g[1]? = some (.map (kvB c)) := by rw [hg]; exact get_app h1
      have gb : g[h.length]? = some (.arr 10 [encV x] true false) := by rw [hg, get_new0]; rfl
      have hl1 : 1 < h.length := (List.getElem?_eq_some_iff.1 h1).1
      have ns : ∀ k : AV → Hp → Option AV, effK (stE 10 (.ptr h.length 0 0 1) (.agg (encV x)) (h ++ [.arr 10 [zE] true false])) (h ++ [.arr 10 [zE] true false]) k = k .u g := fun k => by rw [hg]; exact nst k
      have m1 : ∀ k : Go.AM.K AV, ldK 1 false (.ptr h.length 0 1 1) g k = k (I x.to) := fun k => by rw [hg]; exact nl1 k
      have lk := fun k : Go.AM.K AV => lookB (n := x.to) Try.underlying3 g1 k
      simp -implicitDefEqProofs only [f_law41_NetworkAccounts_b3, arithK_lss, hlt, decide_true, condK_bool, if_true, ic, ld, nbx, ns, faK_ptr, Nat.zero_add, m1, lk]
      cases hk : c.contains x.to with
      | true =>
        simp -implicitDefEqProofs only [if_true, f_law41_NetworkAccounts_j5, f_law41_NetworkAccounts_j4, arithK_add, hw]
        exact ih (pre ++ [x]) post c g (by simpa using hc) (by simpa using hn) g0 g1 (fun e he => by
          rcases List.mem_append.1 he with he | he
          · exact hpre e he
          · simp only [List.mem_singleton] at he; subst he; exact hk)
      | false =>
        obtain ⟨y, hy⟩ : ∃ y : Hp, y = g.set 1 (.map (kvB (c ++ [x.to]))) := ⟨_, rfl⟩
        have mu : ∀ k : AV → Hp → Option AV, effK (mupE Try.prog 3 (.mp 1) (I x.to) (.s (.bool true)) g) g k = k .u y := fun k => by
          rw [hy]
          exact effK_putg (mupB Try.underlying3 g1 hk) k
        have y0 : y[0]? = some (.arr 1 [[.lst 10 (b && l.isEmpty) (l.map encV)]] true false) := by rw [hy]; exact getSetN g0 (by decide)
        have y1 : y[1]? = some (.map (kvB (c ++ [x.to]))) := by rw [hy]; exact getSelfN g1
        have yb : y[h.length]? = some (.arr 10 [encV x] true false) := by rw [hy]; exact getSetN gb (by omega)
        have ll : ∀ k : Go.AM.K AV, ldK 1 false (.ptr 0 0 0 1) y k = k (.lst 10 (b && l.isEmpty) (l.map encV)) := fun k => by rw [ldK_ptr, y0]; rfl
        have my : ∀ k : Go.AM.K AV, ldK 1 false (.ptr h.length 0 1 1) y k = k (I x.to) := fun k => by rw [ldK_ptr, yb]; rfl
        have gE : ∀ h base, G_slices_Clone_Envelope [.lst 10 (b && l.isEmpty) (l.map encV)] h base = some (.lst 10 (b && l.isEmpty) (l.map encV), EF []) := fun h base => (closedXD_val (F_slices_Clone_Envelope_val l b (by omega) h) base).trans (by simp [SL, idss, ids])
        have gI : ∀ h base, G_slices_Clone_int [.lst 1 (b2 && sch.isEmpty) (sch.map enI)] h base = some (.lst 1 (b2 && sch.isEmpty) (sch.map enI), EF []) := fun h base => (closedXD_val (F_slices_Clone_int_val sch b2 (by omega) h) base).trans (by simp [SL, idss, ids])
        have gD : ∀ h base, G_network_Deliver [.lst 10 (b && l.isEmpty) (l.map encV), .lst 1 (b2 && sch.isEmpty) (sch.map enI), I x.to] h base = some (dlvV l sch x.to, EF []) := fun h base => (closedXD_val (F_network_Deliver_val l (b && l.isEmpty) sch (b2 && sch.isEmpty) x.to (by omega) (by omega) h) base).trans (by simp [idss, ids])
        have dj : disjAll [(1, 5), (3, 5)] [(idsOf (.ptr 0 0 0 1), []), ([], []), ([], []), ([], []), ([], []), (idsOf (.ptr h.length 0 1 1), []), ([], []), ([], []), ([], []), ([], []), ([], []), ([], [])] = true := rfl
        have hnode := chkS_to k0 x hxl
        have hto : toS l sch x.to = (toL l sch x.to, 0) := by unfold toS; rw [if_neg (by simp [hask]), if_neg (by simp [hnode])]
        have x0' : ∀ k : Go.AM.K AV, exK (dlvV l sch x.to) 0 k = k (.lst 10 (toL l sch x.to).isEmpty ((toL l sch x.to).map encV)) := fun k => by unfold dlvV; rw [hto]; rfl
        have x1' : ∀ k : Go.AM.K AV, exK (dlvV l sch x.to) 1 k = k (I 0) := fun k => by unfold dlvV; rw [hto]; rfl
        have htl := toL_len l sch x.to
        have fA := acc_any (l := l) (d := toL l sch x.to) (b := b && l.isEmpty) (b2 := (toL l sch x.to).isEmpty) (x := x) (by omega) (by omega) y0 yb (fun z hz => by
          unfold toL at hz
          obtain ⟨z1, z2⟩ := List.mem_filter.1 hz
          exact ⟨by simpa using z2, mem_dlv z1⟩)
        have hle := cntT_le l sch c
        have hsn := cntT_snoc (l := l) (sch := sch) hk
        have hw2 : IntKind.i64.wrap ((cntT l sch c : Int) + ((toL l sch x.to).length : Int)) = ((cntT l sch (c ++ [x.to]) : Nat) : Int) := by rw [wrap64 (by omega) (by omega)]; omega
        simp -implicitDefEqProofs only [Bool.false_eq_true, if_false, mu, ll, d_law41_NetworkAccounts_13, d_law41_NetworkAccounts_16, d_law41_NetworkAccounts_15, callE_F, gE, effD_ro, gI, faK_ptr, Nat.zero_add, my, gD, x0', x1', dj, cond_true, eqK_int, beq_self_eq_true, Bool.true_xor, Bool.not_true, grpK_ff, t_law41_NetworkAccounts_31, callK_F, fA, condK_bool, lenK_lst, List.length_map, arithK_add, hw2, f_law41_NetworkAccounts_j5, f_law41_NetworkAccounts_j4, hw]
        exact ih (pre ++ [x]) post (c ++ [x.to]) y (by simpa using hc) (by simpa using hn) y0 y1 (fun e he => by
          rcases List.mem_append.1 he with he | he
          · have := hpre e he; simp at this ⊢; exact .inl this
          · simp only [List.mem_singleton] at he; subst he; simp)
theorem accounts_law (l : List Envl) (b1 : Bool) (sch : List Int) (b2 : Bool) : F_law41_NetworkAccounts [SL 10 encV b1 l, SL 1 enI b2 sch] [] = some (B true, []) := by
  refine F_law41_NetworkAccounts_run (a0 := SL 10 encV b1 l) (a1 := SL 1 enI b2 sch) rfl ?_ []
  simp only [nrm, nrmC]
  have fw := F_law41_awake_val
  have ff := F_law41_few_val l (b1 && l.isEmpty) sch (b2 && sch.isEmpty)
  obtain ⟨H, hH⟩ : ∃ H : Hp, H = [.arr 1 [[.lst 10 (b1 && l.isEmpty) (l.map encV)]] true false] := ⟨_, rfl⟩
  have h0 : H[0]? = some (.arr 1 [[.lst 10 (b1 && l.isEmpty) (l.map encV)]] true false) := by rw [hH]; rfl
  have bx : ∀ k : AV → Hp → Option AV, effK (boxE 1 (.lst 10 (b1 && l.isEmpty) (l.map encV)) ([] : Hp).length) [] k = k (.ptr 0 0 0 1) H := fun k => by rw [hH]; rfl
  have ll : ∀ k : Go.AM.K AV, ldK 1 false (.ptr 0 0 0 1) H k = k (.lst 10 (b1 && l.isEmpty) (l.map encV)) := fun k => by rw [ldK_ptr, h0]; rfl
  simp -implicitDefEqProofs only [f_law41_NetworkAccounts, SL, bx, t_law41_NetworkAccounts_10, t_law41_NetworkAccounts_29, callK_F, fw, ll, ff, notK_bool, Bool.not_true, condK_bool, Bool.false_eq_true, if_false]
  cases hf : fewS l sch with
  | false => rfl
  | true =>
    have hf' := hf
    simp only [fewS, Bool.and_eq_true, decide_eq_true_eq] at hf'
    obtain ⟨l1, l2⟩ := hf'
    have fcE : ∀ h, F_slices_Clone_Envelope [.lst 10 (b1 && l.isEmpty) (l.map encV)] h = some (.lst 10 (b1 && l.isEmpty) (l.map encV), h) := fun h => F_slices_Clone_Envelope_val l b1 (by omega) h
    have fcI : ∀ h, F_slices_Clone_int [.lst 1 (b2 && sch.isEmpty) (sch.map enI)] h = some (.lst 1 (b2 && sch.isEmpty) (sch.map enI), h) := fun h => F_slices_Clone_int_val sch b2 (by omega) h
    have fL := fun h => F_network_Lost_val l (b1 && l.isEmpty) sch (b2 && sch.isEmpty) (by omega) (by omega) h
    have fR := fun h => F_network_Repeated_val l (b1 && l.isEmpty) sch (b2 && sch.isEmpty) (by omega) (by omega) h
    have tp : ∀ (a b : AV) (k : Go.AM.K AV), exK (.tup [a, b]) 0 k = k a := fun a b k => rfl
    have tq : ∀ (a b : AV) (k : Go.AM.K AV), exK (.tup [a, b]) 1 k = k b := fun a b k => rfl
    simp -implicitDefEqProofs only [Bool.not_true, Bool.false_eq_true, if_false, t_law41_NetworkAccounts_13, t_law41_NetworkAccounts_16, t_law41_NetworkAccounts_22, t_law41_NetworkAccounts_24, callK_F, fcE, fcI, fL, fR, ll, tupP, tp, tq, eqK_int, Bool.true_xor, Bool.false_xor, condK_bool, lenK_lst, List.length_map]
    by_cases q : askS l sch = 0
    · obtain ⟨k0, k1, k2, k3⟩ := askS_ok q
      have e1 : lostS l sch = (lostA (fstS sch) l.length, 0) := if_neg (by simp [q])
      have e2 : repS l sch = ((sch.length : Int) - (fstS sch).length, 0) := if_neg (by simp [q])
      obtain ⟨a1, a2⟩ := lostA_facts (c := fstS sch) (n := l.length)
      have hal := lostA_len (fstS sch) l.length
      have hcount := lost_count (sch := sch) (n := l.length) k3
      have hfl : (fstS sch).length ≤ sch.length := by simpa using fstP_len sch [] 0
      simp only [e1, e2, beq_self_eq_true, Bool.not_true, Bool.false_eq_true, if_false]
      refine acc_L6 (l := l) (b := b1 && l.isEmpty) (A := lostA (fstS sch) l.length) (by omega) (by omega) h0 (fun i x hx => by
        obtain ⟨p1, p2, p3⟩ := a1 i x hx
        exact ⟨p1, p2, hasK_fst p3⟩) a2 ?_ NN 0 (by omega) (by have := NN_ge; omega)
      have em : ∀ k : AV → Hp → Option AV, effK (some (.mp H.length, EN (.map []))) H k = k (.mp 1) (H ++ [.map []]) := fun k => by rw [hH]; rfl
      have h0' : (H ++ [AObj.map []])[0]? = some (.arr 1 [[.lst 10 (b1 && l.isEmpty) (l.map encV)]] true false) := get_app h0
      have ll' : ∀ k : Go.AM.K AV, ldK 1 false (.ptr 0 0 0 1) (H ++ [.map []]) k = k (.lst 10 (b1 && l.isEmpty) (l.map encV)) := fun k => by rw [ldK_ptr, h0']; rfl
      simp -implicitDefEqProofs only [f_law41_NetworkAccounts_j1, em, ll', lenK_lst, List.length_map]
      have hc0 : cntT l sch [] = 0 := by unfold cntT; rw [List.length_eq_zero_iff, List.filter_eq_nil_iff]; simp
      have := acc_L3 (l := l) (b := b1) (sch := sch) (b2 := b2) (v5 := .lst 1 (lostA (fstS sch) l.length).isEmpty ((lostA (fstS sch) l.length).map enI)) (v7 := I ((sch.length : Int) - (fstS sch).length)) (v8 := I 0) (x2 := fun w97_1 w97_2 w97_5 w97_7 w97_8 w97_11 h => f_law41_NetworkAccounts_j2 Try.prog t_law41_NetworkAccounts d_law41_NetworkAccounts NN (fun v g => cvt false g v) w97_1 w97_2 w97_5 w97_7 w97_8 w97_11 h) (xr := fun w98_4 h => cvt false h w98_4) (X := some (B true)) (by omega) (by omega) q (fun h h0 => by
        have lh : ∀ k : Go.AM.K AV, ldK 1 false (.ptr 0 0 0 1) h k = k (.lst 10 (b1 && l.isEmpty) (l.map encV)) := fun k => by rw [ldK_ptr, h0]; rfl
        have w1 : IntKind.i64.wrap ((l.length : Int) - ((lostA (fstS sch) l.length).length : Int)) = ((fstS sch).length : Int) := by rw [wrap64 (by omega) (by omega)]; omega
        have w2 : IntKind.i64.wrap (((fstS sch).length : Int) + ((sch.length : Int) - ((fstS sch).length : Int))) = (sch.length : Int) := by rw [wrap64 (by omega) (by omega)]; omega
        simp -implicitDefEqProofs only [f_law41_NetworkAccounts_j2, eqK_int, beq_self_eq_true, Bool.false_xor, grpK_tt, lenK_lst, List.length_map, lh, arithK_sub, w1, arithK_add, w2]
        rfl) NN [] l [] (H ++ [AObj.map []]) rfl (by have := NN_ge; omega) h0' (by rw [hH]; rfl) (by simp)
      rw [hc0] at this
      exact this
    · have ez : (askS l sch == 0) = false := by simpa using q
      have e1 : lostS l sch = ([], askS l sch) := if_pos q
      have e2 : repS l sch = (0, askS l sch) := if_pos q
      simp only [e1, e2, ez, Bool.not_false, if_true, beq_self_eq_true]
      simp -implicitDefEqProofs only [grpK_tt, List.length_nil, show (((0 : Nat) : Int) == 0) = true from rfl]
      rfl
end Go.AM


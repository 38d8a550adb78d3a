import Derived.Test.YtjmoiabkdpaknaaG4
import Derived.Below
import Derived.ChangeOld
import Derived.Carry
import Derived.OpenShut
set_option linter.unusedSectionVars false
set_option linter.unusedVariables false
set_option linter.unusedSimpArgs false
set_option linter.constructorNameAsVariable false
namespace Go.AM
open Go.Proofs
set_option linter.unusedVariables false
set_option linter.unusedSimpArgs false
set_option linter.constructorNameAsVariable false
set_option maxRecDepth 20000
theorem F_ref32_Sum_gro {h : Hp} {v : AV} {l : List Los} {w : AV} (hw : cvt false h v = some w) (hn : nrm (.l 4) w = .lst 4 l.isEmpty (l.map encO) ∨ w = .lst 4 false (l.map encO)) (hl : l.length < 1000000) : F_ref32_Sum [v] h = some (.tup [.agg (encO (sumOS l).1), I (sumOS l).2], h) := by
  rcases hn with hn | rfl
  · have := F_ref32_Sum_val l l.isEmpty hl []
    exact closedX_scal' (as' := [w]) (asl := [.lst 4 l.isEmpty (l.map encO)]) (by simp [hw]) (by simp only [nrms]; rw [hn]; rfl) rfl this (by simp [scal, scals, encO])
  · have := F_ref32_Sum_val l false hl []
    exact closedX_scal' (as' := [.lst 4 false (l.map encO)]) (asl := [.lst 4 false (l.map encO)]) (by simp [hw]) rfl rfl this (by simp [scal, scals, encO])
section
variable {β : Type} {P : Program} {T : Tab} {D : DTab} {N : Nat} {K : AV → Hp → Option β}
def Grm {α : Type} (sz : Nat) (f : α → List AV) (h : Hp) (v : AV) (l : List α) : Prop := ∃ k b, v = .sl sz k 0 l.length l.length b ∧ h[k]? = some (.arr sz (l.map f) true false) ∧ (b = true → l = [])
theorem Grm.keep {α : Type} {sz : Nat} {f : α → List AV} {h h' : Hp} {v : AV} {l : List α} (O : Grm sz f h v l) (hk : ∀ k o, idOf v = some k → h[k]? = some o → h'[k]? = some o) : Grm sz f h' v l := by
  obtain ⟨k, b, rfl, h2, h3⟩ := O
  exact ⟨k, b, rfl, hk k _ rfl h2, h3⟩
theorem Grm.app {α : Type} {sz : Nat} {f : α → List AV} {h : Hp} {v : AV} {l : List α} (O : Grm sz f h v l) (x : List AObj) : Grm sz f (h ++ x) v l := O.keep fun k o _ hk => get_app hk
theorem Grm.lt {α : Type} {sz : Nat} {f : α → List AV} {h : Hp} {v : AV} {l : List α} (O : Grm sz f h v l) : ∃ k, idOf v = some k ∧ k < h.length := by
  obtain ⟨k, b, rfl, h2, h3⟩ := O
  exact ⟨k, rfl, (List.getElem?_eq_some_iff.1 h2).1⟩
theorem Grm.snocE {α : Type} {sz : Nat} {f : α → List AV} {h : Hp} {v : AV} {l : List α} (O : Grm sz f h v l) {by_ m : Nat} {z : α} {b : Bool} (hm : h[m]? = some (.arr sz [f z] true false)) (hv : idOf v ≠ some m) (hf : ∀ x ∈ z :: l, (f x).length = sz) (hl : (l.length + 1) * by_ ≤ 140737488355328) :
    ∃ v' e, appE sz by_ v (.sl sz m 0 1 1 b) h h.length = some (v', e) ∧ Grm sz f (ap h e) v' (l ++ [z]) ∧ h.length ≤ (ap h e).length ∧ (∀ j o, h[j]? = some o → idOf v ≠ some j → (ap h e)[j]? = some o) ∧ (idOf v' = idOf v ∨ idOf v' = some h.length) ∧ (∀ i ∈ e.foot, some i = idOf v ∨ i = m) ∧ (∀ q ∈ e.puts, some q.1 = idOf v) := by
  have hz : (f z).length = sz := hf z (by simp)
  obtain ⟨k, bb, rfl, h2, h3⟩ := O
  have hkl := (List.getElem?_eq_some_iff.1 h2).1
  cases bb with
  | true =>
    have := h3 rfl
    subst this
    have hb : by_ ≤ 140737488355328 := by simpa using hl
    refine ⟨.sl sz h.length 0 1 1 false, ⟨[], [.arr sz [f z] true false], [k, m]⟩, by simp [appE, readSl, hm, hz, hb, idsOf, h2], ⟨h.length, false, rfl, by simp [ap], by simp⟩, by simp [ap], fun j o hj _ => by simpa [ap] using get_app hj, .inr rfl, fun i hi => by simp at hi; rcases hi with rfl | rfl <;> simp, by simp⟩
  | false =>
    refine ⟨.sl sz k 0 (l ++ [z]).length (l ++ [z]).length false, ⟨[(k, .arr sz ((l ++ [z]).map f) true false)], [], [k, m]⟩, by simp [appE, readSl, hm, h2, hz, hl, idsOf], ⟨k, false, rfl, by simp [ap, hkl], by simp⟩, by simp [ap], fun j o hj hn => ?_, .inl rfl, fun i hi => by simp at hi; rcases hi with rfl | rfl <;> simp, fun q hq => by simp at hq; subst hq; rfl⟩
    have hkj : k ≠ j := by rintro rfl; exact hn rfl
    simp only [ap, List.foldl_cons, List.foldl_nil, List.append_nil]
    rw [List.getElem?_set_ne hkj]; exact hj
theorem Grm.cvt {α : Type} {sz : Nat} {f : α → List AV} {h : Hp} {v : AV} {l : List α} (O : Grm sz f h v l) (hf : ∀ x st, (f x).all (fun c => bif st then isS c else plain c) = true) (st : Bool) : Go.AM.cvt st h v = some (.lst sz false (l.map f)) := by
  obtain ⟨k, b, rfl, h2, h3⟩ := O
  exact cvt_whole h2 (by simp) (by simp) (okE_map fun x => hf x st)
theorem Grm.len {α : Type} {sz : Nat} {f : α → List AV} {h : Hp} {v : AV} {l : List α} (O : Grm sz f h v l) (k : Go.AM.K β) : lenK v k = k (I l.length) := by
  obtain ⟨j, b, rfl, h2, h3⟩ := O
  simp
end
end Go.AM


namespace Go.AM
open Go.Proofs
set_option linter.unusedVariables false
set_option linter.unusedSimpArgs false
set_option linter.constructorNameAsVariable false
set_option maxRecDepth 20000
section
variable {β : Type} {P : Program} {T : Tab} {D : DTab} {N : Nat} {K : AV → Hp → Option β}
theorem ref44_Total_L2 {x0 : AV → AV → AV → AV → Hp → Option β} {X : List Los → Int → Int → Option β}
    (hx : ∀ (h : Hp) (v : AV) (o : List Los) (s g : Int), h[0]? = some (.arr 4 [encO zeroO] true false) → Grm 4 encO h v o → (∀ k, idOf v = some k → 1 ≤ k) → o.length < 1000 → x0 (.ptr 0 0 0 1) (I s) (I g) v h = X o s g)
    (l : List Ln) (b : Bool) (hok : ∀ x ∈ l, okLn x = true) (hl : l.length ≤ 64) : ∀ (n : Nat) (pre post : List Ln) (h : Hp) (v : AV) (o : List Los) (s g : Int), l = pre ++ post → post.length < n → h[0]? = some (.arr 4 [encO zeroO] true false) → Grm 4 encO h v o → (∀ k, idOf v = some k → 1 ≤ k) → o.length = pre.length →
    (0 ≤ s ∧ s ≤ 10737418240000 * pre.length) → (0 ≤ g ∧ g ≤ 10737418240000 * pre.length) →
    f_ref44_Total_L2 P T D N x0 n (.lst 8 b (l.map encLn)) (.ptr 0 0 0 1) (I s) (I g) v (I pre.length) h = X (o ++ losS post) (s + sentS post) (g + gotS post) := by
  intro n
  induction n with
  | zero => intro pre post h v o s g _ h2; omega
  | succ n ih =>
    intro pre post h v o s g hc hn h0 hO hv hol hs hg
    show f_ref44_Total_b2 P T D N (f_ref44_Total_L2 P T D N x0 n) x0 _ _ _ _ _ _ h = _
    have ln : ∀ k : Go.AM.K β, lenK (.lst 8 b (l.map encLn)) k = k (I l.length) := fun k => by simp
    cases post with
    | nil =>
      have : l = pre := by simpa using hc
      subst this
      simp [f_ref44_Total_b2, hx h v o s g h0 hO hv (by omega), losS, sentS, gotS]
    | cons c post =>
      have hi : pre.length < l.length := by rw [hc]; simp
      have hci : l[pre.length]? = some c := by rw [hc]; simp
      have hlt : ((pre.length : Int) < (l.length : Int)) := by omega
      have hw : IntKind.i64.wrap ((pre.length : Int) + 1) = (((pre ++ [c]).length : Nat) : Int) := by rw [wrap64 (by omega) (by omega)]; simp
      have ic : ∀ k : Go.AM.K β, iaK 8 (.lst 8 b (l.map encLn)) (I pre.length) k = k (.ep (encLn c) 0) := fun k => iaK_at pre.length rfl hci k
      obtain ⟨c1, c2, c3⟩ := okLn_bd (hok c (by rw [hc]; simp))
      have w1 : IntKind.i64.wrap (s + c.sent) = s + c.sent := wrap64 (by omega) (by omega)
      have w2 : IntKind.i64.wrap (g + c.got) = g + c.got := wrap64 (by omega) (by omega)
      obtain ⟨k0, hk0, hk1⟩ := hO.lt
      obtain ⟨v', e, q1, q2, q3, q4, q5, -, -⟩ := Grm.snocE (hO.app [.arr 4 [encO c.los] true false]) (by_ := 32) (m := h.length) (z := c.los) (b := true) (by rw [get_new0]; rfl) (fun hk => by rw [hk0] at hk; injection hk; omega) (fun x _ => rfl) (by omega)
      have h0' := q4 0 _ (get_app h0) (fun hk => by have := hv 0 hk; omega)
      have hv' : ∀ k, idOf v' = some k → 1 ≤ k := fun k hk => by
        rcases q5 with e | e
        · exact hv k (e ▸ hk)
        · rw [e] at hk; simp at hk; omega
      have step := ih (pre ++ [c]) post (ap (h ++ [.arr 4 [encO c.los] true false]) e) v' (o ++ [c.los]) (s + c.sent) (g + c.got) (by simpa using hc) (by simpa using hn) h0' q2 hv' (by simp [hol]) (by simp; omega) (by simp; omega)
      have e1 : X (o ++ losS (c :: post)) (s + sentS (c :: post)) (g + gotS (c :: post)) = X (o ++ [c.los] ++ losS post) (s + c.sent + sentS post) (g + c.got + gotS post) := by simp [losS, sentS, gotS, Int.add_assoc]
      rw [e1, ← step]
      simp only [f_ref44_Total_b2, ln, arithK_lss, hlt, decide_true, condK_bool, if_true, ic]
      generalize l.map encLn = LL at *
      clear step ih hx e1 q2 q4
      simp only [encLn, encO] at q1 ⊢
      simp only [faK_ep, ldK_ep, arithK_add]
      simp [bsE, fillS] at q1 ⊢
      have hat : ∀ l : List Nat, (l.all fun _ => true) = true := fun l => by simp
      simp [w1, w2, ap_new, q1, hw, disjAll, disj2, idsOf, hat]
theorem F_ref44_Total_val (l : List Ln) (b : Bool) (hl : l.length < 1000000) (h : Hp) : F_ref44_Total [.lst 8 b (l.map encLn)] h = some (.tup [I (totalLn l).1.1, I (totalLn l).1.2.1, .agg (encO (totalLn l).1.2.2), I (totalLn l).2], h) := by
  refine F_ref44_Total_run rfl ?_ h
  have fl := F_ref44_lines_val l b hl
  unfold totalLn
  have ln : ∀ k : Go.AM.K AV, lenK (.lst 8 b (l.map encLn)) k = k (I l.length) := fun k => by simp
  cases hA : linesS l with
  | false =>
    rw [hA] at fl
    generalize l.map encLn = LL at *
    simp [f_ref44_Total, boxE, fl, buildK, fillA, stE, ap, encO, zeroO]
  | true =>
    rw [hA] at fl
    rw [linesS_eq, Bool.and_eq_true, decide_eq_true_eq] at hA
    have hok := linesG_mem l none hA.1
    have hb : ∀ m : List Ln, (∀ x ∈ m, okLn x = true) → 0 ≤ sentS m ∧ 0 ≤ gotS m := by
      intro m
      induction m with
      | nil => simp [sentS, gotS]
      | cons x m ih =>
        intro hm
        have := ih (fun y hy => hm y (by simp [hy]))
        have := okLn_bd (hm x (by simp))
        simp [sentS, gotS] at *
        omega
    have L := ref44_Total_L2 (P := Try.prog) (T := t_ref44_Total) (D := d_ref44_Total) (N := NN) (x0 := fun w56_4 w56_6 w56_7 w56_8 h => f_ref44_Total_j1 Try.prog t_ref44_Total d_ref44_Total NN (fun v g => cvt false g v) w56_4 w56_6 w56_7 w56_8 h)
      (X := fun o s g => some (if (sumOS o).2 ≠ 0 ∨ alcL s = false ∨ alcL g = false then .tup [I 0, I 0, .agg (encO zeroO), I 15] else .tup [I s, I g, .agg (encO (sumOS o).1), I 0]))
      (fun h v o s g h0 hO hv hlo => by
        have fs := F_ref32_Sum_gro (hO.cvt (fun x st => by cases st <;> simp [encO, isS]) false) (.inr rfl) (by omega)
        obtain ⟨o0, t, rfl⟩ : ∃ o0 t, h = o0 :: t := by cases h with
          | nil => simp at h0
          | cons o t => exact ⟨o, t, rfl⟩
        simp only [List.getElem?_cons_zero, Option.some.injEq] at h0
        subst h0
        generalize sumOS o = so at *
        obtain ⟨so, er⟩ := so
        simp only [encO, zeroO] at fs ⊢
        by_cases q1 : er = 0
        · cases q2 : alcL s with
          | false => simp [f_ref44_Total_j1, fs, boxE, stE, ap, q1, q2, buildK, fillA, F_ref32_Is_val]
          | true => cases q3 : alcL g <;> simp [f_ref44_Total_j1, fs, boxE, stE, ap, q1, q2, q3, buildK, fillA, F_ref32_Is_val]
        · have q1' : (er == 0) = false := by simpa using q1
          simp [f_ref44_Total_j1, fs, boxE, stE, ap, q1, q1', buildK, fillA]) l b hok hA.2 NN [] l [.arr 4 [encO zeroO] true false, .arr 4 [] true false] (.sl 4 1 0 0 0 true) [] 0 0 rfl (by have := NN_ge; omega) rfl ⟨1, true, rfl, rfl, fun _ => rfl⟩ (by simp) rfl (by simp) (by simp)
    refine Eq.trans ?_ (L.trans ?_)
    · generalize l.map encLn = LL at *
      simp [f_ref44_Total, boxE, fl, ln, encO, zeroO, bsE, fillS]
    · obtain ⟨p1, p2⟩ := hb l hok
      have e1 : (alcL (sentS l) = false) ↔ 10737418240000 < sentS l := by simp [alcL, win]; omega
      have e2 : (alcL (gotS l) = false) ↔ 10737418240000 < gotS l := by simp [alcL, win]; omega
      simp only [List.nil_append, Int.zero_add, Bool.true_eq_false, if_false, e1, e2]
      split <;> rfl
theorem F_ref44_Accepts_val (l : List Ln) (b : Bool) (lim : Int) (hl : l.length < 1000000) (h : Hp) : F_ref44_Accepts [.lst 8 b (l.map encLn), I lim] h = some (.tup [B (acceptLn l lim).1, I (acceptLn l lim).2], h) := by
  refine F_ref44_Accepts_run rfl ?_ h
  have ft := F_ref44_Total_val l b hl
  unfold acceptLn
  generalize totalLn l = tt at *
  obtain ⟨⟨s, g, lo⟩, er⟩ := tt
  generalize l.map encLn = LL at *
  simp only [encO] at ft
  have e : alcL lim = win lim 0 10737418240000 := rfl
  by_cases q1 : er = 0
  · cases q2 : win lim 0 10737418240000 <;> simp [f_ref44_Accepts, ft, boxE, stE, ap, q1, q2, F_ref32_Is_val, e]
  · have q1' : (er == 0) = false := by simpa using q1
    simp [f_ref44_Accepts, ft, boxE, stE, ap, q1, q1']
end
end Go.AM


namespace Go.AM
open Go.Proofs
set_option linter.unusedVariables false
set_option linter.unusedSimpArgs false
set_option linter.constructorNameAsVariable false
set_option maxRecDepth 20000
section
variable {β : Type} {P : Program} {ty : TypeId}
end
end Go.AM


namespace Go.AM
open Go.Proofs
set_option linter.unusedVariables false
set_option linter.unusedSimpArgs false
set_option linter.constructorNameAsVariable false
set_option maxRecDepth 20000
end Go.AM


namespace Go.AM
open Go.Proofs
set_option linter.unusedVariables false
set_option linter.unusedSimpArgs false
set_option linter.constructorNameAsVariable false
set_option maxRecDepth 20000
section
variable {β : Type} {P : Program} {ty : TypeId}
variable {T : Tab} {D : DTab} {N : Nat} {x0 : AV → AV → AV → Hp → Option β}
end
end Go.AM


namespace Go.AM
open Go.Proofs
set_option linter.unusedVariables false
set_option linter.unusedSimpArgs false
set_option linter.constructorNameAsVariable false
set_option maxRecDepth 20000
end Go.AM


namespace Go.AM
open Go.Proofs
set_option linter.unusedVariables false
set_option linter.unusedSimpArgs false
set_option linter.constructorNameAsVariable false
set_option maxRecDepth 20000
end Go.AM


namespace Go.AM
open Go.Proofs
set_option linter.unusedVariables false
set_option linter.unusedSimpArgs false
set_option linter.constructorNameAsVariable false
set_option maxRecDepth 20000
section
variable {β : Type} {P : Program} {T : Tab} {D : DTab} {N : Nat} {K : AV → Hp → Option β}
end
end Go.AM


namespace Go.AM
open Go.Proofs
set_option linter.unusedVariables false
set_option linter.unusedSimpArgs false
set_option linter.constructorNameAsVariable false
set_option maxRecDepth 20000
section
variable {β : Type} {P : Program} {T : Tab} {D : DTab} {N : Nat} {K : AV → Hp → Option β}
end
end Go.AM


namespace Go.AM
open Go.Proofs
set_option linter.unusedVariables false
set_option linter.unusedSimpArgs false
set_option linter.constructorNameAsVariable false
set_option maxRecDepth 20000
def sLn (l : List Ln) : Prop := l.Pairwise fun a b => a.id < b.id
theorem sorted_ext : ∀ {l m : List Ln}, sLn l → sLn m → (∀ x, x ∈ l ↔ x ∈ m) → l = m
  | [], [], _, _, _ => rfl
  | [], b :: m, _, _, h => by have := (h b).2 (by simp); simp at this
  | a :: l, [], _, _, h => by have := (h a).1 (by simp); simp at this
  | a :: l, b :: m, h1, h2, h => by
    obtain ⟨p1, p2⟩ := List.pairwise_cons.1 h1
    obtain ⟨q1, q2⟩ := List.pairwise_cons.1 h2
    have hab : a = b := by
      rcases List.mem_cons.1 ((h a).1 (by simp)) with e | e
      · exact e
      · rcases List.mem_cons.1 ((h b).2 (by simp)) with e2 | e2
        · exact e2.symm
        · have := q1 a e; have := p1 b e2; omega
    subst hab
    rw [sorted_ext p2 q2 fun x => ?_]
    constructor
    · intro hx
      rcases List.mem_cons.1 ((h x).1 (by simp [hx])) with e | e
      · subst e; exact absurd (p1 x hx) (by omega)
      · exact e
    · intro hx
      rcases List.mem_cons.1 ((h x).2 (by simp [hx])) with e | e
      · subst e; exact absurd (q1 x hx) (by omega)
      · exact e
end Go.AM


namespace Go.AM
open Go.RowKit
set_option linter.unusedVariables false
def mu0 (w : World) : Mu := ⟨fun _ => .virt none, w, fun k => k < w.heap.size⟩
theorem rel0 (w : World) : Rel (mu0 w) [] w where
  obj := fun id o h => by simp at h
  sep := fun i j o p b x c y d h => by simp at h
  apart := fun i sz es nil b x c h => by simp at h
  imm := fun k hk => ⟨hk, rfl, fun ⟨id, o, off, c, h, _⟩ => by simp at h⟩
theorem own0 (w : World) (b : Nat) : ¬ Own (mu0 w) [] b := fun ⟨id, o, off, c, h, _⟩ => by simp at h
theorem below0 {w w' : World} {μ' : Mu} {h' : Hp} (s : Step (mu0 w) [] w μ' h' w') : Below w.heap.size w w' :=
  ⟨s.frame.os, s.frame.tape, s.frame.output, s.frame.size, fun k hk => s.frame.block k hk (own0 w k)⟩
theorem row_calls {P : Program} {f : FuncId} {F : Fun} {args : List AV} {h' : Hp} {b : Bool} {W : World} {cargs : Array Value} (hc : CSound P f F) (hF : F args [] = some (.s (.bool b), h')) (hv : VRs (mu0 W) [] args cargs.toList) :
    Calls P f cargs W fun e W' => e = .returned (.bool b) ∧ Below W.heap.size W W' := by
  refine (hc args [] _ h' hF (mu0 W) W cargs (rel0 W) hv).2.mono fun e W' => ?_
  rintro ⟨cv, μ', rfl, s, hr⟩
  simp only [VR] at hr
  exact ⟨by rw [hr.2], below0 s⟩

inductive Ty where
  | int (k : IntKind)
  | bool
  | str
  | sl (e : List Ty)
def tyFs (f : TypeId → Option (List Ty)) (size : TypeId → Nat) : List Field → Nat → Option (List Ty)
  | [], _ => some []
  | x :: l, pos => match f x.type, tyFs f size l (pos + size x.type) with
    | some a, some b => if x.offset = pos ∧ a.length = size x.type then some (a ++ b) else none
    | _, _ => none
def tyOf (P : Program) : Nat → TypeId → Option (List Ty)
  | 0, _ => none
  | n + 1, t => match P.underlying t with
    | some .bool => some [.bool]
    | some (.int k) => some [.int k]
    | some .string => some [.str]
    | some (.slice e) => match tyOf P n e with
      | some l => if l.length = P.cellsOf e ∧ 0 < l.length then some [.sl l] else none
      | none => none
    | some (.struct fs) => match tyFs (tyOf P n) P.cellsOf fs.toList 0 with
      | some l => if l.length = P.cellsOf t then some l else none
      | none => none
    | some (.array m e) => match tyOf P n e with
      | some l => if l.length = P.cellsOf e ∧ m * P.cellsOf e = P.cellsOf t then some (List.replicate m l).flatten else none
      | none => none
    | _ => none
mutual
def HasT : Ty → AV → Prop
  | .int k, a => ∃ n, a = .s (.int k n) ∧ (Lit.int k n).wf = true
  | .bool, a => ∃ b, a = .s (.bool b)
  | .str, a => ∃ s : ByteArray, a = .s (.string s) ∧ s.size ≤ maxLen
  | .sl ts, a => ∃ nil es, a = .lst ts.length nil es ∧ (nil = true → es = []) ∧ es.length ≤ maxLen ∧ ∀ e ∈ es, HasTs ts e
def HasTs : List Ty → List AV → Prop
  | [], asl => asl = []
  | t :: ts, asl => ∃ a as', asl = a :: as' ∧ HasT t a ∧ HasTs ts as'
end
theorem HasTs.app : ∀ {ts us : List Ty} {asl bs : List AV}, HasTs ts asl → HasTs us bs → HasTs (ts ++ us) (asl ++ bs)
  | [], us, asl, bs, h, k => by simp only [HasTs] at h; subst h; exact k
  | t :: ts, us, asl, bs, h, k => by
    simp only [HasTs] at h
    obtain ⟨a, as', rfl, h1, h2⟩ := h
    simp only [List.cons_append, HasTs]
    exact ⟨a, _, rfl, h1, HasTs.app h2 k⟩
theorem HasTs.len : ∀ {ts : List Ty} {asl : List AV}, HasTs ts asl → asl.length = ts.length
  | [], asl, h => by simp only [HasTs] at h; subst h; rfl
  | t :: ts, asl, h => by
    simp only [HasTs] at h
    obtain ⟨a, as', rfl, h1, h2⟩ := h
    simp [HasTs.len h2]
theorem HasT.ok : ∀ {t : Ty} {a : AV}, HasT t a → okC a = true
  | .int k, a, h => by simp only [HasT] at h; obtain ⟨n, rfl, _⟩ := h; rfl
  | .bool, a, h => by simp only [HasT] at h; obtain ⟨n, rfl⟩ := h; rfl
  | .str, a, h => by simp only [HasT] at h; obtain ⟨n, rfl, _⟩ := h; rfl
  | .sl ts, a, h => by simp only [HasT] at h; obtain ⟨n, es, rfl, _⟩ := h; rfl
theorem HasTs.ok : ∀ {ts : List Ty} {asl : List AV}, HasTs ts asl → ∀ x ∈ asl, okC x = true
  | [], asl, h, x, hx => by simp only [HasTs] at h; subst h; simp at hx
  | t :: ts, asl, h, x, hx => by
    simp only [HasTs] at h
    obtain ⟨a, as', rfl, h1, h2⟩ := h
    rcases List.mem_cons.1 hx with rfl | hx
    · exact h1.ok
    · exact h2.ok x hx
theorem VRs_app' {μ : Mu} {h : Hp} : ∀ {asl bs : List AV} {cs ds : List Value}, VRs μ h asl cs → VRs μ h bs ds → VRs μ h (asl ++ bs) (cs ++ ds)
  | [], bs, cs, ds, h1, h2 => by simp only [VRs] at h1; subst h1; exact h2
  | a :: asl, bs, cs, ds, h1, h2 => by
    simp only [VRs] at h1
    obtain ⟨v, vs, rfl, h3, h4⟩ := h1
    simp only [List.cons_append, VRs]
    exact ⟨v, _, rfl, h3, VRs_app' h4 h2⟩
section
variable {H : Type} {enc : TypeId × Value → H} {P : Program} {w : World} {base : Nat} {spare : Nat → Bool} {held : Bool}
def Opened (w : World) (ts : List Ty) (cs : List Value) : Prop := ∃ asl, HasTs ts asl ∧ VRs (mu0 w) [] asl cs ∧ ∀ u ∈ cs, u.oneCell' = true
theorem open_one {t : Ty} {u : Value} {a : AV} (h1 : HasT t a) (h2 : VR (mu0 w) [] a u) (h3 : u.oneCell' = true) : Opened w [t] [u] :=
  ⟨[a], by simp only [HasTs]; exact ⟨a, [], rfl, h1, rfl⟩, by simp only [VRs]; exact ⟨u, [], rfl, h2, rfl⟩, by simpa using h3⟩
theorem open_fs {f : TypeId → Option (List Ty)} {g : TypeId → List Value → Prop} {cs : List Value} (hg : ∀ t ts cs', f t = some ts → g t cs' → Opened w ts cs') : ∀ (l : List Field) (pos : Nat) (ts : List Ty), tyFs f P.cellsOf l pos = some ts →
    (∀ x ∈ l, g x.type ((cs.drop x.offset).take (P.cellsOf x.type))) → Opened w ts ((cs.drop pos).take ts.length)
  | [], pos, ts, h, _ => by
    simp only [tyFs, Option.some.injEq] at h
    subst h
    exact ⟨[], rfl, rfl, by simp⟩
  | x :: l, pos, ts, h, hx => by
    simp only [tyFs] at h
    split at h
    · rename_i a b h1 h2
      split at h
      · rename_i hc
        simp only [Option.some.injEq] at h
        subst h
        obtain ⟨h3, h4⟩ := hc
        obtain ⟨asl, p1, p2, p3⟩ := hg _ _ _ h1 (hx x (by simp))
        obtain ⟨bs, q1, q2, q3⟩ := open_fs hg l _ b h2 (fun y hy => hx y (by simp [hy]))
        have e : (cs.drop pos).take (a ++ b).length = (cs.drop x.offset).take (P.cellsOf x.type) ++ (cs.drop (pos + P.cellsOf x.type)).take b.length := by
          rw [List.length_append, h4, h3, ← List.drop_drop, List.take_add]
        rw [e]
        refine ⟨asl ++ bs, p1.app q1, VRs_app' p2 q2, ?_⟩
        intro u hu
        rcases List.mem_append.1 hu with hu | hu
        · exact p3 u hu
        · exact q3 u hu
      · simp at h
    · simp at h
theorem open_arr {ts : List Ty} {sz : Nat} {cs : List Value} : ∀ (n i0 : Nat), (∀ i, i < n → Opened w ts ((cs.drop ((i0 + i) * sz)).take sz)) → Opened w (List.replicate n ts).flatten ((cs.drop (i0 * sz)).take (n * sz))
  | 0, i0, _ => ⟨[], rfl, by simp [VRs], by simp⟩
  | n + 1, i0, h => by
    obtain ⟨asl, p1, p2, p3⟩ := h 0 (by omega)
    obtain ⟨bs, q1, q2, q3⟩ := open_arr n (i0 + 1) (fun i hi => by have := h (i + 1) (by omega); rwa [show i0 + (i + 1) = i0 + 1 + i by omega] at this)
    have e : (cs.drop (i0 * sz)).take ((n + 1) * sz) = (cs.drop (i0 * sz)).take sz ++ (cs.drop ((i0 + 1) * sz)).take (n * sz) := by
      rw [show (n + 1) * sz = sz + n * sz by rw [Nat.add_mul]; omega, show (i0 + 1) * sz = i0 * sz + sz by rw [Nat.add_mul]; omega, ← List.drop_drop, List.take_add]
    rw [e, List.replicate_succ, List.flatten_cons]
    refine ⟨asl ++ bs, p1.app q1, VRs_app' p2 q2, ?_⟩
    intro u hu
    rcases List.mem_append.1 hu with hu | hu
    · exact p3 u hu
    · exact q3 u hu
theorem open_es {ts : List Ty} {sz b : Nat} (hts : ts.length = sz) : ∀ (n o : Nat), (∀ i, i < n → ∃ cs, Opened w ts cs ∧ cs.length = sz ∧ ∀ j u, cs[j]? = some u → w.cell? ⟨b, o + i * sz + j, none⟩ = some u) →
    ∃ es vs, es.length = n ∧ (∀ e ∈ es, HasTs ts e) ∧ VRf (mu0 w) [] es vs ∧ ∀ j u, vs[j]? = some u → w.cell? ⟨b, o + j, none⟩ = some u ∧ u.oneCell' = true
  | 0, o, h => ⟨[], [], rfl, by simp, rfl, by simp⟩
  | n + 1, o, h => by
    obtain ⟨cs, ⟨asl, h1, h2, h3⟩, h4, h5⟩ := h 0 (by omega)
    obtain ⟨es, vs, k1, k2, k3, k4⟩ := open_es hts n (o + sz) (fun i hi => by
      obtain ⟨cs', q1, q2, q3⟩ := h (i + 1) (by omega)
      refine ⟨cs', q1, q2, fun j u hu => ?_⟩
      rw [← q3 j u hu]
      congr 2
      rw [Nat.add_mul]; omega)
    refine ⟨asl :: es, cs ++ vs, by simp [k1], ?_, ?_, ?_⟩
    · intro e he
      rcases List.mem_cons.1 he with rfl | he
      · exact h1
      · exact k2 e he
    · simp only [VRf]; exact ⟨cs, vs, rfl, h2, k3⟩
    · intro j u hj
      by_cases hlt : j < cs.length
      · rw [List.getElem?_append_left hlt] at hj
        have := h5 j u hj
        exact ⟨by simpa using this, h3 u (List.mem_of_getElem? hj)⟩
      · rw [List.getElem?_append_right (by omega)] at hj
        have := k4 _ _ hj
        rw [show o + sz + (j - cs.length) = o + j by omega] at this
        exact this
theorem cell_lt {a : Addr} {v : Value} (h : w.cell? a = some v) : a.block < w.heap.size := by
  rcases Nat.lt_or_ge a.block w.heap.size with h1 | h1
  · exact h1
  · have : w.heap[a.block]? = none := by simpa using h1
    simp [World.cell?, this] at h
theorem open_cells : ∀ (fuel n : Nat) (t : TypeId) (ts : List Ty) (cs : List Value) (x : DataW H × List MemPlace), tyOf P n t = some ts → DataW.trod enc P w base spare held fuel t cs = some x → Opened w ts cs
  | 0, n, t, ts, cs, x, _, h => by simp [DataW.trod] at h
  | fuel + 1, 0, t, ts, cs, x, h0, _ => by simp [tyOf] at h0
  | fuel + 1, n + 1, t, ts, cs, x, h0, h => by
    unfold tyOf at h0
    cases hu : P.underlying t with
    | none => rw [hu] at h0; simp at h0
    | some T =>
      rw [hu] at h0
      cases T with
      | bool =>
        simp only [Option.some.injEq] at h0
        subst h0
        obtain ⟨b, rfl, _⟩ := DataW.trod_bool hu h
        exact open_one (a := .s (.bool b)) (by simp [HasT]) (by simp [VR, gv]) rfl
      | int k =>
        simp only [Option.some.injEq] at h0
        subst h0
        obtain ⟨m, rfl, _, hw⟩ := DataW.trod_int hu h
        exact open_one (a := .s (.int k m)) (by simp [HasT, hw]) (by simp [VR, gv]) rfl
      | string =>
        simp only [Option.some.injEq] at h0
        subst h0
        obtain ⟨s, rfl, _, hs⟩ := DataW.trod_string hu h
        exact open_one (a := .s (.string s)) (by simp [HasT, hs]) (by simp [VR, gv]) rfl
      | slice e =>
        simp only at h0
        cases he : tyOf P n e with
        | none => rw [he] at h0; simp at h0
        | some l =>
          rw [he] at h0
          simp only at h0
          split at h0
          · rename_i hl
            simp only [Option.some.injEq] at h0
            subst h0
            rcases DataW.trod_slice hu h with ⟨rfl, _⟩ | ⟨a, len, cap, elems, rest, m, hm, rfl, _, hb, h1, h2, h3, h4, _, _⟩
            · refine open_one (a := .lst l.length true []) ?_ ?_ rfl
              · simp only [HasT]; exact ⟨true, [], rfl, fun _ => rfl, by simp, by simp⟩
              · simp only [VR]
                exact ⟨none, 0, rfl, by simp, by simp, rfl, fun _ => rfl, by simp, by simp⟩
            · have hm' : m = fuel := by omega
              subst hm'
              have cell : ∀ i, i < len → ∃ cs, Opened w l cs ∧ cs.length = P.cellsOf e ∧ ∀ j, j < P.cellsOf e → w.cell? ((a.add (i * P.cellsOf e)).add j) = cs[j]? := by
                intro i hi
                have hi' := h4 i hi
                rw [List.getElem?_eq_getElem (by omega), Option.bind_eq_some_iff] at hi'
                obtain ⟨cs, q1, q2⟩ := hi'
                have q3 := World.cells?_some q1
                exact ⟨cs, open_cells m n e l cs _ he q2, q3.2.1, q3.2.2⟩
              obtain ⟨b, off, spot⟩ := a
              have hsp : len ≠ 0 → spot = none := fun hn => by
                obtain ⟨cs, _, q2, q3⟩ := cell 0 (by omega)
                have q4 := q3 0 (by omega)
                rw [List.getElem?_eq_getElem (by omega)] at q4
                simpa [Addr.add] using World.cell?_spot q4
              by_cases hn : len = 0
              · subst hn
                refine open_one (a := .lst l.length false []) ?_ ?_ rfl
                · simp only [HasT]; exact ⟨false, [], rfl, fun _ => rfl, by simp, by simp⟩
                · simp only [VR]
                  exact ⟨_, cap, rfl, by simp, h2, rfl, by simp, by simp, by simp⟩
              · have hs := hsp hn
                subst hs
                obtain ⟨es, vs, k1, k2, k3, k4⟩ := open_es (w := w) (ts := l) (sz := P.cellsOf e) (b := b) hl.1 len off (fun i hi => by
                  obtain ⟨cs, q1, q2, q3⟩ := cell i hi
                  refine ⟨cs, q1, q2, fun j u hj => ?_⟩
                  have hjl := (List.getElem?_eq_some_iff.1 hj).1
                  have := q3 j (by omega)
                  rw [hj] at this
                  rw [← this, Go.WideShapes.add_plain, Go.WideShapes.add_plain])
                refine open_one (a := .lst l.length false es) ?_ ?_ rfl
                · simp only [HasT]; exact ⟨false, es, rfl, by simp, by omega, k2⟩
                · simp only [VR]
                  refine ⟨_, cap, by rw [k1], by omega, h2, rfl, by simp, fun e' he' => ⟨(k2 e' he').len, (k2 e' he').ok⟩, fun _ => ⟨b, off, vs, rfl, ?_, k3, k4⟩⟩
                  obtain ⟨cs, q1, q2, q3⟩ := cell 0 (by omega)
                  have q4 := q3 0 (by omega)
                  rw [List.getElem?_eq_getElem (by omega)] at q4
                  show b < w.heap.size
                  rw [Go.WideShapes.add_plain, Go.WideShapes.add_plain] at q4
                  exact cell_lt q4
          · simp at h0
      | struct fs =>
        simp only at h0
        cases he : tyFs (tyOf P n) P.cellsOf fs.toList 0 with
        | none => rw [he] at h0; simp at h0
        | some l =>
          rw [he] at h0
          simp only at h0
          split at h0
          · rename_i hl
            simp only [Option.some.injEq] at h0
            subst h0
            obtain ⟨xs, m, hm, _, h2, h3, h4⟩ := DataW.trod_struct hu h
            have hm' : m = fuel := by omega
            subst hm'
            have := open_fs (w := w) (P := P) (f := tyOf P n) (g := fun t cs' => ∃ y, DataW.trod enc P w base spare held m t cs' = some y) (cs := cs) (fun t ts cs' q1 ⟨y, q2⟩ => open_cells m n t ts cs' y q1 q2) fs.toList 0 l he (fun y hy => by
              obtain ⟨i, hi⟩ := List.getElem?_of_mem hy
              have hi2 : fs[i]? = some y := by simpa using hi
              have := h4 i y hi2
              have hlt : i < xs.length := by rw [h3]; exact (Array.getElem?_eq_some_iff.1 hi2).1
              rw [List.getElem?_eq_getElem hlt] at this
              exact ⟨_, this⟩)
            rw [List.drop_zero, hl, ← h2, List.take_length] at this
            exact this
          · simp at h0
      | array k e =>
        simp only at h0
        cases he : tyOf P n e with
        | none => rw [he] at h0; simp at h0
        | some l =>
          rw [he] at h0
          simp only at h0
          split at h0
          · rename_i hl
            simp only [Option.some.injEq] at h0
            subst h0
            obtain ⟨xs, m, hm, _, h2, h3, h4⟩ := DataW.trod_array hu h
            have hm' : m = fuel := by omega
            subst hm'
            have := open_arr (w := w) (ts := l) (sz := P.cellsOf e) (cs := cs) k 0 (fun i hi => by
              have h5 := h4 i hi
              rw [List.getElem?_eq_getElem (by omega)] at h5
              have h6 := open_cells m n e l _ _ he h5
              rwa [Nat.zero_add])
            rw [Nat.zero_mul, List.drop_zero, hl.2, ← h2, List.take_length] at this
            exact this
          · simp at h0
      | _ => simp at h0
theorem open_cell {t : TypeId} {v : Value} {d : DataW H} {ps : List MemPlace} {n : Nat} {ty : Ty} (hv : v.cells = #[v]) (ht : tyOf P n t = some [ty]) (hd : DataW.Trod enc P w base spare held t v d ps) : ∃ a, HasT ty a ∧ VR (mu0 w) [] a v := by
  obtain ⟨fuel, hf⟩ := hd
  rw [hv] at hf
  obtain ⟨asl, h1, h2, _⟩ := open_cells fuel n t [ty] _ _ ht hf
  simp only [HasTs] at h1
  obtain ⟨a, as', rfl, h1, rfl⟩ := h1
  simp only [VRs] at h2
  obtain ⟨v', vs', h3, h4, _⟩ := h2
  simp at h3
  exact ⟨a, h1, by rw [h3.1]; exact h4⟩
end
theorem has_list {α : Type} {ts : List Ty} {f : α → List AV} (hf : ∀ cs, HasTs ts cs → ∃ x, cs = f x) {a : AV} (h : HasT (.sl ts) a) : ∃ (l : List α) (b : Bool), a = .lst ts.length (b && l.isEmpty) (l.map f) := by
  simp only [HasT] at h
  obtain ⟨nil, es, rfl, hn, hm, he⟩ := h
  have : ∃ l : List α, es = l.map f := by
    clear hn hm
    induction es with
    | nil => exact ⟨[], rfl⟩
    | cons e es ih =>
      obtain ⟨x, hx⟩ := hf e (he e (by simp))
      obtain ⟨l, hl⟩ := ih (fun e' h' => he e' (by simp [h']))
      exact ⟨x :: l, by simp [hx, hl]⟩
  obtain ⟨l, rfl⟩ := this
  refine ⟨l, nil, ?_⟩
  cases nil with
  | false => rfl
  | true =>
    have : l = [] := by simpa using hn rfl
    subst this; rfl
end Go.AM


namespace Go.AM
open Go.Proofs
set_option linter.unusedVariables false
set_option linter.unusedSimpArgs false
set_option linter.constructorNameAsVariable false
set_option maxRecDepth 20000
section
variable {β : Type} {P : Program} {T : Tab} {D : DTab} {N : Nat} {K : AV → Hp → Option β}
end
end Go.AM


namespace Go.AM
open Go.Proofs
set_option linter.unusedVariables false
set_option linter.unusedSimpArgs false
set_option linter.constructorNameAsVariable false
set_option maxRecDepth 20000
section
variable {β : Type} {P : Program} {T : Tab} {D : DTab} {N : Nat} {K : AV → Hp → Option β}
abbrev SL {α : Type} (sz : Nat) (f : α → List AV) (b : Bool) (l : List α) : AV := .lst sz (b && l.isEmpty) (l.map f)
theorem F_slices_Clone_int_val (l : List Int) (b : Bool) (hl : l.length < 1000000) (h : Hp) : F_slices_Clone_int [SL 1 encI b l] h = some (SL 1 encI b l, h) := by
  refine (F_slices_Clone_int_run (v := if b && l.isEmpty then nilS else SL 1 encI b l) rfl ?_ h).trans ?_
  · by_cases hb : (b && l.isEmpty) = true
    · simp [f_slices_Clone_int, hb]
    · have hb' : (b && l.isEmpty) = false := by simpa using hb
      have hle : l.length * 8 ≤ 140737488355328 := by omega
      have h2 : ((l.map encI).all fun e => e.length == 1) = true := by simp [encI]
      have h3 : okE false (l.map encI) = true := okE_map (by intro x; simp [encI])
      simp [f_slices_Clone_int, hb', bsE, fillS, appE, readSl, hle, h2, ap]
      rw [cvt_whole rfl (by simp) (by simp) h3, SL, hb']
  · by_cases hb : (b && l.isEmpty) = true
    · obtain ⟨rfl, hl0⟩ := Bool.and_eq_true_iff.1 hb
      have : l = [] := by simpa using hl0
      subst this
      rfl
    · rw [if_neg hb]
      rfl
theorem F_slices_Clone_Line_val (l : List Ln) (b : Bool) (hl : l.length < 1000000) (h : Hp) : F_slices_Clone_Line [SL 8 encLn b l] h = some (SL 8 encLn b l, h) := by
  refine (F_slices_Clone_Line_run (v := if b && l.isEmpty then nilS else SL 8 encLn b l) rfl ?_ h).trans ?_
  · by_cases hb : (b && l.isEmpty) = true
    · simp [f_slices_Clone_Line, hb]
    · have hb' : (b && l.isEmpty) = false := by simpa using hb
      have hle : l.length * 64 ≤ 140737488355328 := by omega
      have h2 : ((l.map encLn).all fun e => e.length == 8) = true := by simp [encLn]
      have h3 : okE false (l.map encLn) = true := okE_map (by intro x; simp [encLn])
      simp [f_slices_Clone_Line, hb', bsE, fillS, appE, readSl, hle, h2, ap]
      rw [cvt_whole rfl (by simp) (by simp) h3, SL, hb']
  · by_cases hb : (b && l.isEmpty) = true
    · obtain ⟨rfl, hl0⟩ := Bool.and_eq_true_iff.1 hb
      have : l = [] := by simpa using hl0
      subst this
      rfl
    · rw [if_neg hb]
      rfl
end
def fewM (n : Nat) : Bool := decide (n ≤ 24) || n == 65
theorem few_K {β : Type} (P : Program) (n : Nat) (h : Hp) (K : AV → Hp → Option β) (a b : Nat) : grpK false (B (decide ((n : Int) ≤ (a : Int)))) h (fun k3 => k3 (B ((n : Int) == (b : Int))) h) K = K (B (decide (n ≤ a) || n == b)) h := by
  rw [grpK_or]
  have e1 : decide ((n : Int) ≤ (a : Int)) = decide (n ≤ a) := by simp
  have e2 : ((n : Int) == (b : Int)) = (n == b) := by rw [Bool.eq_iff_iff]; simp; omega
  rw [e1, e2]
theorem F_ref44_FewLines_val (l : List Ln) (b : Bool) (h : Hp) : F_ref44_FewLines [.lst 8 b (l.map encLn)] h = some (B (fewM l.length), h) :=
  F_ref44_FewLines_run (a0 := .lst 8 b (l.map encLn)) rfl (by
    have ln : ∀ k : Go.AM.K AV, lenK (.lst 8 b (l.map encLn)) k = k (I l.length) := fun k => by simp
    show f_ref44_FewLines _ _ _ _ _ (.lst 8 b (l.map encLn)) _ = _
    simp only [f_ref44_FewLines, ln, arithK_leq, eqK_int, Bool.false_xor]
    exact few_K Try.prog l.length [] _ 24 65) h
theorem fewM_bd {n : Nat} (h : fewM n = true) : n ≤ 65 := by simp [fewM] at h; omega
structure Prc where
  b1 : Bool
  sent : List Gd
  b2 : Bool
  got : List Gd
  b3 : Bool
  tol : List Int
abbrev exSent : List Gd := [⟨1, 1, 1000⟩, ⟨2, 2, 500⟩]
abbrev exGot : List Gd := [⟨1, 1, 960⟩, ⟨3, 2, 7⟩]
abbrev exTol : List Int := [300, 0, 0, 0, 0, 0, 0, 0, 0]
abbrev exLines : List Ln := [⟨1, 1, 1000, 960, ⟨30, 0, 10, 0⟩⟩, ⟨2, 2, 500, 0, ⟨0, 0, 500, 0⟩⟩, ⟨3, 2, 0, 7, ⟨0, 0, 0, 7⟩⟩]
theorem F_law44_example_val (h : Hp) : F_law44_example [] h = some (.tup [.lst 3 false (exSent.map encG), .lst 3 false (exGot.map encG), .lst 1 false (exTol.map encI)], h) := by
  refine (F_law44_example_run (v := .tup [.lst 3 false (exSent.map encG), .lst 3 false (exGot.map encG), .lst 1 false (exTol.map encI)]) rfl ?_ h).trans rfl
  simp [f_law44_example, buildK, fillA, bsE, fillS, encG, cvt, okE]
theorem ex_cmp : cmpS exSent exGot exTol = (exLines, 0) := by
  have h1 : rightG exSent = true := by decide
  have h2 : rightG exGot = true := by decide
  have h3 : mergeG exSent exGot = [(⟨1, 1, 1000⟩, ⟨1, 1, 960⟩), (⟨2, 2, 500⟩, zG), (zG, ⟨3, 2, 7⟩)] := by simp [mergeG]
  unfold cmpS
  rw [h1, h2, h3]
  decide
theorem F_law44_awake_val (h : Hp) : F_law44_awake [] h = some (B true, h) := by
  refine F_law44_awake_run rfl ?_ h
  have fe := F_law44_example_val
  have r1 := F_receipt_Compare_val exSent exGot exTol false false false (by decide) (by decide) (by decide)
  rw [ex_cmp] at r1
  have r2 := F_receipt_Total_val exLines false (by decide)
  rw [show totalLn exLines = ((1500, 967, ⟨30, 0, 510, 7⟩), 0) by decide] at r2
  have r3 := F_receipt_Accepts_val exLines false 510 (by decide)
  rw [show acceptLn exLines 510 = (true, 0) by decide] at r3
  have r4 := F_receipt_Accepts_val exLines false 509 (by decide)
  rw [show acceptLn exLines 509 = (false, 0) by decide] at r4
  have r5 := F_slices_Equal_Line_val exLines exLines false false (by decide)
  have r6 := F_receipt_Verify_val exSent exGot exTol exLines false false false false (by decide) (by decide) (by decide)
  rw [show verifyS exSent exGot exTol exLines = 0 by unfold verifyS; rw [ex_cmp]; decide] at r6
  have hcv : ∀ (h : Hp) (id : Nat), h[id]? = some (.arr 8 (exLines.map encLn) true false) → cvt false h (.sl 8 id 0 3 3 true) = some (.lst 8 false (exLines.map encLn)) := fun h id hid => cvt_whole hid rfl rfl rfl
  have r5' : ∀ (h : Hp) (id : Nat), h[id]? = some (.arr 8 (exLines.map encLn) true false) → F_slices_Equal_Line [.lst 8 false (exLines.map encLn), .sl 8 id 0 3 3 true] h = some (B true, h) := fun h id hid =>
    closedX_scal (asl := [.lst 8 false (exLines.map encLn), .lst 8 false (exLines.map encLn)]) (h0 := []) (by simp only [cvts, hcv h id hid]; rfl) ((r5 []).trans (by simp)) rfl
  have r6' : ∀ (h : Hp) (id : Nat), h[id]? = some (.arr 8 (exLines.map encLn) true false) → F_receipt_Verify [.lst 3 false (exSent.map encG), .lst 3 false (exGot.map encG), .lst 1 false (exTol.map encI), .sl 8 id 0 3 3 true] h = some (I 0, h) := fun h id hid =>
    closedX_scal (asl := [.lst 3 false (exSent.map encG), .lst 3 false (exGot.map encG), .lst 1 false (exTol.map encI), .lst 8 false (exLines.map encLn)]) (h0 := []) (by simp only [cvts, hcv h id hid]; rfl) (r6 []) rfl
  have hE : exLines.map encLn = [[I 1, I 1, I 1000, I 960, I 30, I 0, I 10, I 0], [I 2, I 2, I 500, I 0, I 0, I 0, I 500, I 0], [I 3, I 2, I 0, I 7, I 0, I 0, I 0, I 7]] := rfl
  simp only [List.isEmpty_cons] at r1
  simp only [encO] at r2
  generalize exSent.map encG = S at *
  generalize exGot.map encG = G at *
  generalize exTol.map encI = TT at *
  rw [hE] at r1 r2 r3 r4 r5' r6'
  clear hE hcv r5 r6
  simp [f_law44_awake, fe, r1, r2, r3, r4, r5', r6', boxE, stE, ap, bsE, fillS, buildK, fillA, eqs_44, show IntKind.i64.wrap 0 = 0 from by kernel_rfl]
end Go.AM


namespace Go.AM
open Go.Proofs
set_option linter.unusedVariables false
set_option linter.unusedSimpArgs false
set_option linter.constructorNameAsVariable false
set_option maxRecDepth 20000
theorem has_Ln {cs : List AV} (h : HasTs [.int .i64, .int .i64, .int .i64, .int .i64, .int .i64, .int .i64, .int .i64, .int .i64] cs) : ∃ p : Ln, cs = encLn p := by
  simp only [HasTs, HasT] at h
  obtain ⟨_, _, rfl, ⟨a, rfl, _⟩, _, _, rfl, ⟨b, rfl, _⟩, _, _, rfl, ⟨c, rfl, _⟩, _, _, rfl, ⟨d, rfl, _⟩, _, _, rfl, ⟨e, rfl, _⟩, _, _, rfl, ⟨f, rfl, _⟩, _, _, rfl, ⟨g, rfl, _⟩, _, _, rfl, ⟨i, rfl, _⟩, rfl⟩ := h
  exact ⟨⟨a, b, c, d, ⟨e, f, g, i⟩⟩, rfl⟩
theorem has_Lns {a : AV} (h : HasT (.sl [.int .i64, .int .i64, .int .i64, .int .i64, .int .i64, .int .i64, .int .i64, .int .i64]) a) : ∃ (l : List Ln) (b : Bool), a = SL 8 encLn b l := has_list (fun _ h => has_Ln h) h
theorem has_Int1 {cs : List AV} (h : HasTs [.int .i64] cs) : ∃ p : Int, cs = encI p := by
  simp only [HasTs, HasT] at h
  obtain ⟨_, _, rfl, ⟨a, rfl, _⟩, rfl⟩ := h
  exact ⟨a, rfl⟩
theorem has_Ints {a : AV} (h : HasT (.sl [.int .i64]) a) : ∃ (l : List Int) (b : Bool), a = SL 1 encI b l := has_list (fun _ h => has_Int1 h) h
end Go.AM


namespace Go.AM
open Go.Proofs
set_option linter.unusedVariables false
set_option linter.unusedSimpArgs false
set_option linter.constructorNameAsVariable false
set_option maxRecDepth 20000
section
variable {β : Type} {P : Program} {T : Tab} {D : DTab} {N : Nat} {K : AV → Hp → Option β}
theorem IndexFunc_Line_L2 {x0 : Hp → Option β} {xr : AV → Hp → Option β} {l : List Ln} {b : Bool} {fv : AV} {h : Hp} {p : Ln → Bool} (hl : l.length < 4611686018427387904) (hp : ∀ x ∈ l, ∀ k : AV → Hp → Option β, callVK T fv [.agg (encLn x)] h k = k (B (p x)) h) :
    ∀ (n i : Nat), i ≤ l.length → l.length < i + n → f_slices_IndexFunc_Line_L2 P T D N x0 xr n (.lst 8 b (l.map encLn)) fv (I l.length) (I i) h = match (l.drop i).findIdx? p with | some j => xr (I ((i + j : Nat) : Int)) h | none => x0 h := by
  intro n
  induction n with
  | zero => intro i h1 h2; omega
  | succ n ih =>
    intro i h1 h2
    show f_slices_IndexFunc_Line_b2 P T D N (f_slices_IndexFunc_Line_L2 P T D N x0 xr n) x0 xr _ _ _ _ h = _
    unfold f_slices_IndexFunc_Line_b2
    rcases Nat.lt_or_ge i l.length with hi | hi
    · have hx : l[i]? = some l[i] := List.getElem?_eq_getElem hi
      have hlt : ((i : Int) < (l.length : Int)) := by omega
      have hw : IntKind.i64.wrap ((i : Int) + 1) = ((i + 1 : Nat) : Int) := by rw [wrap64 (by omega) (by omega)]; omega
      have hpx := hp l[i] (List.getElem_mem hi)
      rw [List.drop_eq_getElem_cons hi, List.findIdx?_cons]
      simp [hlt, hx, hw, encLn] at hpx ⊢
      rw [hpx]
      cases hc : p l[i] with
      | true => simp
      | false =>
        have h3 := ih (i + 1) hi (by omega)
        rw [show ((i : Int) + 1) = ((i + 1 : Nat) : Int) by omega]
        simp only [Bool.false_eq_true, if_false]
        refine h3.trans ?_
        cases (List.drop (i + 1) l).findIdx? p with
        | none => rfl
        | some j =>
          show xr (I ((i + 1 + j : Nat) : Int)) h = xr (I ((i + (j + 1) : Nat) : Int)) h
          rw [show i + 1 + j = i + (j + 1) by omega]
    · have : i = l.length := by omega
      subst this
      simp
theorem IndexFunc_Line_K {l : List Ln} {b : Bool} {fv : AV} {h : Hp} {p : Ln → Bool} {K : AV → Hp → Option β} (hl : l.length < N) (hN : N < 4611686018427387904) (hp : ∀ x ∈ l, ∀ k : AV → Hp → Option β, callVK T fv [.agg (encLn x)] h k = k (B (p x)) h) :
    f_slices_IndexFunc_Line P T D N K (.lst 8 b (l.map encLn)) fv h = K (I (match l.findIdx? p with | some j => (j : Int) | none => -1)) h := by
  unfold f_slices_IndexFunc_Line
  simp only [lenK_lst, List.length_map]
  have := IndexFunc_Line_L2 (P := P) (D := D) (N := N) (b := b) (x0 := fun h => f_slices_IndexFunc_Line_j1 P T D N K h) (xr := fun a h => K a h) (by omega) hp N 0 (Nat.zero_le _) (by omega)
  simp only [List.drop_zero] at this
  refine this.trans ?_
  cases l.findIdx? p with
  | none => rfl
  | some j => simp
end
theorem un_bool : Try.prog.underlying 4 = some .bool := by kernel_rfl
theorem eqK_bool {β : Type} (neq : Bool) (m n : Bool) (h : Hp) (k : Go.AM.K β) : eqK Try.prog neq 4 (B m) (B n) h k = k (B (xor neq (m == n))) := by simp [eqK, un_bool]
end Go.AM


namespace Go.AM
open Go.Proofs
set_option linter.unusedVariables false
set_option linter.unusedSimpArgs false
set_option linter.constructorNameAsVariable false
set_option maxRecDepth 20000
def hasId (l : List Ln) (r : Int) : Bool := l.any fun x => x.id == r
def hasGot (l : List Ln) (r : Int) : Bool := l.any fun x => x.id == r && x.got != 0
def ascI : Option Int → List Int → Bool
  | _, [] => true
  | p, x :: l => (match p with | none => true | some q => decide (q < x)) && ascI (some x) l
theorem ascI_cons (p : Option Int) (x : Int) (l : List Int) : ascI p (x :: l) = ((match p with | none => true | some q => decide (q < x)) && ascI (some x) l) := by cases p <;> rfl
def goodLn (x : Ln) : Gd := ⟨x.id, x.cls, x.got⟩
def backS (l : List Ln) (r : List Int) : List Gd := (l.filter fun x => x.got != 0 && r.contains x.id).map goodLn
def keptS (l : List Ln) (r : List Int) : List Gd := (l.filter fun x => x.got != 0 && !r.contains x.id).map goodLn
def retS (l : List Ln) (r : List Int) : (List Gd × List Gd) × Int :=
  if linesS l = false then (([], []), 1) else if ascI none r = false then (([], []), 5) else if r.all (hasId l) = false then (([], []), 7) else if r.all (hasGot l) = false then (([], []), 9) else ((backS l r, keptS l r), 0)
def idxLn (l : List Ln) (id : Int) : Int := match l.findIdx? (fun x => x.id == id) with | some j => (j : Int) | none => -1
theorem F_Returns_1_1_val (x : Ln) (id : Int) (m : Nat) (h : Hp) (hm : h[m]? = some (.arr 1 [[I id]] true false)) : F_receipt_Returns_1_1 [.agg (encLn x), .ptr m 0 0 1] h = some (B (x.id == id), h) := by
  have hl := (List.getElem?_eq_some_iff.1 hm).1
  have hm' := fun g : List AObj => get_app (g := g) hm
  refine F_receipt_Returns_1_1_q (g := [.arr 8 [encLn x] true false]) ?_ rfl
  obtain ⟨i, c, s, g, ⟨e, o, d, u⟩⟩ := x
  simp [f_receipt_Returns_1_1, encLn, boxE, ap, hm']
theorem F_Index_Returns_val (l : List Ln) (b : Bool) (hl : l.length < 1000000) (id : Int) (m : Nat) (h : Hp) (hm : h[m]? = some (.arr 1 [[I id]] true false)) : F_slices_IndexFunc_Line__receipt_Returns_1_1 [.lst 8 b (l.map encLn), .fn 54 [.ptr m 0 0 1]] h = some (I (idxLn l id), h) := by
  refine F_slices_IndexFunc_Line__receipt_Returns_1_1_q (g := []) ?_ rfl
  rw [IndexFunc_Line_K (p := fun x => x.id == id) (by have := NN_ge; omega) NN_lt (fun x _ k => by simp [F_Returns_1_1_val x id m h hm])]
  rw [List.append_nil]; rfl
theorem F_Returns_1_val (l : List Ln) (b : Bool) (hl : l.length < 1000000) (id : Int) (m : Nat) (h : Hp) (hm : h[m]? = some (.arr 1 [[.lst 8 b (l.map encLn)]] true false)) : F_receipt_Returns_1 [I id, .ptr m 0 0 1] h = some (I (idxLn l id), h) := by
  have hml := (List.getElem?_eq_some_iff.1 hm).1
  have hm' := fun g : List AObj => get_app (g := g) hm
  refine F_receipt_Returns_1_q (g := [.arr 1 [[I id]] true false]) ?_ rfl
  have fi := F_Index_Returns_val l b hl id h.length (h ++ [.arr 1 [[I id]] true false]) (by simp)
  generalize l.map encLn = L at *
  simp [f_receipt_Returns_1, boxE, ap, hm', fi]
theorem F_Returns_2_val (l : List Ln) (b : Bool) (hl : l.length < 1000000) (id : Int) (m fb : Nat) (h : Hp) (hm : h[m]? = some (.arr 1 [[.lst 8 b (l.map encLn)]] true false)) (hf : h[fb]? = some (.arr 1 [[.fn 53 [.ptr m 0 0 1]]] true false)) :
    F_receipt_Returns_2 [I id, .ptr fb 0 0 1] h = some (B (decide (idxLn l id < 0)), h) := by
  refine F_receipt_Returns_2_q (g := []) ?_ rfl
  have f1 := F_Returns_1_val l b hl id m h hm
  simp [f_receipt_Returns_2, hf, f1]
theorem G_Returns_1_val (l : List Ln) (b : Bool) (hl : l.length < 1000000) (id : Int) (m : Nat) (h : Hp) (hm : h[m]? = some (.arr 1 [[.lst 8 b (l.map encLn)]] true false)) (base : Nat) : G_receipt_Returns_1 [I id, .ptr m 0 0 1] h base = some (I (idxLn l id), EF [m]) :=
  roD_val ⟨rfl, fun H hag => ⟨[], by
    have := hag m (by simp [idss, ids]) _ hm
    simpa using F_Returns_1_val l b hl id m H this⟩⟩ base
theorem F_Returns_3_val (l : List Ln) (b : Bool) (hl : l.length < 1000000) (id : Int) (m fb : Nat) (h : Hp) (hm : h[m]? = some (.arr 1 [[.lst 8 b (l.map encLn)]] true false)) (hf : h[fb]? = some (.arr 1 [[.fn 53 [.ptr m 0 0 1]]] true false))
    {j : Nat} {x : Ln} (hj : idxLn l id = (j : Int)) (hx : l[j]? = some x) :
    F_receipt_Returns_3 [I id, .ptr m 0 0 1, .ptr fb 0 0 1] h = some (B (x.got == 0), h) := by
  refine F_receipt_Returns_3_q (g := []) ?_ rfl
  have f1 := G_Returns_1_val l b hl id m h hm
  rw [hj] at f1
  have i1 : ∀ k : Go.AM.K (AV × Hp), iaK 8 (.lst 8 b (l.map encLn)) (I j) k = k (.ep (encLn x) 0) := fun k => iaK_at j rfl hx k
  obtain ⟨i, c, s, g, ⟨e, o, d, u⟩⟩ := x
  simp only [encLn] at i1
  generalize l.map encLn = L at *
  simp [f_receipt_Returns_3, hm, hf, f1, i1, disjAll, disj2, idsOf, wrOf]
section
variable {β : Type}
theorem F_IndexFunc_x2_val (r : List Int) (b : Bool) (hl : r.length < 1000) (fv : AV) (p : Int → Bool) (h : Hp) (hp : ∀ x ∈ r, ∀ k : AV → Hp → Option (AV × Hp), callVK t_slices_IndexFunc_int__x2 fv [I x] h k = k (B (p x)) h) :
    F_slices_IndexFunc_int__x2 [.lst 1 b (r.map encI), fv] h = some (I (match r.findIdx? p with | some j => (j : Int) | none => -1), h) := by
  refine F_slices_IndexFunc_int__x2_q (g := []) ?_ rfl
  rw [IndexFunc_int_K (p := p) (by have := NN_ge; omega) NN_lt hp, List.append_nil]
  rfl
theorem F_ContainsFunc_x2_val (r : List Int) (b : Bool) (hl : r.length < 1000) (fv : AV) (p : Int → Bool) (h : Hp) (hp : ∀ x ∈ r, ∀ k : AV → Hp → Option (AV × Hp), callVK t_slices_IndexFunc_int__x2 fv [I x] h k = k (B (p x)) h) :
    F_slices_ContainsFunc_int__x2 [.lst 1 b (r.map encI), fv] h = some (B (r.any p), h) := by
  refine F_slices_ContainsFunc_int__x2_q (g := []) ?_ rfl
  have e := F_IndexFunc_x2_val r b hl fv p h hp
  simp only [f_slices_ContainsFunc_int, t_slices_ContainsFunc_int__x2_68, callK_F, e]
  have : r.any p = (r.findIdx? p).isSome := by rw [List.findIdx?_isSome]
  rw [this]
  cases r.findIdx? p <;> simp
theorem Index_int_L2 {T : Tab} {D : DTab} {N : Nat} {x0 : Hp → Option β} {xr : AV → Hp → Option β} {l : List Int} {b : Bool} {v : Int} {h : Hp} (hl : l.length < 4611686018427387904) (heq : ∀ (x y : Int) (h : Hp) (k : Go.AM.K β), eqK Try.prog false 3 (I x) (I y) h k = k (B (x == y))) :
    ∀ (n i : Nat), i ≤ l.length → l.length < i + n → f_slices_Index_int_L2 Try.prog T D N x0 xr n (.lst 1 b (l.map encI)) ((fun x => I x) v) (I l.length) (I i) h = match (l.drop i).findIdx? (fun y => v == y) with | some j => xr (I ((i + j : Nat) : Int)) h | none => x0 h := by
  intro n
  induction n with
  | zero => intro i h1 h2; omega
  | succ n ih =>
    intro i h1 h2
    show f_slices_Index_int_b2 Try.prog T D N (f_slices_Index_int_L2 Try.prog T D N x0 xr n) x0 xr _ _ _ _ h = _
    unfold f_slices_Index_int_b2
    rcases Nat.lt_or_ge i l.length with hi | hi
    · have hx : l[i]? = some l[i] := List.getElem?_eq_getElem hi
      have hlt : ((i : Int) < (l.length : Int)) := by omega
      have hw : IntKind.i64.wrap ((i : Int) + 1) = ((i + 1 : Nat) : Int) := by rw [wrap64 (by omega) (by omega)]; omega
      have hpx := fun k => heq v l[i] h k
      have h3 := ih (i + 1) hi (by omega)
      have ic : ∀ k : Go.AM.K β, iaK 1 (.lst 1 b (l.map encI)) (I i) k = k (.ep (encI l[i]) 0) := fun k => iaK_at i rfl hx k
      have ld : ∀ k : Go.AM.K β, ldK 1 false (.ep (encI l[i]) 0) h k = k ((fun y => I y) l[i]) := fun k => by simp [encI]
      rw [List.drop_eq_getElem_cons hi, List.findIdx?_cons]
      dsimp only at h3 ld ⊢
      simp only [arithK_lss, hlt, decide_true, condK_bool, if_true, ic, ld, hpx]
      cases hc : (v == l[i]) with
      | true => simp
      | false =>
        simp only [Bool.false_eq_true, if_false, arithK_add, hw]
        refine h3.trans ?_
        cases (List.drop (i + 1) l).findIdx? (fun y => v == y) with
        | none => rfl
        | some j =>
          show xr (I ((i + 1 + j : Nat) : Int)) h = xr (I ((i + (j + 1) : Nat) : Int)) h
          rw [show i + 1 + j = i + (j + 1) by omega]
    · have : i = l.length := by omega
      subst this
      simp
theorem F_slices_Contains_int_val (l : List Int) (b : Bool) (v : Int) (hl : l.length < 1000000) (heq : ∀ (x y : Int) (h : Hp) (k : Go.AM.K AV), eqK Try.prog false 3 (I x) (I y) h k = k (B (x == y))) (h : Hp) : F_slices_Contains_int [.lst 1 b (l.map encI), (fun x => I x) v] h = some (B (l.contains v), h) := by
  have e : ∀ h, F_slices_Index_int [.lst 1 b (l.map encI), (fun x => I x) v] h = some (I (match l.findIdx? (fun y => v == y) with | some j => (j : Int) | none => -1), h) :=
    F_slices_Index_int_run rfl (by
      have := Index_int_L2 (l := l) (T := t_slices_Index_int) (D := d_slices_Index_int) (N := NN) (b := b) (v := v) (h := []) (x0 := fun h => f_slices_Index_int_j1 Try.prog t_slices_Index_int d_slices_Index_int NN (fun v g => cvt false g v) h) (xr := fun a h => cvt false h a) (by omega) heq NN 0 (Nat.zero_le _) (by have := NN_ge; omega)
      simp only [nrm, nrmC, f_slices_Index_int, lenK_lst, List.length_map]
      simp only [List.drop_zero] at this
      refine this.trans ?_
      cases l.findIdx? (fun y => v == y) with
      | none => rfl
      | some j => simp)
  refine F_slices_Contains_int_run rfl ?_ h
  simp only [nrm, nrmC, f_slices_Contains_int, t_slices_Contains_int_59, callK_F, e]
  have : l.contains v = (l.findIdx? (fun y => v == y)).isSome := by rw [List.findIdx?_isSome, List.contains_eq_any_beq]
  rw [this]
  cases l.findIdx? (fun y => v == y) <;> simp
theorem Returns_L7 {T : Tab} {D : DTab} {N : Nat} {x0 : AV → AV → Hp → Option β} {xr : AV → AV → AV → Hp → Option β} {v2 : AV} (r : List Int) (b : Bool) (hl : r.length < 1000) (h : Hp) : ∀ (n : Nat) (pre post : List Int), r = pre ++ post → post.length < n →
    f_receipt_Returns_L7 Try.prog T D N x0 xr n (.lst 1 b (r.map encI)) v2 (I r.length) (I pre.length) h = if ascI pre.getLast? post = true then x0 (.lst 1 b (r.map encI)) v2 h else xr nilS nilS (I 5) h := by
  intro n
  induction n with
  | zero => intro pre post _ h2; omega
  | succ n ih =>
    intro pre post hc hn
    show f_receipt_Returns_b7 Try.prog T D N (f_receipt_Returns_L7 Try.prog T D N x0 xr n) x0 xr _ _ _ _ h = _
    cases post with
    | nil =>
      have : r = pre := by simpa using hc
      subst this
      simp [f_receipt_Returns_b7, ascI]
    | cons c post =>
      have hi : pre.length < r.length := by rw [hc]; simp
      have hci : r[pre.length]? = some c := by rw [hc]; simp
      have hlt : ((pre.length : Int) < (r.length : Int)) := by omega
      have hw : IntKind.i64.wrap ((pre.length : Int) + 1) = (((pre ++ [c]).length : Nat) : Int) := by rw [wrap64 (by omega) (by omega)]; simp
      have step := ih (pre ++ [c]) post (by simpa using hc) (by simpa using hn)
      rw [show (pre ++ [c]).getLast? = some c by simp] at step
      have ic : ∀ k : Go.AM.K β, iaK 1 (.lst 1 b (r.map encI)) (I pre.length) k = k (.ep (encI c) 0) := fun k => iaK_at pre.length rfl hci k
      have ldc : ∀ (g : Hp) (x : Int) (k : Go.AM.K β), ldK 1 false (.ep (encI x) 0) g k = k (I x) := fun g x k => by simp [encI]
      rw [ascI_cons]
      rcases List.eq_nil_or_concat pre with rfl | ⟨pre', q, hq⟩
      · simp only [List.length_nil] at step hlt hw ic ⊢
        simp only [f_receipt_Returns_b7, arithK_lss, arithK_gtr, hlt, decide_true, condK_bool, if_true]
        have w1 : IntKind.i64.wrap 1 = 1 := wrap64 (by omega) (by omega)
        simpa [w1] using step
      · have hq : pre = pre' ++ [q] := by rw [hq]; simp
        have hgp : pre.getLast? = some q := by rw [hq]; simp
        have hqi : r[pre'.length]? = some q := by rw [hc, hq]; simp
        have hpl : (pre.length : Int) = (pre'.length : Int) + 1 := by rw [hq]; simp
        have iq : ∀ k : Go.AM.K β, iaK 1 (.lst 1 b (r.map encI)) (I pre'.length) k = k (.ep (encI q) 0) := fun k => iaK_at pre'.length rfl hqi k
        rw [hgp]
        have h0 : (0 : Int) < pre.length := by omega
        have w2 : IntKind.i64.wrap ((pre.length : Int) - 1) = (pre'.length : Int) := by rw [wrap64 (by omega) (by omega)]; omega
        simp only [f_receipt_Returns_b7, arithK_lss, arithK_gtr, hlt, h0, decide_true, condK_bool, if_true, grpK_tt, ic, ldc, arithK_sub, w2, iq, arithK_leq]
        by_cases ho : c ≤ q
        · have : ¬ q < c := by omega
          simp [ho, this]
        · have : q < c := by omega
          simp only [ho, this, decide_true, decide_false, Bool.false_eq_true, if_false, Bool.true_and, arithK_add, hw, step]
end
structure Two (h : Hp) (v : AV) (A : List Gd) (w : AV) (B : List Gd) : Prop where
  g1 : Gro 3 encG h v A
  g2 : Gro 3 encG h w B
  ne : ∀ k, idOf v = some k → idOf w ≠ some k
theorem Two.app {h : Hp} {v w : AV} {A B : List Gd} (W : Two h v A w B) (x : List AObj) : Two (h ++ x) v A w B := ⟨W.g1.app x, W.g2.app x, W.ne⟩
theorem Two.swap {h : Hp} {v w : AV} {A B : List Gd} (W : Two h v A w B) : Two h w B v A := ⟨W.g2, W.g1, fun k h1 h2 => W.ne k h2 h1⟩
theorem Two.snoc {h : Hp} {v w : AV} {A B : List Gd} (β : Type) (W : Two h v A w B) {m : Nat} {z : Gd} {b : Bool} (hm : h[m]? = some (.arr 3 [encG z] true false)) (hv : idOf v ≠ some m) (hl : A.length < 1000000) :
    ∃ v' h', (∀ k : AV → Hp → Option β, effK (appE 3 24 v (.sl 3 m 0 1 1 b) h h.length) h k = k v' h') ∧ Two h' v' (A ++ [z]) w B := by
  obtain ⟨v', h3, k1, k2, k3, k4, k5⟩ := W.g1.snoc β (by_ := 24) (m := m) (z := z) (b := b) hm hv (by intro y _; rfl) (by omega)
  refine ⟨v', h3, k1, k2, W.g2.keep fun k o hk ho => k4 k o ho fun e => W.ne k e hk, fun k e1 e2 => ?_⟩
  rcases k5 with k5 | k5
  · exact W.ne k (k5 ▸ e1) e2
  · rw [k5] at e1
    cases e1
    have := W.g2.lt e2
    omega
theorem backS_snoc (l : List Ln) (r : List Int) (x : Ln) : backS (l ++ [x]) r = backS l r ++ (if (x.got != 0 && r.contains x.id) = true then [goodLn x] else []) := by
  unfold backS
  rw [List.filter_append, List.map_append]
  congr 1
  cases hb : (x.got != 0 && r.contains x.id)
  · rw [List.filter_cons_of_neg (by simp only [hb]; simp)]; rfl
  · rw [List.filter_cons_of_pos (by simp only [hb])]; rfl
theorem keptS_snoc (l : List Ln) (r : List Int) (x : Ln) : keptS (l ++ [x]) r = keptS l r ++ (if (x.got != 0 && !r.contains x.id) = true then [goodLn x] else []) := by
  unfold keptS
  rw [List.filter_append, List.map_append]
  congr 1
  cases hb : (x.got != 0 && !r.contains x.id)
  · rw [List.filter_cons_of_neg (by simp only [hb]; simp)]; rfl
  · rw [List.filter_cons_of_pos (by simp only [hb])]; rfl
theorem back_len (l : List Ln) (r : List Int) : (backS l r).length ≤ l.length := by unfold backS; rw [List.length_map]; exact List.length_filter_le _ _
theorem kept_len (l : List Ln) (r : List Int) : (keptS l r).length ≤ l.length := by unfold keptS; rw [List.length_map]; exact List.length_filter_le _ _
theorem Returns_L3 {β : Type} {D : DTab} {N : Nat} {x2 : AV → AV → Hp → Option β} (l : List Ln) (r : List Int) (b b2 : Bool) (hl : l.length < 1000) (hr : r.length < 1000) :
    ∀ (n : Nat) (pre post : List Ln) (v9 v10 : AV) (h : Hp), l = pre ++ post → post.length < n → Two h v9 (backS pre r) v10 (keptS pre r) →
    ∃ v9' v10' h', f_receipt_Returns_L3 Try.prog t_receipt_Returns D N x2 n (.lst 1 b2 (r.map encI)) v9 v10 (.lst 8 b (l.map encLn)) (I l.length) (I pre.length) h = x2 v9' v10' h' ∧ Two h' v9' (backS l r) v10' (keptS l r) := by
  intro n
  induction n with
  | zero => intro pre post v9 v10 h _ h2; omega
  | succ n ih =>
    intro pre post v9 v10 h hc hn W
    show ∃ v9' v10' h', f_receipt_Returns_b3 Try.prog t_receipt_Returns D N (f_receipt_Returns_L3 Try.prog t_receipt_Returns D N x2 n) x2 _ _ _ _ _ _ h = _ ∧ _
    cases post with
    | nil =>
      have : l = pre := by simpa using hc
      subst this
      exact ⟨v9, v10, h, by simp [f_receipt_Returns_b3], W⟩
    | cons c post =>
      have hi : pre.length < l.length := by rw [hc]; simp
      have hci : l[pre.length]? = some c := by rw [hc]; simp
      have hlt : ((pre.length : Int) < (l.length : Int)) := by omega
      have hw : IntKind.i64.wrap ((pre.length : Int) + 1) = (((pre ++ [c]).length : Nat) : Int) := by rw [wrap64 (by omega) (by omega)]; simp
      have ic : ∀ k : Go.AM.K β, iaK 8 (.lst 8 b (l.map encLn)) (I pre.length) k = k (.ep (encLn c) 0) := fun k => iaK_at pre.length rfl hci k
      have step := fun v9 v10 h => ih (pre ++ [c]) post v9 v10 h (by simpa using hc) (by simpa using hn)
      have fc := F_slices_Contains_int_val r b2 c.id (by omega) (fun x y h k => by simp)
      have hbl := back_len pre r
      have hkl := kept_len pre r
      have hpl : pre.length ≤ l.length := by omega
      rw [backS_snoc, keptS_snoc] at step
      have hge : encG (goodLn c) = [I c.id, I c.cls, I c.got] := rfl
      dsimp only at fc
      generalize goodLn c = g at *
      obtain ⟨i, cl, s, gt, ⟨e, o, d, u⟩⟩ := c
      dsimp only at *
      simp only [encLn] at ic
      simp only [f_receipt_Returns_b3, arithK_lss, hlt, decide_true, condK_bool, if_true, ic]
      clear hc ih hci
      generalize l.map encLn = L at *
      generalize r.map encI = R at *
      by_cases hz : gt = 0
      · subst hz
        obtain ⟨a1, a2, a3, a4, a5⟩ := step v9 v10 (h ++ [.arr 8 [[I i, I cl, I s, I 0, I e, I o, I d, I u]] true false, .arr 3 [[I i, I cl, I 0]] true false]) (by simpa using W.app _)
        refine ⟨a1, a2, a3, ?_, a5⟩
        rw [← a4]
        simp [boxE, stE, ap, buildK, fillA, f_receipt_Returns_j6, f_receipt_Returns_j5, f_receipt_Returns_j4, hw]
      · have hz' : (gt == 0) = false := by simpa using hz
        have hz2 : (gt != 0) = true := by simpa using hz
        cases hrc : r.contains i with
        | true =>
          have hm : i ∈ r := by simpa using hrc
          rw [hrc] at fc
          obtain ⟨v', h3, k1, k2⟩ := (W.app [.arr 8 [[I i, I cl, I s, I gt, I e, I o, I d, I u]] true false, .arr 3 [[I i, I cl, I gt]] true false, .arr 3 [[I i, I cl, I gt]] true false]).snoc β (m := h.length + 2) (z := g) (b := true) (by rw [hge]; simp) (fun e => by have := W.g1.lt e; omega) (by omega)
          obtain ⟨a1, a2, a3, a4, a5⟩ := step v' v10 h3 (by simpa [hz2, hm] using k2)
          refine ⟨a1, a2, a3, ?_, a5⟩
          rw [← a4]
          simp at k1
          simp [boxE, stE, ap, buildK, fillA, hz', fc, bsE, fillS, f_receipt_Returns_j6, f_receipt_Returns_j5, f_receipt_Returns_j4, hw, k1]
        | false =>
          have hm : i ∉ r := by simpa using hrc
          rw [hrc] at fc
          obtain ⟨v', h3, k1, k2⟩ := (W.swap.app [.arr 8 [[I i, I cl, I s, I gt, I e, I o, I d, I u]] true false, .arr 3 [[I i, I cl, I gt]] true false, .arr 3 [[I i, I cl, I gt]] true false]).snoc β (m := h.length + 2) (z := g) (b := true) (by rw [hge]; simp) (fun e => by have := W.g2.lt e; omega) (by omega)
          obtain ⟨a1, a2, a3, a4, a5⟩ := step v9 v' h3 (by simpa [hz2, hm] using k2.swap)
          refine ⟨a1, a2, a3, ?_, a5⟩
          rw [← a4]
          simp at k1
          simp [boxE, stE, ap, buildK, fillA, hz', fc, bsE, fillS, f_receipt_Returns_j6, f_receipt_Returns_j5, f_receipt_Returns_j4, hw, k1]
theorem lines_sorted {l : List Ln} (h : linesS l = true) : sLn l ∧ (∀ x ∈ l, okLn x = true) ∧ l.length ≤ 64 := by
  unfold linesS at h
  rw [Bool.and_eq_true, decide_eq_true_eq] at h
  cases hc : checkG (fun x => !okLn x) ltLn none l 0 with
  | none =>
    have := checkG_none (fun a b c p q => by simp [ltLn] at *; omega) l none 0 hc
    exact ⟨this.2.1.imp fun h => by simpa [ltLn] using h, fun x hx => by simpa using this.1 x hx, h.2⟩
  | some x => rw [hc] at h; simp at h
theorem idx_neg (l : List Ln) (id : Int) : decide (idxLn l id < 0) = !hasId l id := by
  unfold idxLn hasId
  have : (l.any fun x => x.id == id) = (l.findIdx? fun x => x.id == id).isSome := by rw [List.findIdx?_isSome]
  rw [this]
  cases l.findIdx? (fun x => x.id == id) <;> simp
theorem sorted_inj {l : List Ln} (h : sLn l) : ∀ {i j : Nat} {x y : Ln}, l[i]? = some x → l[j]? = some y → x.id = y.id → i = j := by
  intro i j x y hx hy e
  have key : ∀ {i j : Nat} {x y : Ln}, l[i]? = some x → l[j]? = some y → i < j → x.id < y.id := by
    intro i j x y hx hy hij
    obtain ⟨h1, rfl⟩ := List.getElem?_eq_some_iff.1 hx
    obtain ⟨h2, rfl⟩ := List.getElem?_eq_some_iff.1 hy
    exact List.pairwise_iff_getElem.1 h i j h1 h2 hij
  rcases Nat.lt_trichotomy i j with q | q | q
  · have := key hx hy q; omega
  · exact q
  · have := key hy hx q; omega
theorem idx_some {l : List Ln} (hs : sLn l) {id : Int} (h : hasId l id = true) : ∃ (j : Nat) (x : Ln), idxLn l id = (j : Int) ∧ l[j]? = some x ∧ (x.got == 0) = !hasGot l id := by
  unfold idxLn
  unfold hasId at h
  rw [← List.findIdx?_isSome] at h
  cases hf : l.findIdx? (fun x => x.id == id) with
  | none => rw [hf] at h; simp at h
  | some j =>
    obtain ⟨h1, h2, h3⟩ := List.findIdx?_eq_some_iff_getElem.1 hf
    have hj : l[j]? = some l[j] := List.getElem?_eq_getElem h1
    refine ⟨j, l[j], rfl, hj, ?_⟩
    rw [Bool.eq_iff_iff]
    simp only [beq_iff_eq] at h2
    simp only [beq_iff_eq, Bool.not_eq_true', hasGot, List.any_eq_false, Bool.and_eq_true, bne_iff_ne, ne_eq, not_and, Decidable.not_not]
    constructor
    · intro e x hx hxi
      obtain ⟨k, hk, rfl⟩ := List.getElem_of_mem hx
      have := sorted_inj hs hj (List.getElem?_eq_getElem hk) (by rw [h2, hxi])
      subst this
      exact e
    · intro q
      exact q _ (List.getElem_mem h1) h2
theorem F_receipt_Returns_val (l : List Ln) (r : List Int) (b b2 : Bool) (hl : l.length < 1000) (hr : r.length < 1000) (h : Hp) :
    F_receipt_Returns [.lst 8 b (l.map encLn), .lst 1 b2 (r.map encI)] h = some (.tup [.lst 3 (retS l r).1.1.isEmpty ((retS l r).1.1.map encG), .lst 3 (retS l r).1.2.isEmpty ((retS l r).1.2.map encG), I (retS l r).2], h) := by
  have base : ∀ w v, f_receipt_Returns Try.prog t_receipt_Returns d_receipt_Returns NN (fun v g => cvt false g v) (.lst 8 b (l.map encLn)) (.lst 1 b2 (r.map encI)) [] = some w → nrmR [.l 3, .l 3, .o] w = v → F_receipt_Returns [.lst 8 b (l.map encLn), .lst 1 b2 (r.map encI)] h = some (v, h) := fun w v e1 e2 => by
    rw [← e2]
    exact F_receipt_Returns_run (a0 := .lst 8 b (l.map encLn)) (a1 := .lst 1 b2 (r.map encI)) rfl e1 h
  have fl := F_receipt_lines_val l b (by omega)
  have lnr : ∀ k : Go.AM.K AV, lenK (.lst 1 b2 (r.map encI)) k = k (I r.length) := fun k => by simp
  unfold retS
  cases hA : linesS l with
  | false =>
    rw [hA] at fl
    refine base (.tup [nilS, nilS, I 1]) _ ?_ rfl
    generalize l.map encLn = L at *
    generalize r.map encI = R at *
    simp [f_receipt_Returns, boxE, fl]
  | true =>
    rw [hA] at fl
    rw [if_neg (by simp)]
    obtain ⟨hs, -, hl64⟩ := lines_sorted hA
    have L7 := Returns_L7 (T := t_receipt_Returns) (D := d_receipt_Returns) (N := NN) (x0 := fun w67_1 w67_2 h => f_receipt_Returns_j1 Try.prog t_receipt_Returns d_receipt_Returns NN (fun v g => cvt false g v) w67_1 w67_2 h) (xr := fun w68_4 w68_5 w68_6 h => cvt false h (.tup [w68_4, w68_5, w68_6])) (v2 := .ptr 0 0 0 1) r b2 (by omega) [.arr 1 [[.lst 8 b (l.map encLn)]] true false] NN [] r rfl (by have := NN_ge; omega)
    have red : f_receipt_Returns Try.prog t_receipt_Returns d_receipt_Returns NN (fun v g => cvt false g v) (.lst 8 b (l.map encLn)) (.lst 1 b2 (r.map encI)) [] = if ascI none r = true then f_receipt_Returns_j1 Try.prog t_receipt_Returns d_receipt_Returns NN (fun v g => cvt false g v) (.lst 1 b2 (r.map encI)) (.ptr 0 0 0 1) [.arr 1 [[.lst 8 b (l.map encLn)]] true false] else cvt false [.arr 1 [[.lst 8 b (l.map encLn)]] true false] (.tup [nilS, nilS, I 5]) := by
      rw [← List.getLast?_nil (α := Int), ← L7]
      clear L7 base
      generalize l.map encLn = L at *
      generalize r.map encI = R at *
      simp [f_receipt_Returns, boxE, fl, lnr]
    cases hB : ascI none r with
    | false =>
      rw [hB, if_neg (by simp)] at red
      exact base (.tup [nilS, nilS, I 5]) _ (red.trans (by simp)) rfl
    | true =>
      rw [hB, if_pos rfl] at red
      rw [if_neg (by simp)]
      obtain ⟨H, hH⟩ : ∃ H : Hp, H = [.arr 1 [[.lst 8 b (l.map encLn)]] true false, .arr 1 [[.fn 53 [.ptr 0 0 0 1]]] true false] := ⟨_, rfl⟩
      have g0 : H[0]? = some (.arr 1 [[.lst 8 b (l.map encLn)]] true false) := by rw [hH]; rfl
      have g1 : H[1]? = some (.arr 1 [[.fn 53 [.ptr 0 0 0 1]]] true false) := by rw [hH]; rfl
      have c1 := F_ContainsFunc_x2_val r b2 hr (.fn 56 [.ptr 1 0 0 1]) (fun x => !hasId l x) H (fun x _ k => by
        have := F_Returns_2_val l b (by omega) x 0 1 H g0 g1
        rw [idx_neg] at this
        simp [this])
      have e1 : (r.any fun x => !hasId l x) = !r.all (hasId l) := by rw [List.all_eq_not_any_not]; simp
      rw [e1] at c1
      cases hC : r.all (hasId l) with
      | false =>
        rw [hC] at c1
        rw [if_pos rfl]
        refine base (.tup [nilS, nilS, I 7]) _ (red.trans ?_) rfl
        subst hH
        clear g0 g1 L7 red base
        generalize l.map encLn = L at *
        generalize r.map encI = R at *
        simp [f_receipt_Returns_j1, boxE, stE, ap, c1]
      | true =>
        rw [hC] at c1
        rw [if_neg (by simp)]
        have c2 := F_ContainsFunc_x2_val r b2 hr (.fn 57 [.ptr 0 0 0 1, .ptr 1 0 0 1]) (fun x => !hasGot l x) H (fun x hx k => by
          obtain ⟨j, y, q1, q2, q3⟩ := idx_some hs (List.all_eq_true.1 hC x hx)
          have := F_Returns_3_val l b (by omega) x 0 1 H g0 g1 q1 q2
          rw [q3] at this
          simp [this])
        have e2 : (r.any fun x => !hasGot l x) = !r.all (hasGot l) := by rw [List.all_eq_not_any_not]; simp
        rw [e2] at c2
        cases hD : r.all (hasGot l) with
        | false =>
          rw [hD] at c2
          rw [if_pos rfl]
          refine base (.tup [nilS, nilS, I 9]) _ (red.trans ?_) rfl
          subst hH
          clear g0 g1 L7 red base
          generalize l.map encLn = L at *
          generalize r.map encI = R at *
          simp [f_receipt_Returns_j1, boxE, stE, ap, c1, c2]
        | true =>
          rw [hD] at c2
          rw [if_neg (by simp)]
          obtain ⟨v9, v10, h', k1, W⟩ := Returns_L3 (D := d_receipt_Returns) (N := NN) (x2 := fun w54_9 w54_10 h => f_receipt_Returns_j2 Try.prog t_receipt_Returns d_receipt_Returns NN (fun v g => cvt false g v) w54_9 w54_10 h) l r b b2 hl hr NN [] l nilS nilS H rfl (by have := NN_ge; omega) ⟨.nil, .nil, fun k e => by simp at e⟩
          obtain ⟨w1, p1, p2⟩ := W.g1.cvts (fun x st => by cases st <;> simp [encG, isS])
          obtain ⟨w2, p3, p4⟩ := W.g2.cvts (fun x st => by cases st <;> simp [encG, isS])
          refine base (.tup [w1, w2, I 0]) _ (red.trans ?_) (by
            show AV.tup [nrm (.l 3) w1, nrm (.l 3) w2, I 0] = _
            rw [p2, p4])
          have : f_receipt_Returns_j2 Try.prog t_receipt_Returns d_receipt_Returns NN (fun v g => cvt false g v) v9 v10 h' = some (.tup [w1, w2, I 0]) := by
            simp [f_receipt_Returns_j2, p1, p3]
          rw [this] at k1
          rw [← k1]
          have lnl : ∀ k : Go.AM.K AV, lenK (.lst 8 b (l.map encLn)) k = k (I l.length) := fun k => by simp
          subst hH
          clear g0 g1 L7 red base k1 W this
          generalize l.map encLn = L at *
          generalize r.map encI = R at *
          simp [f_receipt_Returns_j1, boxE, stE, ap, c1, c2, lnl]
end Go.AM


namespace Go.AM
open Go.Proofs
set_option linter.unusedVariables false
set_option linter.unusedSimpArgs false
set_option linter.constructorNameAsVariable false
set_option maxRecDepth 20000
def wLn (x : Int) : Ln := ⟨x, 0, 0, 0, zeroO⟩
theorem sorted_int {l m : List Int} (hl : l.Pairwise (· < ·)) (hm : m.Pairwise (· < ·)) (h : ∀ x, x ∈ l ↔ x ∈ m) : l = m := by
  have e : l.map wLn = m.map wLn := by
    refine sorted_ext ?_ ?_ fun x => ?_
    · show List.Pairwise _ _; rw [List.pairwise_map]; exact hl
    · show List.Pairwise _ _; rw [List.pairwise_map]; exact hm
    · simp only [List.mem_map, h]
  have := congrArg (List.map Ln.id) e
  rw [List.map_map, List.map_map] at this
  have i : (Ln.id ∘ wLn) = id := rfl
  rw [i, List.map_id, List.map_id] at this
  exact this
theorem ascI_sorted : ∀ (r : List Int) (p : Option Int), ascI p r = true → r.Pairwise (· < ·) ∧ (∀ q, p = some q → ∀ x ∈ r, q < x)
  | [], p, _ => ⟨List.Pairwise.nil, fun _ _ x hx => by simp at hx⟩
  | x :: r, p, h => by
    rw [ascI_cons, Bool.and_eq_true] at h
    obtain ⟨i1, i2⟩ := ascI_sorted r (some x) h.2
    refine ⟨List.pairwise_cons.2 ⟨fun y hy => i2 x rfl y hy, i1⟩, fun q hq y hy => ?_⟩
    subst hq
    have hqx : q < x := by simpa using h.1
    rcases List.mem_cons.1 hy with rfl | hy
    · exact hqx
    · have := i2 x rfl y hy; omega
theorem count_eq {L : List Ln} (hs : sLn L) {r : List Int} (hr : r.Pairwise (· < ·)) (q : Ln → Bool) : (L.filter fun x => q x && r.contains x.id).length = (r.filter fun i => L.any fun x => x.id == i && q x).length := by
  have e : (L.filter fun x => q x && r.contains x.id).map Ln.id = r.filter fun i => L.any fun x => x.id == i && q x := by
    refine sorted_int ?_ (hr.filter _) fun i => ?_
    · rw [List.pairwise_map]; exact hs.filter _
    · simp only [List.mem_map, List.mem_filter, List.any_eq_true, Bool.and_eq_true, beq_iff_eq, List.contains_iff_mem]
      constructor
      · rintro ⟨x, ⟨h1, h2, h3⟩, rfl⟩
        exact ⟨h3, x, h1, rfl, h2⟩
      · rintro ⟨h1, x, h2, rfl, h3⟩
        exact ⟨x, ⟨h2, h3, h1⟩, rfl⟩
  have := congrArg List.length e
  rwa [List.length_map] at this
theorem all_len {r : List Int} {p : Int → Bool} : (r.filter p).length = r.length ↔ r.all p = true := by
  rw [List.length_filter_eq_length_iff, List.all_eq_true]
theorem back_count {L : List Ln} (hs : sLn L) {r : List Int} (hr : r.Pairwise (· < ·)) : (backS L r).length = (r.filter (hasGot L)).length := by
  unfold backS
  rw [List.length_map, count_eq hs hr fun x => x.got != 0]
  rfl
theorem found_count {L : List Ln} (hs : sLn L) {r : List Int} (hr : r.Pairwise (· < ·)) : (L.filter fun x => r.contains x.id).length = (r.filter (hasId L)).length := by
  have := count_eq hs hr fun _ => true
  simp only [Bool.true_and, Bool.and_true] at this
  exact this
theorem ret_ok {L : List Ln} {r : List Int} (h : (retS L r).2 = 0) : linesS L = true ∧ ascI none r = true ∧ r.all (hasId L) = true ∧ r.all (hasGot L) = true ∧ (retS L r).1 = (backS L r, keptS L r) := by
  unfold retS at h ⊢
  split at h
  · simp at h
  · rename_i h1
    split at h
    · simp at h
    · rename_i h2
      split at h
      · simp at h
      · rename_i h3
        split at h
        · simp at h
        · rename_i h4
          rw [if_neg h1, if_neg h2, if_neg h3, if_neg h4]
          exact ⟨by simpa using h1, by simpa using h2, by simpa using h3, by simpa using h4, rfl⟩
theorem ret_err {L : List Ln} {r : List Int} (h : (retS L r).2 ≠ 0) : (retS L r).1 = ([], []) := by
  unfold retS at h ⊢
  split
  · rfl
  · rename_i h1
    split
    · rfl
    · rename_i h2
      split
      · rfl
      · rename_i h3
        split
        · rfl
        · rename_i h4
          rw [if_neg h1, if_neg h2, if_neg h3, if_neg h4] at h
          simp at h
section
variable {β : Type}
theorem eq_Gd (x y : Gd) (neq : Bool) (h : Hp) (k : Go.AM.K β) : eqK Try.prog neq 35 (.agg (encG x)) (.agg (encG y)) h k = k (B (xor neq (x == y))) := by
  obtain ⟨a, b, c⟩ := x
  obtain ⟨d, e, f⟩ := y
  have q : ((⟨a, b, c⟩ : Gd) == ⟨d, e, f⟩) = (a == d && (b == e && c == f)) := by rw [Bool.eq_iff_iff]; simp
  rw [q]
  simp [encG]
end
end Go.AM


namespace Go.AM
open Go.Proofs
set_option linter.unusedVariables false
set_option linter.unusedSimpArgs false
set_option linter.constructorNameAsVariable false
set_option maxRecDepth 20000
end Go.AM


namespace Go.AM
open Go.Proofs
set_option linter.unusedVariables false
set_option linter.unusedSimpArgs false
set_option linter.constructorNameAsVariable false
set_option maxRecDepth 20000
section
variable {β : Type}
theorem ref44_SameGoods_L2 {T : Tab} {D : DTab} {N : Nat} {x0 : Hp → Option β} {xr : AV → Hp → Option β} (l m : List Gd) (b1 b2 : Bool) (hlm : l.length = m.length) (hl : l.length < 1000000) (h : Hp) : ∀ (n : Nat) (p1 s p2 t : List Gd), l = p1 ++ s → m = p2 ++ t → p1.length = p2.length → s.length < n →
    f_ref44_SameGoods_L2 Try.prog T D N x0 xr n (.lst 3 b1 (l.map encG)) (.lst 3 b2 (m.map encG)) (I p1.length) h = if s = t then x0 h else xr (B false) h := by
  intro n
  induction n with
  | zero => intro p1 s p2 t _ _ _ h2; omega
  | succ n ih =>
    intro p1 s p2 t h1 h2 hp hn
    show f_ref44_SameGoods_b2 Try.prog T D N (f_ref44_SameGoods_L2 Try.prog T D N x0 xr n) x0 xr _ _ _ h = _
    have e1 := congrArg List.length h1
    have e2 := congrArg List.length h2
    rw [List.length_append] at e1 e2
    have ln : ∀ k : Go.AM.K β, lenK (.lst 3 b1 (l.map encG)) k = k (I l.length) := fun k => by simp
    cases s with
    | nil =>
      have : t = [] := List.eq_nil_of_length_eq_zero (by simp at e1; omega)
      subst this
      have : l = p1 := by simpa using h1
      subst this
      simp [f_ref44_SameGoods_b2]
    | cons a s =>
      cases t with
      | nil => simp at e1 e2; omega
      | cons c t =>
        have ha : l[p1.length]? = some a := by rw [h1]; simp
        have hb : m[p1.length]? = some c := by rw [h2, hp]; simp
        have hlt : ((p1.length : Int) < (l.length : Int)) := by simp at e1; omega
        have hw : IntKind.i64.wrap ((p1.length : Int) + 1) = (((p1 ++ [a]).length : Nat) : Int) := by rw [wrap64 (by omega) (by omega)]; simp
        have ia : ∀ k : Go.AM.K β, iaK 3 (.lst 3 b1 (l.map encG)) (I p1.length) k = k (.ep (encG a) 0) := fun k => iaK_at p1.length rfl ha k
        have ib : ∀ k : Go.AM.K β, iaK 3 (.lst 3 b2 (m.map encG)) (I p1.length) k = k (.ep (encG c) 0) := fun k => iaK_at p1.length rfl hb k
        have ld : ∀ (x : Gd) (k : Go.AM.K β), ldK 3 true (.ep (encG x) 0) h k = k (.agg (encG x)) := fun x k => by simp [encG]
        have step := ih (p1 ++ [a]) s (p2 ++ [c]) t (by simpa using h1) (by simpa using h2) (by simp [hp]) (by simpa using hn)
        simp only [f_ref44_SameGoods_b2, ln, arithK_lss, hlt, decide_true, condK_bool, if_true, ia, ib, ld, eq_Gd, Bool.true_xor, arithK_add, hw]
        by_cases q : a = c
        · subst q
          simp only [beq_self_eq_true, Bool.not_true, Bool.false_eq_true, if_false, List.cons.injEq, true_and]
          exact step
        · have q' : (a == c) = false := by simpa using q
          simp only [q', Bool.not_false, if_true]
          rw [if_neg (by simp [q])]
theorem F_ref44_SameGoods_val (l m : List Gd) (b1 b2 : Bool) (hl : l.length < 1000000) (h : Hp) : F_ref44_SameGoods [.lst 3 b1 (l.map encG), .lst 3 b2 (m.map encG)] h = some (B (decide (l = m)), h) := by
  refine F_ref44_SameGoods_run rfl ?_ h
  have ln1 : ∀ k : Go.AM.K AV, lenK (.lst 3 b1 (l.map encG)) k = k (I l.length) := fun k => by simp
  have ln2 : ∀ k : Go.AM.K AV, lenK (.lst 3 b2 (m.map encG)) k = k (I m.length) := fun k => by simp
  by_cases hlm : l.length = m.length
  · have L := ref44_SameGoods_L2 (N := NN) (T := t_ref44_SameGoods) (D := d_ref44_SameGoods) (x0 := fun h => f_ref44_SameGoods_j1 Try.prog t_ref44_SameGoods d_ref44_SameGoods NN (fun v g => cvt false g v) h) (xr := fun w13_4 h => cvt false h w13_4) l m b1 b2 hlm hl [] NN [] l [] m rfl rfl rfl (by have := NN_ge; omega)
    refine Eq.trans ?_ (L.trans ?_)
    · generalize l.map encG = L1 at *
      generalize m.map encG = L2 at *
      simp [f_ref44_SameGoods, ln1, ln2, hlm]
    · by_cases q : l = m
      · rw [if_pos q, decide_eq_true q]; rfl
      · rw [if_neg q, decide_eq_false q]; rfl
  · have q : l ≠ m := fun e => hlm (by rw [e])
    have hb : ((l.length : Int) == (m.length : Int)) = false := by simpa using (fun h : (l.length : Int) = m.length => hlm (by omega))
    rw [decide_eq_false q]
    generalize l.map encG = L1 at *
    generalize m.map encG = L2 at *
    simp [f_ref44_SameGoods, ln1, ln2, hb]
structure TwoM (h : Hp) (v : AV) (A : List Gd) (w : AV) (B : List Gd) : Prop where
  g1 : Grm 3 encG h v A
  g2 : Grm 3 encG h w B
  ne : ∀ k, idOf v = some k → idOf w ≠ some k
theorem TwoM.app {h : Hp} {v w : AV} {A B : List Gd} (W : TwoM h v A w B) (x : List AObj) : TwoM (h ++ x) v A w B := ⟨W.g1.app x, W.g2.app x, W.ne⟩
theorem TwoM.swap {h : Hp} {v w : AV} {A B : List Gd} (W : TwoM h v A w B) : TwoM h w B v A := ⟨W.g2, W.g1, fun k h1 h2 => W.ne k h2 h1⟩
theorem TwoM.snoc {h : Hp} {v w : AV} {A B : List Gd} (β : Type) (W : TwoM h v A w B) {m : Nat} {z : Gd} {b : Bool} (hm : h[m]? = some (.arr 3 [encG z] true false)) (hv : idOf v ≠ some m) (hl : A.length < 1000000) :
    ∃ v' h', (∀ k : AV → Hp → Option β, effK (appE 3 24 v (.sl 3 m 0 1 1 b) h h.length) h k = k v' h') ∧ TwoM h' v' (A ++ [z]) w B := by
  obtain ⟨v', e, k1, k2, k3, k4, k5, -, -⟩ := W.g1.snocE (by_ := 24) (m := m) (z := z) (b := b) hm hv (by intro y _; rfl) (by omega)
  refine ⟨v', ap h e, fun k => by rw [k1]; rfl, k2, W.g2.keep fun k o hk ho => k4 k o ho fun e => W.ne k e hk, fun k e1 e2 => ?_⟩
  rcases k5 with k5 | k5
  · exact W.ne k (k5 ▸ e1) e2
  · rw [k5] at e1
    cases e1
    obtain ⟨k', q1, q2⟩ := W.g2.lt
    rw [e2] at q1
    cases q1
    omega
theorem ref_Returns_L9 {T : Tab} {D : DTab} {N : Nat} {x0 : AV → AV → Hp → Option β} {xr : AV → AV → AV → Hp → Option β} {v0 : AV} (r : List Int) (b : Bool) (hl : r.length < 1000) (h : Hp) : ∀ (n : Nat) (pre post : List Int) (q : Int), r = pre ++ q :: post → post.length < n →
    f_ref44_Returns_L9 Try.prog T D N x0 xr n v0 (.lst 1 b (r.map encI)) (I ((pre.length : Int) + 1)) h = if ascI (some q) post = true then x0 v0 (.lst 1 b (r.map encI)) h else xr nilS nilS (I 5) h := by
  intro n
  induction n with
  | zero => intro pre post q _ h2; omega
  | succ n ih =>
    intro pre post q hc hn
    show f_ref44_Returns_b9 Try.prog T D N (f_ref44_Returns_L9 Try.prog T D N x0 xr n) x0 xr _ _ _ h = _
    have ln : ∀ k : Go.AM.K β, lenK (.lst 1 b (r.map encI)) k = k (I r.length) := fun k => by simp
    cases post with
    | nil =>
      have hlen : (r.length : Int) = (pre.length : Int) + 1 := by rw [hc]; simp
      have hlt : ¬ ((pre.length : Int) + 1 < (r.length : Int)) := by omega
      simp only [f_ref44_Returns_b9, ln, arithK_lss, hlt, decide_false, condK_bool, Bool.false_eq_true, if_false, ascI, if_true]
    | cons c post =>
      have hi : pre.length + 1 < r.length := by rw [hc]; simp
      have hqi : r[pre.length]? = some q := by rw [hc]; simp
      have hci : r[pre.length + 1]? = some c := by rw [hc, List.getElem?_append_right (by omega)]; simp
      have hlt : ((pre.length : Int) + 1 < (r.length : Int)) := by omega
      have w2 : IntKind.i64.wrap ((pre.length : Int) + 1 - 1) = (pre.length : Int) := by rw [wrap64 (by omega) (by omega)]; omega
      have w3 : IntKind.i64.wrap ((pre.length : Int) + 1 + 1) = (((pre ++ [q]).length : Nat) : Int) + 1 := by rw [wrap64 (by omega) (by omega)]; simp
      have step := ih (pre ++ [q]) post c (by simpa using hc) (by simpa using hn)
      have iq : ∀ k : Go.AM.K β, iaK 1 (.lst 1 b (r.map encI)) (I pre.length) k = k (.ep (encI q) 0) := fun k => iaK_at pre.length rfl hqi k
      have ic : ∀ k : Go.AM.K β, iaK 1 (.lst 1 b (r.map encI)) (I ((pre.length : Int) + 1)) k = k (.ep (encI c) 0) := fun k => iaK_at (pre.length + 1) (by omega) hci k
      have ldc : ∀ (g : Hp) (x : Int) (k : Go.AM.K β), ldK 1 false (.ep (encI x) 0) g k = k (I x) := fun g x k => by simp [encI]
      rw [ascI_cons]
      simp only [f_ref44_Returns_b9, ln, arithK_lss, hlt, decide_true, condK_bool, if_true, arithK_sub, w2, iq, ic, ldc, arithK_geq]
      by_cases ho : c ≤ q
      · have : ¬ q < c := by omega
        simp [ho, this]
      · have : q < c := by omega
        simp only [ho, this, decide_true, decide_false, Bool.false_eq_true, if_false, Bool.true_and, arithK_add, w3, step]
theorem ref_Returns_L8 {T : Tab} {D : DTab} {N : Nat} {x4 : AV → AV → AV → AV → AV → AV → AV → Hp → Option β} {v8 v9 v10 : AV} (l : List Ln) (r : List Int) (b b2 : Bool) (hl : r.length < 1000) (h : Hp) {i : Nat} {x : Ln} (hx : l[i]? = some x) : ∀ (n : Nat) (pre post : List Int) (is : Bool), r = pre ++ post → post.length < n →
    f_ref44_Returns_L8 Try.prog T D N x4 n (.lst 8 b (l.map encLn)) (.lst 1 b2 (r.map encI)) v8 v9 v10 (I i) (B is) (I pre.length) h = x4 (.lst 8 b (l.map encLn)) (.lst 1 b2 (r.map encI)) v8 v9 v10 (I i) (B (is || post.any fun y => y == x.id)) h := by
  intro n
  induction n with
  | zero => intro pre post is _ h2; omega
  | succ n ih =>
    intro pre post is hc hn
    show f_ref44_Returns_b8 Try.prog T D N (f_ref44_Returns_L8 Try.prog T D N x4 n) x4 _ _ _ _ _ _ _ _ h = _
    have ln : ∀ k : Go.AM.K β, lenK (.lst 1 b2 (r.map encI)) k = k (I r.length) := fun k => by simp
    cases post with
    | nil =>
      have : r = pre := by simpa using hc
      subst this
      simp [f_ref44_Returns_b8]
    | cons c post =>
      have hi : pre.length < r.length := by rw [hc]; simp
      have hci : r[pre.length]? = some c := by rw [hc]; simp
      have hlt : ((pre.length : Int) < (r.length : Int)) := by omega
      have hw : IntKind.i64.wrap ((pre.length : Int) + 1) = (((pre ++ [c]).length : Nat) : Int) := by rw [wrap64 (by omega) (by omega)]; simp
      have step := ih (pre ++ [c]) post (is || c == x.id) (by simpa using hc) (by simpa using hn)
      have ic : ∀ k : Go.AM.K β, iaK 1 (.lst 1 b2 (r.map encI)) (I pre.length) k = k (.ep (encI c) 0) := fun k => iaK_at pre.length rfl hci k
      have ix : ∀ k : Go.AM.K β, iaK 8 (.lst 8 b (l.map encLn)) (I i) k = k (.ep (encLn x) 0) := fun k => iaK_at i rfl hx k
      have ldc : ∀ (g : Hp) (x : Int) (k : Go.AM.K β), ldK 1 false (.ep (encI x) 0) g k = k (I x) := fun g x k => by simp [encI]
      have ldx : ∀ (g : Hp) (k : Go.AM.K β), ldK 1 false (.ep (encLn x) (0 + 0)) g k = k (I x.id) := fun g k => by simp [encLn]
      simp only [f_ref44_Returns_b8, ln, arithK_lss, hlt, decide_true, condK_bool, if_true, ic, ix, ldc, faK_ep, ldx, eqK_int, Bool.false_xor]
      rw [grpK_or]
      simp only [arithK_add, hw, step, List.any_cons, Bool.or_assoc]
theorem any_contains (r : List Int) (i : Int) : (r.any fun y => y == i) = r.contains i := by
  rw [Bool.eq_iff_iff, List.contains_iff_mem]; simp
def foundN (l : List Ln) (r : List Int) : Nat := (l.filter fun x => r.contains x.id).length
theorem foundN_snoc (l : List Ln) (r : List Int) (x : Ln) : foundN (l ++ [x]) r = foundN l r + (if r.contains x.id = true then 1 else 0) := by
  unfold foundN
  rw [List.filter_append, List.length_append]
  congr 1
  cases hb : r.contains x.id
  · rw [List.filter_cons_of_neg (by simp only [hb]; simp)]; rfl
  · rw [List.filter_cons_of_pos (by simp only [hb])]; rfl
theorem foundN_le (l : List Ln) (r : List Int) : foundN l r ≤ l.length := List.length_filter_le _ _
theorem ref_Returns_L3 {D : DTab} {N : Nat} (hN : 10000 < N) {T : Tab} {x2 : AV → AV → AV → AV → Hp → Option β} (l : List Ln) (r : List Int) (b b2 : Bool) (hl : l.length < 1000) (hr : r.length < 1000) :
    ∀ (n : Nat) (pre post : List Ln) (v8 v9 : AV) (h : Hp), l = pre ++ post → post.length < n → TwoM h v8 (backS pre r) v9 (keptS pre r) →
    ∃ v8' v9' h', f_ref44_Returns_L3 Try.prog T D N x2 n (.lst 8 b (l.map encLn)) (.lst 1 b2 (r.map encI)) v8 v9 (I (foundN pre r)) (I pre.length) h = x2 (.lst 1 b2 (r.map encI)) v8' v9' (I (foundN l r)) h' ∧ TwoM h' v8' (backS l r) v9' (keptS l r) := by
  intro n
  induction n with
  | zero => intro pre post v8 v9 h _ h2; omega
  | succ n ih =>
    intro pre post v8 v9 h hc hn W
    show ∃ v8' v9' h', f_ref44_Returns_b3 Try.prog T D N (f_ref44_Returns_L3 Try.prog T D N x2 n) x2 _ _ _ _ _ _ h = _ ∧ _
    have ln : ∀ k : Go.AM.K β, lenK (.lst 8 b (l.map encLn)) k = k (I l.length) := fun k => by simp
    cases post with
    | nil =>
      have : l = pre := by simpa using hc
      subst this
      exact ⟨v8, v9, h, by simp [f_ref44_Returns_b3], W⟩
    | cons c post =>
      have hi : pre.length < l.length := by rw [hc]; simp
      have hci : l[pre.length]? = some c := by rw [hc]; simp
      have hlt : ((pre.length : Int) < (l.length : Int)) := by omega
      have hw : IntKind.i64.wrap ((pre.length : Int) + 1) = (((pre ++ [c]).length : Nat) : Int) := by rw [wrap64 (by omega) (by omega)]; simp
      have ic : ∀ k : Go.AM.K β, iaK 8 (.lst 8 b (l.map encLn)) (I pre.length) k = k (.ep (encLn c) 0) := fun k => iaK_at pre.length rfl hci k
      have step := fun v8 v9 h => ih (pre ++ [c]) post v8 v9 h (by simpa using hc) (by simpa using hn)
      have L8 := ref_Returns_L8 (T := T) (D := D) (N := N) (x4 := fun w58_0 w58_1 w58_8 w58_9 w58_10 w58_11 w58_12 h => f_ref44_Returns_j6 Try.prog T D N (f_ref44_Returns_L3 Try.prog T D N x2 n) x2 w58_0 w58_1 w58_8 w58_9 w58_10 w58_11 w58_12 h) (v8 := v8) (v9 := v9) (v10 := I (foundN pre r)) l r b b2 hr h hci N [] r false rfl (by omega)
      rw [any_contains, Bool.false_or] at L8
      have hbl := back_len pre r
      have hkl := kept_len pre r
      have hfl := foundN_le pre r
      have hpl : pre.length ≤ l.length := by omega
      have wf : IntKind.i64.wrap ((foundN pre r : Int) + 1) = (foundN pre r : Int) + 1 := wrap64 (by omega) (by omega)
      rw [backS_snoc, keptS_snoc, foundN_snoc] at step
      have hge : encG (goodLn c) = [I c.id, I c.cls, I c.got] := rfl
      simp only [f_ref44_Returns_b3, ln, arithK_lss, hlt, decide_true, condK_bool, if_true]
      have L8' : f_ref44_Returns_L8 Try.prog T D N (fun w58_0 w58_1 w58_8 w58_9 w58_10 w58_11 w58_12 h => f_ref44_Returns_j6 Try.prog T D N (f_ref44_Returns_L3 Try.prog T D N x2 n) x2 w58_0 w58_1 w58_8 w58_9 w58_10 w58_11 w58_12 h) N (.lst 8 b (l.map encLn)) (.lst 1 b2 (r.map encI)) v8 v9 (I (foundN pre r)) (I pre.length) (B false) (I 0) h = _ := L8
      rw [L8']
      clear L8 L8' hc ih hci
      generalize goodLn c = g at *
      obtain ⟨i, cl, s, gt, ⟨e, o, d, u⟩⟩ := c
      dsimp only at *
      simp only [encLn] at ic
      generalize l.map encLn = L at *
      generalize r.map encI = R at *
      cases hrc : r.contains i with
      | true =>
        have hm : i ∈ r := by simpa using hrc
        by_cases hz : gt = 0
        · subst hz
          obtain ⟨a1, a2, a3, a4, a5⟩ := step v8 v9 (h ++ [.arr 3 [[I i, I cl, I 0]] true false]) (by simpa using W.app _)
          refine ⟨a1, a2, a3, ?_, a5⟩
          rw [← a4]
          simp [f_ref44_Returns_j6, ic, boxE, stE, ap, buildK, fillA, disjAll, disj2, idsOf, wrOf, wf, f_ref44_Returns_j7, f_ref44_Returns_j5, f_ref44_Returns_j4, hw, hm]
        · have hz' : (gt == 0) = false := by simpa using hz
          have hz2 : (gt != 0) = true := by simpa using hz
          obtain ⟨v', h3, k1, k2⟩ := (W.app [.arr 3 [[I i, I cl, I gt]] true false, .arr 3 [[I i, I cl, I gt]] true false]).snoc β (m := h.length + 1) (z := g) (b := true) (by rw [hge]; simp) (fun e => by obtain ⟨k', q1, q2⟩ := W.g1.lt; rw [e] at q1; cases q1; omega) (by omega)
          obtain ⟨a1, a2, a3, a4, a5⟩ := step v' v9 h3 (by simpa [hz2, hm] using k2)
          refine ⟨a1, a2, a3, ?_, a5⟩
          rw [← a4]
          simp at k1
          simp [f_ref44_Returns_j6, ic, boxE, stE, ap, buildK, fillA, disjAll, disj2, idsOf, wrOf, wf, hz', bsE, fillS, f_ref44_Returns_j7, f_ref44_Returns_j5, f_ref44_Returns_j4, hw, k1, hm]
      | false =>
        have hm : i ∉ r := by simpa using hrc
        by_cases hz : gt = 0
        · subst hz
          obtain ⟨a1, a2, a3, a4, a5⟩ := step v8 v9 (h ++ [.arr 3 [[I i, I cl, I 0]] true false]) (by simpa using W.app _)
          refine ⟨a1, a2, a3, ?_, a5⟩
          rw [← a4]
          simp [f_ref44_Returns_j6, ic, boxE, stE, ap, buildK, fillA, disjAll, disj2, idsOf, wrOf, wf, f_ref44_Returns_j7, f_ref44_Returns_j5, f_ref44_Returns_j4, hw, hm]
        · have hz' : (gt == 0) = false := by simpa using hz
          have hz2 : (gt != 0) = true := by simpa using hz
          obtain ⟨v', h3, k1, k2⟩ := (W.swap.app [.arr 3 [[I i, I cl, I gt]] true false, .arr 3 [[I i, I cl, I gt]] true false]).snoc β (m := h.length + 1) (z := g) (b := true) (by rw [hge]; simp) (fun e => by obtain ⟨k', q1, q2⟩ := W.g2.lt; rw [e] at q1; cases q1; omega) (by omega)
          obtain ⟨a1, a2, a3, a4, a5⟩ := step v8 v' h3 (by simpa [hz2, hm] using k2.swap)
          refine ⟨a1, a2, a3, ?_, a5⟩
          rw [← a4]
          simp at k1
          simp [f_ref44_Returns_j6, ic, boxE, stE, ap, buildK, fillA, disjAll, disj2, idsOf, wrOf, wf, hz', bsE, fillS, f_ref44_Returns_j7, f_ref44_Returns_j5, f_ref44_Returns_j4, hw, k1, hm]
end
theorem F_ref44_Returns_val (l : List Ln) (r : List Int) (b b2 : Bool) (hl : l.length < 1000) (hr : r.length < 1000) (h : Hp) :
    F_ref44_Returns [.lst 8 b (l.map encLn), .lst 1 b2 (r.map encI)] h = some (.tup [.lst 3 ((retS l r).2 != 0) ((retS l r).1.1.map encG), .lst 3 ((retS l r).2 != 0) ((retS l r).1.2.map encG), I (retS l r).2], h) := by
  have base : ∀ w v, f_ref44_Returns Try.prog t_ref44_Returns d_ref44_Returns NN (fun v g => cvt false g v) (.lst 8 b (l.map encLn)) (.lst 1 b2 (r.map encI)) [] = some w → nrmR [.l 3, .l 3, .o] w = v → F_ref44_Returns [.lst 8 b (l.map encLn), .lst 1 b2 (r.map encI)] h = some (v, h) := fun w v e1 e2 => by
    rw [← e2]
    exact F_ref44_Returns_run (a0 := .lst 8 b (l.map encLn)) (a1 := .lst 1 b2 (r.map encI)) rfl e1 h
  have fl := F_ref44_lines_val l b (by omega)
  unfold retS
  cases hA : linesS l with
  | false =>
    rw [hA] at fl
    refine base (.tup [nilS, nilS, I 1]) _ ?_ rfl
    generalize l.map encLn = L at *
    generalize r.map encI = R at *
    simp [f_ref44_Returns, fl]
  | true =>
    rw [hA] at fl
    rw [if_neg (by simp)]
    obtain ⟨hs, -, hl64⟩ := lines_sorted hA
    have red : f_ref44_Returns Try.prog t_ref44_Returns d_ref44_Returns NN (fun v g => cvt false g v) (.lst 8 b (l.map encLn)) (.lst 1 b2 (r.map encI)) [] = if ascI none r = true then f_ref44_Returns_j1 Try.prog t_ref44_Returns d_ref44_Returns NN (fun v g => cvt false g v) (.lst 8 b (l.map encLn)) (.lst 1 b2 (r.map encI)) [] else cvt false [] (.tup [nilS, nilS, I 5]) := by
      have e0 : f_ref44_Returns Try.prog t_ref44_Returns d_ref44_Returns NN (fun v g => cvt false g v) (.lst 8 b (l.map encLn)) (.lst 1 b2 (r.map encI)) [] = f_ref44_Returns_L9 Try.prog t_ref44_Returns d_ref44_Returns NN (fun w69_0 w69_1 h => f_ref44_Returns_j1 Try.prog t_ref44_Returns d_ref44_Returns NN (fun v g => cvt false g v) w69_0 w69_1 h) (fun w70_4 w70_5 w70_6 h => cvt false h (.tup [w70_4, w70_5, w70_6])) NN (.lst 8 b (l.map encLn)) (.lst 1 b2 (r.map encI)) (I 1) [] := by
        clear base
        generalize l.map encLn = L at *
        generalize r.map encI = R at *
        simp [f_ref44_Returns, fl]
      rw [e0]
      cases r with
      | nil =>
        have key : ∀ (m : Nat) (x0 : AV → AV → Hp → Option AV) (xr : AV → AV → AV → Hp → Option AV), 0 < m → f_ref44_Returns_L9 Try.prog t_ref44_Returns d_ref44_Returns NN x0 xr m (.lst 8 b (l.map encLn)) (.lst 1 b2 (([] : List Int).map encI)) (I 1) [] = x0 (.lst 8 b (l.map encLn)) (.lst 1 b2 (([] : List Int).map encI)) [] := by
          intro m x0 xr hm
          cases m with
          | zero => omega
          | succ m =>
            show f_ref44_Returns_b9 Try.prog t_ref44_Returns d_ref44_Returns NN (f_ref44_Returns_L9 Try.prog t_ref44_Returns d_ref44_Returns NN x0 xr m) x0 xr _ _ _ _ = _
            simp [f_ref44_Returns_b9]
        rw [key _ _ _ (by have := NN_ge; omega)]
        rfl
      | cons q post => exact ref_Returns_L9 (T := t_ref44_Returns) (D := d_ref44_Returns) (N := NN) (v0 := .lst 8 b (l.map encLn)) (q :: post) b2 hr [] NN [] post q rfl (by have := NN_ge; simp at hr; omega)
    cases hB : ascI none r with
    | false =>
      rw [hB, if_neg (by simp)] at red
      exact base (.tup [nilS, nilS, I 5]) _ (red.trans (by simp)) rfl
    | true =>
      rw [hB, if_pos rfl] at red
      rw [if_neg (by simp)]
      have hasc := (ascI_sorted r none hB).1
      obtain ⟨v9, v10, h', k1, W⟩ := ref_Returns_L3 (D := d_ref44_Returns) (N := NN) (T := t_ref44_Returns) (by have := NN_ge; omega) (x2 := fun w59_1 w59_8 w59_9 w59_10 h => f_ref44_Returns_j2 Try.prog t_ref44_Returns d_ref44_Returns NN (fun v g => cvt false g v) w59_1 w59_8 w59_9 w59_10 h) l r b b2 hl hr NN [] l (.sl 3 0 0 0 0 true) (.sl 3 1 0 0 0 true) [.arr 3 [] true false, .arr 3 [] true false] rfl (by have := NN_ge; omega) ⟨⟨0, true, rfl, rfl, fun _ => rfl⟩, ⟨1, true, rfl, rfl, fun _ => rfl⟩, fun k e => by simp at e; subst e; simp⟩
      have p1 := W.g1.cvt (fun x st => by cases st <;> simp [encG, isS]) false
      have p2 := W.g2.cvt (fun x st => by cases st <;> simp [encG, isS]) false
      have lb := fun k => W.g1.len (β := AV) k
      have lnr : ∀ k : Go.AM.K AV, lenK (.lst 1 b2 (r.map encI)) k = k (I r.length) := fun k => by simp
      have hfc : foundN l r = (r.filter (hasId l)).length := found_count hs hasc
      have hbc := back_count hs hasc
      have hfa : (r.filter (hasId l)).length = r.length ↔ r.all (hasId l) = true := all_len
      have hba : (r.filter (hasGot l)).length = r.length ↔ r.all (hasGot l) = true := all_len
      rw [← hfc] at hfa
      rw [← hbc] at hba
      have red2 : f_ref44_Returns_j1 Try.prog t_ref44_Returns d_ref44_Returns NN (fun v g => cvt false g v) (.lst 8 b (l.map encLn)) (.lst 1 b2 (r.map encI)) [] = f_ref44_Returns_j2 Try.prog t_ref44_Returns d_ref44_Returns NN (fun v g => cvt false g v) (.lst 1 b2 (r.map encI)) v9 v10 (I (foundN l r)) h' := by
        rw [← k1]
        clear base red k1
        generalize l.map encLn = L at *
        generalize r.map encI = R at *
        simp [f_ref44_Returns_j1, bsE, fillS, ap, foundN]
      rw [red2] at red
      clear red2 k1 W hbc hfc
      cases hC : r.all (hasId l) with
      | false =>
        rw [hC] at hfa
        have hne : ((foundN l r : Int) == (r.length : Int)) = false := by simp at hfa ⊢; omega
        rw [if_pos rfl]
        refine base (.tup [nilS, nilS, I 7]) _ (red.trans ?_) rfl
        clear base red
        generalize r.map encI = R at *
        simp [f_ref44_Returns_j2, lnr, hne]
      | true =>
        rw [hC] at hfa
        have he : foundN l r = r.length := hfa.2 rfl
        rw [if_neg (by simp)]
        cases hD : r.all (hasGot l) with
        | false =>
          rw [hD] at hba
          have hne : (((backS l r).length : Int) == (r.length : Int)) = false := by simp at hba ⊢; omega
          rw [if_pos rfl]
          refine base (.tup [nilS, nilS, I 9]) _ (red.trans ?_) rfl
          clear base red
          generalize r.map encI = R at *
          simp [f_ref44_Returns_j2, lnr, lb, he, hne]
        | true =>
          rw [hD] at hba
          have he2 : (backS l r).length = r.length := hba.2 rfl
          rw [if_neg (by simp)]
          refine base (.tup [.lst 3 false ((backS l r).map encG), .lst 3 false ((keptS l r).map encG), I 0]) _ (red.trans ?_) rfl
          clear base red
          generalize r.map encI = R at *
          simp [f_ref44_Returns_j2, lnr, lb, he, he2, p1, p2]
set_option maxHeartbeats 4000000 in
theorem totals_law (l : List Ln) (b : Bool) (lim : Int) (r : List Int) (b2 : Bool) : F_law44_ReceiptTotals [SL 8 encLn b l, I lim, SL 1 encI b2 r] [] = some (B true, []) := by
  refine F_law44_ReceiptTotals_run (a0 := SL 8 encLn b l) (a1 := I lim) (a2 := SL 1 encI b2 r) rfl ?_ []
  simp only [nrm, nrmC, SL]
  have fl := F_ref44_FewLines_val l (b && l.isEmpty)
  have l4 : ∀ k : Go.AM.K AV, lenK (.lst 1 (b2 && r.isEmpty) (r.map encI)) k = k (I r.length) := fun k => by simp
  obtain ⟨e4, he4⟩ : ∃ e, decide ((30 : Int) < (r.length : Int)) = e := ⟨_, rfl⟩
  cases hq : (!fewM l.length || e4) with
  | true =>
    generalize fewM l.length = fm at *
    generalize l.map encLn = L at *
    generalize r.map encI = R at *
    cases fm <;> cases e4 <;> simp at hq <;> simp [f_law44_ReceiptTotals, F_law44_awake_val, fl, l4, he4]
  | false =>
    simp only [Bool.or_eq_false_iff, Bool.not_eq_false'] at hq
    obtain ⟨hf, rfl⟩ := hq
    rw [hf] at fl
    have k1 := fewM_bd hf
    have k2 : r.length < 1000 := by simp at he4; omega
    have c1 := F_slices_Clone_Line_val l b (by omega)
    have c2 := F_slices_Clone_int_val r b2 (by omega)
    have t1 := F_receipt_Total_val l (b && l.isEmpty) (by omega)
    have t2 := F_ref44_Total_val l (b && l.isEmpty) (by omega)
    have a1 := F_receipt_Accepts_val l (b && l.isEmpty) lim (by omega)
    have a2 := F_ref44_Accepts_val l (b && l.isEmpty) lim (by omega)
    have r1 := F_receipt_Returns_val l r (b && l.isEmpty) (b2 && r.isEmpty) (by omega) k2
    have r2 := F_ref44_Returns_val l r (b && l.isEmpty) (b2 && r.isEmpty) (by omega) k2
    have bd : (retS l r).1.1.length < 1000000 ∧ (retS l r).1.2.length < 1000000 := by
      by_cases h0 : (retS l r).2 = 0
      · rw [(ret_ok h0).2.2.2.2]
        have := back_len l r
        have := kept_len l r
        dsimp only
        omega
      · rw [ret_err h0]; simp
    have s1 := F_ref44_SameGoods_val (retS l r).1.1 (retS l r).1.1 (retS l r).1.1.isEmpty ((retS l r).2 != 0) bd.1
    have s2 := F_ref44_SameGoods_val (retS l r).1.2 (retS l r).1.2 (retS l r).1.2.isEmpty ((retS l r).2 != 0) bd.2
    simp only [SL] at c1 c2
    clear bd
    generalize acceptLn l lim = ac at *
    obtain ⟨x, y⟩ := ac
    generalize totalLn l = tt at *
    obtain ⟨⟨s, g, ⟨e, o, d, u⟩⟩, er⟩ := tt
    generalize retS l r = rr at *
    obtain ⟨⟨A, C⟩, e3⟩ := rr
    dsimp only at *
    simp only [encO] at t1 t2
    generalize A.map encG = AA at *
    generalize C.map encG = CC at *
    generalize A.isEmpty = za at *
    generalize C.isEmpty = zc at *
    generalize (e3 != 0) = z3 at *
    generalize l.map encLn = L at *
    generalize r.map encI = R at *
    simp (maxSteps := 10000000) only [f_law44_ReceiptTotals]
    simp (maxSteps := 10000000) [F_law44_awake_val, boxE, stE, ap, fl, l4, he4, c1, c2, t1, t2, a1, a2, r1, r2, s1, s2, eqK_bool]
end Go.AM


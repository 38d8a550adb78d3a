import Derived.Test.YtlnjnfbdcdmacaaDbd
/- drawback: one claim carried out. -/
namespace Go.AM
open Go.Proofs
set_option linter.unusedVariables false
set_option linter.unusedSimpArgs false
set_option linter.constructorNameAsVariable false
set_option maxRecDepth 20000
def OutG (g : List AObj) (v : AV) (outs : List Int) : Prop := (outs = [] ∧ v = nilS) ∨ (outs ≠ [] ∧ ∃ k, v = .sl 1 (k + 3) 0 outs.length outs.length false ∧ g[k]? = some (.arr 1 (outs.map encI) true false))
theorem mupE_upd {P : Program} {kt : TypeId} {kk : IntKind} {h : Hp} {id : Nat} {kvs kvs' : List (Value × AV)} {v : AV} {n : Int} (hu : P.underlying kt = some (.int kk)) (hid : h[id]? = some (.map kvs)) (hk : updateKV kvs (keyEq P kt) (.int kk n) v = some kvs') :
    mupE P kt (.mp id) (.s (.int kk n)) v h = some (.u, ⟨[(id, .map kvs')], [], [id]⟩) := by
  unfold mupE
  simp only [toV, gv, if_true, hid, keyOk_int hu, hk]
theorem OutG.app {g : List AObj} {v : AV} {outs : List Int} (O : OutG g v outs) (x : List AObj) : OutG (g ++ x) v outs := by
  rcases O with h | ⟨h1, k, h2, h3⟩
  · exact .inl h
  · exact .inr ⟨h1, k, h2, get_app h3⟩
theorem partOf_bd (p : Paid) (n : Int) (h0 : 0 ≤ n) (hd : 0 ≤ p.duty) (ha : 0 ≤ p.alc) : 0 ≤ partOf p n ∧ partOf p n ≤ 128849018880000 := by
  unfold partOf propOf
  split
  · simp
  · split
    · simp
    · split
      · exact ⟨Int.ediv_nonneg (Int.mul_nonneg hd h0) ha, by assumption⟩
      · simp
section
variable {β : Type} {P : Program} {T : Tab} {D : DTab} {N : Nat} {K : AV → Hp → Option β}
theorem effD_y (v : AV) (e : Eff) (h : Hp) (k : AV → Hp → Ent → Option β) : effD (some (v, e)) h k = k v (ap h e) (e.foot, wrOf h.length e) := rfl
theorem callE_F (F : DFun) (args : List AV) (h : Hp) (base : Nat) : callE (some F) args h base = F args h base := rfl
theorem G_drawback_part_val (p : Paid) (n : Int) (h : Hp) (base : Nat) : G_drawback_part [.agg (encP p), I n] h base = some (I (partOf p n), EF []) := by
  have := closedXD_val (F_drawback_part_val p n h) base
  refine this.trans ?_
  simp [idss, ids, encP]
variable {xn : AV → AV → AV → AV → AV → AV → Hp → Option β} {x3 : AV → AV → Hp → Option β} {xr : AV → AV → AV → AV → Hp → Option β} {v15 v16 v59 v60 : AV} {c : Claim} {kp kc : List (Value × AV)} {last limit : Int} {paid : Int → Option Paid} {cl : Int → Int} {g : List AObj} {outs : List Int} {p : Paid} {i cb : Nat}
set_option maxHeartbeats 2000000 in
theorem carry_j5 (hD : D 34 = some G_drawback_part) (A : PaidAt kp paid) (C : ClaimedAt kc cl) (hp : paid c.paid = some p) (hc : g[cb]? = some (.arr 3 [encC c] true false)) (O : OutG g v16 outs) (ho : outs.length < 1000) (hi : i < 1000)
    (b1 : 0 ≤ cl c.paid ∧ cl c.paid ≤ 10737418240000) (b2 : 0 ≤ c.alc ∧ c.alc ≤ 10737418240000) (b3 : 0 ≤ p.duty ∧ 0 ≤ p.alc) :
    ∃ v' g' kc', f_drawback_carry_j5 Try.prog T D N xn x3 xr (.ptr 2 0 0 1) v15 v16 (.ptr (cb + 3) 0 0 1) v59 v60 (I i) (fileH kp kc last limit g) = xn (.ptr 2 0 0 1) v15 v' v59 v60 (I (i + 1 : Nat)) (fileH kp kc' c.day limit g') ∧
      OutG g' v' (outs ++ [partOf p (cl c.paid + c.alc) - partOf p (cl c.paid)]) ∧ ClaimedAt kc' (fun n => if n = c.paid then cl n + c.alc else cl n) ∧ ∀ (k : Nat) (es : List (List AV)), g[k]? = some (.arr 2 es true false) → g'[k]? = some (.arr 2 es true false) := by
  have L := fun (ok : Bool) (h : Hp) (hid : h[0]? = some (.map kp)) (k : Go.AM.K β) => look_paid A hid ok c.paid k
  have L2 := fun (h : Hp) (hid : h[1]? = some (.map kc)) (k : Go.AM.K β) => look_claimed C hid c.paid k
  have w1 : IntKind.i64.wrap (cl c.paid + c.alc) = cl c.paid + c.alc := wrap64 (by omega) (by omega)
  have q1 := partOf_bd p (cl c.paid + c.alc) (by omega) b3.1 b3.2
  have q2 := partOf_bd p (cl c.paid) (by omega) b3.1 b3.2
  have w2 : IntKind.i64.wrap (partOf p (cl c.paid + c.alc) - partOf p (cl c.paid)) = partOf p (cl c.paid + c.alc) - partOf p (cl c.paid) := wrap64 (by omega) (by omega)
  have w3 : IntKind.i64.wrap ((i : Int) + 1) = ((i + 1 : Nat) : Int) := by rw [wrap64 (by omega) (by omega)]; omega
  have gp := fun n h base => G_drawback_part_val p n h base
  simp only [encP] at gp
  have hc' := fun x : List AObj => get_app (g := x) hc
  simp only [encC] at hc'
  have hc0 := hc
  simp only [encC] at hc0
  obtain ⟨kc', u1, u2, u3⟩ := updateKV_int (P := Try.prog) (kt := 3) un_3 c.paid (I (cl c.paid + c.alc)) C.keys
  have hC : ClaimedAt kc' (fun n => if n = c.paid then cl n + c.alc else cl n) := ⟨u2, fun n => by
    rw [u3]
    by_cases hn : n = c.paid
    · simp [hn]
    · simpa [hn] using C.get n⟩
  have hU := fun (h : Hp) (hid : h[1]? = some (.map kc)) => mupE_upd (P := Try.prog) (kt := 3) (v := I (cl c.paid + c.alc)) (n := c.paid) un_3 hid u1
  have hcb : g.length ≠ cb := by have := (List.getElem?_eq_some_iff.1 hc).1; omega
  obtain ⟨z, hz⟩ : ∃ z, z = partOf p (cl c.paid + c.alc) - partOf p (cl c.paid) := ⟨_, rfl⟩
  rw [← hz] at w2 ⊢
  rcases O with ⟨rfl, rfl⟩ | ⟨hne, k, rfl, hk⟩
  · refine ⟨.sl 1 (g.length + 2 + 3) 0 1 1 false, g ++ [.arr 5 [encP p] true false, .arr 1 [encI z] true false, .arr 1 [encI z] true false], kc', ?_, .inr ⟨by simp, g.length + 2, rfl, by simp⟩, hC, fun k es hk => get_app hk⟩
    simp only [f_drawback_carry_j5]
    simp [hc0]
    rw [L _ _ (by simp)]
    simp [hp, hc0]
    rw [L2 _ (by simp)]
    simp [boxE, encP, effD_y, disjAll, disj2, wrOf, idsOf, hc', w1, hD, callE_F, gp, ← hz, w2, hcb, bsE, fillS, appE, readSl]
    rw [L2 _ (by simp)]
    simp [w1]
    rw [hU _ (by simp)]
    simp [hc', w3, f_drawback_carry_j4]
  · have hkl := (List.getElem?_eq_some_iff.1 hk).1
    have hkc : k ≠ cb := by rintro rfl; rw [hk] at hc; simp at hc
    have hle : (outs.length + 1) * 8 ≤ 140737488355328 := by omega
    refine ⟨.sl 1 (k + 3) 0 (outs ++ [z]).length (outs ++ [z]).length false, g.set k (.arr 1 ((outs ++ [z]).map encI) true false) ++ [.arr 5 [encP p] true false, .arr 1 [encI z] true false], kc', ?_, .inr ⟨by simp, k, rfl, by
      rw [List.getElem?_append_left (by simpa using hkl)]; simp [hkl]⟩, hC, fun j es hj => by
      have hjk : k ≠ j := by rintro rfl; rw [hk] at hj; simp at hj
      exact get_app (by rw [List.getElem?_set_ne hjk]; exact hj)⟩
    have hk' := fun x : List AObj => get_app (g := x) hk
    have hcs := fun (o : AObj) (x : List AObj) => get_app (g := x) (show (g.set k o)[cb]? = some (.arr 3 [encC c] true false) by rw [List.getElem?_set_ne hkc]; exact hc)
    simp only [encC] at hcs
    have hst := fun (o : AObj) (x : List AObj) => List.set_append_left (s := g) (t := x) k o hkl
    simp only [f_drawback_carry_j5]
    simp [hc0]
    rw [L _ _ (by simp)]
    simp [hp, hc0]
    rw [L2 _ (by simp)]
    simp [boxE, encP, effD_y, disjAll, disj2, wrOf, idsOf, hc', w1, hD, callE_F, gp, ← hz, w2, hcb, bsE, fillS, appE, readSl, hk', hle, hst, hcs]
    rw [L2 _ (by simp)]
    simp [w1]
    rw [hU _ (by simp)]
    simp [hc', w3, hcs, f_drawback_carry_j4]
end
end Go.AM

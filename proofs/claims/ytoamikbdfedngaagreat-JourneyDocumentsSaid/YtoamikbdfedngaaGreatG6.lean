import Derived.Test.YtoamikbdfedngaaGreatG5
import Derived.Below
import Derived.ChangeOld
import Derived.Carry
import Derived.OpenShut
set_option linter.unusedSectionVars false
set_option linter.unusedVariables false
set_option linter.unusedSimpArgs false
set_option linter.constructorNameAsVariable false
namespace Go.AM
open Go.Proofs
set_option linter.unusedVariables false
set_option linter.unusedSimpArgs false
set_option linter.constructorNameAsVariable false
set_option maxRecDepth 20000
theorem checkA_ok {l : List Allow} (h : (checkA l).2 = 0) : l.length ≤ 128 ∧ (∀ a ∈ l, badA a = false) ∧ l.Pairwise (fun a b => ltA a b = true) := by
  unfold checkA at h
  split at h
  · simp at h
  · cases hc : checkG badA ltA none l 0 with
    | none =>
      obtain ⟨h1, h2, -⟩ := checkG_none ltA_trans l none 0 hc
      exact ⟨by omega, h1, h2⟩
    | some x => rw [hc] at h; exact absurd h (checkG_ne _ _ _ _ hc)
theorem badA_bd {a : Allow} (h : badA a = false) : (0 ≤ a.frm ∧ a.frm ≤ 100000) ∧ (1 ≤ a.cls ∧ a.cls ≤ 9) ∧ (1 ≤ a.mon ∧ a.mon ≤ 12) ∧ 0 ≤ a.rate ∧ a.rate ≤ 10000 := by
  simp [badA, win] at h; omega
section
variable {β : Type} {P : Program} {T : Tab} {D : DTab} {N : Nat} {K : AV → Hp → Option β}
theorem F_season_Check_val (l : List Allow) (b : Bool) (h : Hp) : F_season_Check [.lst 4 b (l.map encA)] h = some (.tup [I (checkA l).1, I (checkA l).2], h) := by
  refine F_season_Check_run rfl ?_ h
  unfold checkA
  by_cases hl : 128 < l.length
  · have hl' : (128 : Int) < (l.length : Int) := by omega
    simp [f_season_Check, hl, hl']
  · have hl' : ¬ (128 : Int) < (l.length : Int) := by omega
    have h1 := season_Check_L2 (β := AV) (P := Tryz.prog) (T := t_season_Check) (D := d_season_Check) (N := NN) (x0 := fun h => f_season_Check_j1 Tryz.prog t_season_Check d_season_Check NN (fun v g => cvt false g v) h) (xr := fun a b h => cvt false h (.tup [a, b])) rfl rfl
      (X := some (.tup [I (-1), I 0])) (R := fun a b => some (.tup [I a, I b])) (fun h => rfl) (fun a b h => rfl) l b (by omega) NN [] l [] rfl (by have := NN_ge; omega)
    simp [f_season_Check, hl, hl'] at h1 ⊢
    refine h1.trans ?_
    cases checkG badA ltA none l 0 <;> rfl
def rightA (l : List Allow) : Bool := decide ((checkA l).2 = 0)
theorem F_season_right_val (l : List Allow) (b : Bool) (h : Hp) : F_season_right [.lst 4 b (l.map encA)] h = some (B (rightA l), h) := by
  refine F_season_right_run rfl ?_ h
  simp [f_season_right, F_season_Check_val, rightA]
  rfl
theorem Search_L2 {x0 : AV → Hp → Option β} {fv : AV} {h : Hp} {n c : Nat} (hn : n < 1000000) (hc : c ≤ n) (hp : ∀ j, j < n → ∀ k : AV → Hp → Option β, callVK T fv [I (j : Nat)] h k = k (B (decide (c ≤ j))) h) : ∀ (m i j : Nat), i ≤ c → c ≤ j → j ≤ n → j - i < m →
    f_sort_Search_L2 Tryz.prog T D N x0 m fv (I i) (I j) h = x0 (I c) h := by
  intro m
  induction m with
  | zero => intro i j _ _ _ h; omega
  | succ m ih =>
    intro i j h1 h2 h3 h4
    show f_sort_Search_b2 Tryz.prog T D N (f_sort_Search_L2 Tryz.prog T D N x0 m) x0 _ _ _ h = _
    by_cases hij : i < j
    · have hij' : (i : Int) < (j : Int) := by omega
      obtain ⟨q, hq⟩ : ∃ q, q = (i + j) / 2 := ⟨_, rfl⟩
      have w1 : IntKind.i64.wrap ((i : Int) + (j : Int)) = ((i + j : Nat) : Int) := by rw [wrap64 (by omega) (by omega)]; omega
      have w2 : IntKind.u64.wrap ((i + j : Nat) : Int) = ((i + j : Nat) : Int) := wrapU (by omega) (by omega)
      have w3 : IntKind.i64.wrap (q : Int) = (q : Int) := wrap64 (by omega) (by omega)
      have w4 : IntKind.i64.wrap ((q : Int) + 1) = ((q + 1 : Nat) : Int) := by rw [wrap64 (by omega) (by omega)]; omega
      have hs : ∀ k : Go.AM.K β, reckK Tryz.prog .shr 111 (.s (.int .u64 ((i + j : Nat) : Int))) (.s (.int .u64 1)) k = k (.s (.int .u64 (q : Int))) := fun k => by
        have := reck_shr (P := Tryz.prog) (ty := 111) (i + j) 1 (by omega) k
        rw [hq]; exact this
      have hpq := hp q (by omega)
      have a1 : ∀ k : Go.AM.K β, arithK .add (I i) (I j) k = k (I ((i + j : Nat) : Int)) := fun k => by rw [arithK_add, w1]
      have a2 : ∀ k : Go.AM.K β, convK Tryz.prog 3 111 (I ((i + j : Nat) : Int)) k = k (.s (.int .u64 ((i + j : Nat) : Int))) := fun k => by rw [convK_int un_3 un_111, w2]
      have a3 : ∀ k : Go.AM.K β, convK Tryz.prog 111 3 (.s (.int .u64 (q : Int))) k = k (I q) := fun k => by rw [convK_int un_111 un_3, w3]
      simp only [f_sort_Search_b2, f_sort_Search_j3, arithK_lss, hij', decide_true, condK_bool, if_true, a1, a2, hs, a3, hpq, notK_bool]
      by_cases hcq : c ≤ q
      · rw [decide_eq_true hcq]
        simp only [Bool.not_true, Bool.false_eq_true, if_false]
        exact ih i q h1 hcq (by omega) (by omega)
      · rw [decide_eq_false hcq]
        simp only [Bool.not_false, if_true, arithK_add, w4]
        exact ih (q + 1) j (by omega) h2 h3 (by omega)
    · have : i = j := by omega
      have : i = c := by omega
      subst this
      have hij' : ¬ (i : Int) < (j : Int) := by omega
      simp [f_sort_Search_b2, hij']
theorem Search_K {K : AV → Hp → Option β} {fv : AV} {h : Hp} {n c : Nat} (hn : n < 1000000) (hN : n < N) (hc : c ≤ n) (hp : ∀ j, j < n → ∀ k : AV → Hp → Option β, callVK T fv [I (j : Nat)] h k = k (B (decide (c ≤ j))) h) :
    f_sort_Search Tryz.prog T D N K (I n) fv h = K (I c) h := by
  have := Search_L2 (D := D) (N := N) (x0 := fun w10_5 h => f_sort_Search_j1 Tryz.prog T D N K w10_5 h) hn hc hp N 0 n (by omega) hc (Nat.le_refl _) (by omega)
  exact this
def upto (l : List Allow) (day : Int) : Nat := (l.takeWhile fun a => decide (a.frm ≤ day)).length
def versionL (l : List Allow) (day : Int) : Option Int := ((l.take (upto l day)).getLast?).map (·.frm)
theorem upto_le (l : List Allow) (day : Int) : upto l day ≤ l.length := tw_le _ _
theorem upto_get {l : List Allow} (hs : l.Pairwise (fun a b => ltA a b = true)) (day : Int) {j : Nat} {a : Allow} (ha : l[j]? = some a) : decide (a.frm ≤ day) = decide (j < upto l day) := by
  obtain ⟨hj, e⟩ := List.getElem?_eq_some_iff.1 ha
  have := tw_get (R := fun a b => ltA a b = true) (p := fun a : Allow => decide (a.frm ≤ day)) (fun a b h hb => by have := ltA_frm h; simp at hb ⊢; omega) hs j hj
  rw [e] at this
  exact this
theorem upto_dec {l : List Allow} (hs : l.Pairwise (fun a b => ltA a b = true)) (day : Int) {j : Nat} {a : Allow} (ha : l[j]? = some a) : decide (day < a.frm) = decide (upto l day ≤ j) := by
  have := upto_get hs day ha
  by_cases h : a.frm ≤ day
  · rw [decide_eq_true h] at this
    have h2 := of_decide_eq_true this.symm
    rw [decide_eq_false (by omega), decide_eq_false (by omega)]
  · rw [decide_eq_false h] at this
    have h2 := of_decide_eq_false this.symm
    rw [decide_eq_true (by omega), decide_eq_true (by omega)]
theorem F_season_version_1_val (l : List Allow) (b : Bool) (day : Int) {a : Allow} (j i1 i2 : Nat) (ha : l[j]? = some a) {h : Hp} (h1 : h[i1]? = some (.arr 1 [[.lst 4 b (l.map encA)]] true false)) (h2 : h[i2]? = some (.arr 1 [[I day]] true false)) :
    F_season_version_1 [I j, .ptr i1 0 0 1, .ptr i2 0 0 1] h = some (B (decide (day < a.frm)), h) := by
  refine F_season_version_1_q (g := []) ?_ rfl
  simp [f_season_version_1, h1, h2, ha, encA]
theorem F_season_on_1_val (l : List Allow) (b : Bool) (day : Int) {a : Allow} (j i1 i2 : Nat) (ha : l[j]? = some a) {h : Hp} (h1 : h[i1]? = some (.arr 1 [[.lst 4 b (l.map encA)]] true false)) (h2 : h[i2]? = some (.arr 1 [[I day]] true false)) :
    F_season_on_1 [I j, .ptr i1 0 0 1, .ptr i2 0 0 1] h = some (B (decide (day < a.frm)), h) := by
  refine F_season_on_1_q (g := []) ?_ rfl
  simp [f_season_on_1, h1, h2, ha, encA]
theorem F_season_rate_1_val (l : List Allow) (b : Bool) (w : Allow) {a : Allow} (j i1 i2 : Nat) (ha : l[j]? = some a) {h : Hp} (h1 : h[i1]? = some (.arr 1 [[.lst 4 b (l.map encA)]] true false)) (h2 : h[i2]? = some (.arr 4 [encA w] true false)) :
    F_season_rate_1 [I j, .ptr i1 0 0 1, .ptr i2 0 0 1] h = some (B (!ltA a w), h) := by
  refine F_season_rate_1_q (g := []) ?_ rfl
  have fb := F_season_before_val a w
  simp only [encA] at h2 fb
  simp [f_season_rate_1, h1, h2, ha, encA, fb]
theorem F_Search_version (l : List Allow) (b : Bool) (day : Int) (hs : l.Pairwise (fun a b => ltA a b = true)) (hl : l.length < 1000000) (i1 i2 : Nat) {h : Hp} (h1 : h[i1]? = some (.arr 1 [[.lst 4 b (l.map encA)]] true false)) (h2 : h[i2]? = some (.arr 1 [[I day]] true false)) :
    F_sort_Search__season_version_1 [I l.length, .fn 128 [.ptr i1 0 0 1, .ptr i2 0 0 1]] h = some (I (upto l day), h) := by
  refine F_sort_Search__season_version_1_q (g := []) ?_ rfl
  rw [List.append_nil]
  refine Search_K hl (by have := NN_ge; omega) (upto_le l day) fun j hj k => ?_
  have ha := List.getElem?_eq_getElem hj
  have := F_season_version_1_val l b day j i1 i2 ha h1 h2
  rw [upto_dec hs day ha] at this
  simp [this]
theorem F_Search_on (l : List Allow) (b : Bool) (day : Int) (hs : l.Pairwise (fun a b => ltA a b = true)) (hl : l.length < 1000000) (i1 i2 : Nat) {h : Hp} (h1 : h[i1]? = some (.arr 1 [[.lst 4 b (l.map encA)]] true false)) (h2 : h[i2]? = some (.arr 1 [[I day]] true false)) :
    F_sort_Search__season_on_1 [I l.length, .fn 101 [.ptr i1 0 0 1, .ptr i2 0 0 1]] h = some (I (upto l day), h) := by
  refine F_sort_Search__season_on_1_q (g := []) ?_ rfl
  rw [List.append_nil]
  refine Search_K hl (by have := NN_ge; omega) (upto_le l day) fun j hj k => ?_
  have ha := List.getElem?_eq_getElem hj
  have := F_season_on_1_val l b day j i1 i2 ha h1 h2
  rw [upto_dec hs day ha] at this
  simp [this]
def ahead (l : List Allow) (w : Allow) : Nat := (l.takeWhile fun a => ltA a w).length
theorem ahead_get {l : List Allow} (hs : l.Pairwise (fun a b => ltA a b = true)) (w : Allow) {j : Nat} {a : Allow} (ha : l[j]? = some a) : (!ltA a w) = decide (ahead l w ≤ j) := by
  obtain ⟨hj, e⟩ := List.getElem?_eq_some_iff.1 ha
  have := tw_get (R := fun a b => ltA a b = true) (p := fun a : Allow => ltA a w) (fun a b h hb => ltA_trans a b w h hb) hs j hj
  rw [e] at this
  rw [this]
  unfold ahead
  by_cases h : j < (l.takeWhile fun a => ltA a w).length
  · rw [decide_eq_true h, decide_eq_false (by omega)]; rfl
  · rw [decide_eq_false h, decide_eq_true (by omega)]; rfl
theorem F_Search_rate (l : List Allow) (b : Bool) (w : Allow) (hs : l.Pairwise (fun a b => ltA a b = true)) (hl : l.length < 1000000) (i1 i2 : Nat) {h : Hp} (h1 : h[i1]? = some (.arr 1 [[.lst 4 b (l.map encA)]] true false)) (h2 : h[i2]? = some (.arr 4 [encA w] true false)) :
    F_sort_Search__season_rate_1 [I l.length, .fn 129 [.ptr i1 0 0 1, .ptr i2 0 0 1]] h = some (I (ahead l w), h) := by
  refine F_sort_Search__season_rate_1_q (g := []) ?_ rfl
  rw [List.append_nil]
  refine Search_K hl (by have := NN_ge; omega) (tw_le _ _) fun j hj k => ?_
  have ha := List.getElem?_eq_getElem hj
  have := F_season_rate_1_val l b w j i1 i2 ha h1 h2
  rw [ahead_get hs w ha] at this
  simp [this]
theorem F_season_version_val (l : List Allow) (b : Bool) (day : Int) (hs : l.Pairwise (fun a b => ltA a b = true)) (hl : l.length < 1000000) (h : Hp) : F_season_version [.lst 4 b (l.map encA), I day] h = some (match versionL l day with | some v => .tup [I v, B true] | none => .tup [I 0, B false], h) := by
  refine F_season_version_run rfl ?_ h
  have fs := F_Search_version l b day hs hl 0 1 (h := [.arr 1 [[.lst 4 b (l.map encA)]] true false, .arr 1 [[I day]] true false]) rfl rfl
  have hu := upto_le l day
  unfold versionL
  by_cases h0 : upto l day = 0
  · rw [h0] at fs ⊢
    simp [f_season_version, fs]
  · obtain ⟨j, hj⟩ : ∃ j, upto l day = j + 1 := ⟨upto l day - 1, by omega⟩
    have hjl : j < l.length := by omega
    have ha := List.getElem?_eq_getElem hjl
    have hg : (l.take (upto l day)).getLast? = some l[j] := by
      rw [hj, List.getLast?_eq_getElem?, List.length_take, Nat.min_eq_left (by omega), List.getElem?_take]
      simp
    rw [hg]
    have w1 : IntKind.i64.wrap ((upto l day : Int) - 1) = (j : Int) := by rw [wrap64 (by omega) (by omega)]; omega
    have hne : ((upto l day : Int) == 0) = false := by simpa using h0
    simp [f_season_version, fs, w1, h0, hne, ha, encA]
def rateAt (l : List Allow) (v cls mon : Int) : Int := match l.find? (fun a => decide (a.frm = v ∧ a.cls = cls ∧ a.mon = mon)) with | some a => a.rate | none => 0
theorem find_ahead {l : List Allow} (hs : l.Pairwise (fun a b => ltA a b = true)) (v cls mon : Int) : l.find? (fun a => decide (a.frm = v ∧ a.cls = cls ∧ a.mon = mon)) = match l[ahead l ⟨v, cls, mon, 0⟩]? with
    | some a => if a.frm = v ∧ a.cls = cls ∧ a.mon = mon then some a else none
    | none => none := by
  induction l with
  | nil => rfl
  | cons a l ih =>
    obtain ⟨h1, h2⟩ := List.pairwise_cons.1 hs
    by_cases hk : a.frm = v ∧ a.cls = cls ∧ a.mon = mon
    · have hn : ltA a ⟨v, cls, mon, 0⟩ = false := by
        cases hq : ltA a ⟨v, cls, mon, 0⟩ with
        | false => rfl
        | true => rw [ltA_iff] at hq; simp at hq; omega
      have : ahead (a :: l) ⟨v, cls, mon, 0⟩ = 0 := by
        unfold ahead; rw [List.takeWhile_cons_of_neg (by simp [hn])]; rfl
      rw [this]
      simp [hk]
    · rw [List.find?_cons_of_neg (by simpa using hk), ih h2]
      by_cases hlt : ltA a ⟨v, cls, mon, 0⟩ = true
      · have : ahead (a :: l) ⟨v, cls, mon, 0⟩ = ahead l ⟨v, cls, mon, 0⟩ + 1 := by
          unfold ahead; rw [List.takeWhile_cons_of_pos (p := fun a => ltA a ⟨v, cls, mon, 0⟩) hlt]; rfl
        rw [this]
        simp
      · have e0 : ahead (a :: l) ⟨v, cls, mon, 0⟩ = 0 := by
          unfold ahead; rw [List.takeWhile_cons_of_neg (p := fun a => ltA a ⟨v, cls, mon, 0⟩) hlt]; rfl
        rw [e0]
        simp only [List.getElem?_cons_zero]
        rw [if_neg hk]
        clear ih
        cases l with
        | nil => rfl
        | cons c l =>
          have hac := h1 c (by simp)
          have hc : ltA c ⟨v, cls, mon, 0⟩ = false := by
            cases hq : ltA c ⟨v, cls, mon, 0⟩ with
            | false => rfl
            | true => exact absurd (ltA_trans a c _ hac hq) hlt
          have e1 : ahead (c :: l) ⟨v, cls, mon, 0⟩ = 0 := by
            unfold ahead; rw [List.takeWhile_cons_of_neg (by simp [hc])]; rfl
          rw [e1]
          simp only [List.getElem?_cons_zero]
          rw [if_neg]
          rintro ⟨q1, q2, q3⟩
          apply hlt
          rw [ltA_iff] at hac ⊢
          simp only
          omega
theorem F_season_rate_val (l : List Allow) (b : Bool) (v cls mon : Int) (hs : l.Pairwise (fun a b => ltA a b = true)) (hl : l.length < 1000000) (h : Hp) : F_season_rate [.lst 4 b (l.map encA), I v, I cls, I mon] h = some (I (rateAt l v cls mon), h) := by
  refine F_season_rate_run rfl ?_ h
  have fs := F_Search_rate l b ⟨v, cls, mon, 0⟩ hs hl 0 1 (h := [.arr 1 [[.lst 4 b (l.map encA)]] true false, .arr 4 [[I v, I cls, I mon, I 0]] true false]) rfl rfl
  have hf := find_ahead hs v cls mon
  unfold rateAt
  rw [hf]
  generalize ahead l ⟨v, cls, mon, 0⟩ = c at *
  by_cases hc : c < l.length
  · obtain ⟨a, ha⟩ : ∃ a, l[c]? = some a := ⟨_, List.getElem?_eq_getElem hc⟩
    have hc' : (c : Int) < (l.length : Int) := by omega
    rw [ha]
    have i1 : ∀ k : Go.AM.K AV, iaK 4 (.lst 4 b (l.map encA)) (I c) k = k (.ep (encA a) 0) := fun k => iaK_at c rfl ha k
    simp only [encA] at i1
    by_cases q1 : a.frm = v
    · by_cases q2 : a.cls = cls
      · by_cases q3 : a.mon = mon
        · simp [f_season_rate, buildK, fillA, fs, hc, hc', i1, encA, q1, q2, q3]
        · have q3' : (a.mon == mon) = false := by simpa using q3
          simp [f_season_rate, buildK, fillA, fs, hc, hc', i1, encA, q1, q2, q3, q3']
      · have q2' : (a.cls == cls) = false := by simpa using q2
        simp [f_season_rate, buildK, fillA, fs, hc, hc', i1, encA, q1, q2, q2']
    · have q1' : (a.frm == v) = false := by simpa using q1
      simp [f_season_rate, buildK, fillA, fs, hc, hc', i1, encA, q1, q1']
  · have ha : l[c]? = none := List.getElem?_eq_none (by omega)
    have hc' : ¬ (c : Int) < (l.length : Int) := by omega
    rw [ha]
    simp [f_season_rate, buildK, fillA, fs, hc, hc']
end
end Go.AM


namespace Go.AM
open Go.Proofs
set_option linter.unusedVariables false
set_option linter.unusedSimpArgs false
set_option linter.constructorNameAsVariable false
set_option maxRecDepth 20000
noncomputable def rateOn (l : List Allow) (cls day : Int) : Int := match versionL l day with
  | none => 0
  | some v => rateAt l v cls (Cal.monthOf day)
theorem rateAt_bd {l : List Allow} (h : ∀ a ∈ l, badA a = false) (v cls mon : Int) : 0 ≤ rateAt l v cls mon ∧ rateAt l v cls mon ≤ 10000 := by
  unfold rateAt
  cases hf : l.find? (fun a => decide (a.frm = v ∧ a.cls = cls ∧ a.mon = mon)) with
  | none => simp
  | some a => have := badA_bd (h a (List.mem_of_find?_eq_some hf)); exact ⟨this.2.2.2.1, this.2.2.2.2⟩
theorem rateOn_bd {l : List Allow} (h : ∀ a ∈ l, badA a = false) (cls day : Int) : 0 ≤ rateOn l cls day ∧ rateOn l cls day ≤ 10000 := by
  unfold rateOn
  cases versionL l day with
  | none => simp
  | some v => exact rateAt_bd h _ _ _
def change (l : List Allow) (day u : Int) : Int := match l[upto l day]? with
  | some a => min u a.frm
  | none => u
theorem upto_same {l : List Allow} (hs : l.Pairwise (fun a b => ltA a b = true)) {day e : Int} (h1 : day ≤ e) (h2 : ∀ a, l[upto l day]? = some a → e < a.frm) : upto l e = upto l day := by
  have hd := upto_le l day
  have he := upto_le l e
  have key : ∀ j, j < l.length → (j < upto l e ↔ j < upto l day) := by
    intro j hj
    have ha := List.getElem?_eq_getElem hj
    have g1 := upto_get hs day ha
    have g2 := upto_get hs e ha
    constructor
    · intro hlt
      rw [decide_eq_true hlt] at g2
      have g2 := of_decide_eq_true g2
      rcases Nat.lt_or_ge j (upto l day) with h | h
      · exact h
      · exfalso
        have hu : upto l day < l.length := by omega
        have hb := h2 _ (List.getElem?_eq_getElem hu)
        have : l[upto l day].frm ≤ l[j].frm := by
          rcases Nat.lt_or_ge (upto l day) j with q | q
          · exact ltA_frm ((List.pairwise_iff_getElem.1 hs) _ _ hu hj q)
          · have : upto l day = j := by omega
            simp [this]
        omega
    · intro hlt
      rw [decide_eq_true hlt] at g1
      have g1 := of_decide_eq_true g1
      rw [decide_eq_true (by omega)] at g2
      exact of_decide_eq_true g2.symm
  rcases Nat.lt_trichotomy (upto l e) (upto l day) with h | h | h
  · have := (key (upto l e) (by omega)).2 h; omega
  · exact h
  · have := (key (upto l day) (by omega)).1 h; omega
theorem upto_lt_frm {l : List Allow} (hs : l.Pairwise (fun a b => ltA a b = true)) {day : Int} {a : Allow} (h : l[upto l day]? = some a) : day < a.frm := by
  have := upto_get hs day h
  simp at this
  omega
section
variable {β : Type} {P : Program} {T : Tab} {D : DTab} {N : Nat} {K : AV → Hp → Option β}
theorem F_season_on_val (l : List Allow) (b : Bool) (cls day : Int) (hs : l.Pairwise (fun a b => ltA a b = true)) (hg : ∀ a ∈ l, badA a = false) (hl : l.length < 1000000) (h0 : 0 ≤ day) (h1 : day ≤ 100000) :
    ∃ u, day < u ∧ u ≤ 100001 ∧ (∀ e, day ≤ e → e < u → rateOn l cls e = rateOn l cls day) ∧ ∀ h, F_season_on [.lst 4 b (l.map encA), I cls, I day] h = some (.tup [I (rateOn l cls day), I u], h) := by
  obtain ⟨y, m, d, hi, hD⟩ := F_calendar_Date_val day h0 h1
  have hm := hi.month
  have hy := hi.year_le h1
  have hyl := hi.year
  have hny : 1900 ≤ Cal.ny y m ∧ Cal.ny y m ≤ 2200 := by have := hi.year; unfold Cal.ny; split <;> omega
  have hnm := Cal.nm_bd hm.1 hm.2
  have hday := F_calendar_Day_val (Cal.ny y m) (Cal.nm m) hny.1 hny.2 hnm.1 hnm.2
  have hmo := hi.month_eq h0
  have hlt := hi.next_lt
  obtain ⟨u0, hu0⟩ : ∃ u0, u0 = if Cal.dn (Cal.ny y m) (Cal.nm m) ≤ 100000 then Cal.dn (Cal.ny y m) (Cal.nm m) else 100001 := ⟨_, rfl⟩
  have hu0l : day < u0 ∧ u0 ≤ 100001 ∧ u0 ≤ Cal.dn (Cal.ny y m) (Cal.nm m) := by rw [hu0]; split <;> omega
  refine ⟨change l day u0, ?_, ?_, ?_, fun h => F_season_on_run rfl ?_ h⟩
  · unfold change
    cases ha : l[upto l day]? with
    | none => exact hu0l.1
    | some a => have := upto_lt_frm hs ha; simp only; omega
  · unfold change
    cases ha : l[upto l day]? with
    | none => exact hu0l.2.1
    | some a => simp only; omega
  · intro e he1 he2
    have hem : Cal.monthOf e = m := hi.same h0 he1 (by
      have : change l day u0 ≤ u0 := by unfold change; cases l[upto l day]? <;> simp only <;> omega
      omega)
    have hue : upto l e = upto l day := upto_same hs he1 (fun a ha => by
      unfold change at he2
      rw [ha] at he2
      simp only at he2
      omega)
    unfold rateOn versionL
    rw [hem, hmo, hue]
  · -- the run
    obtain ⟨H, hH⟩ : ∃ H : Hp, H = [.arr 1 [[.lst 4 b (l.map encA)]] true false, .arr 1 [[I day]] true false, .arr 3 [[I y, I m, I d]] true false, .arr 3 [[I (Cal.ny y m), I (Cal.nm m), I 1]] true false] := ⟨_, rfl⟩
    have g0 : H[0]? = some (.arr 1 [[.lst 4 b (l.map encA)]] true false) := by rw [hH]; rfl
    have g1 : H[1]? = some (.arr 1 [[I day]] true false) := by rw [hH]; rfl
    have g2 : H[2]? = some (.arr 3 [[I y, I m, I d]] true false) := by rw [hH]; rfl
    have g3 : H[3]? = some (.arr 3 [[I (Cal.ny y m), I (Cal.nm m), I 1]] true false) := by rw [hH]; rfl
    have fs := F_Search_on l b day hs hl 0 1 g0 g1
    have fv := F_season_version_val l b day hs hl
    have fr := fun v => F_season_rate_val l b v cls m hs hl
    have hj3 : ∀ w : Int, f_season_on_j3 Tryz.prog t_season_on d_season_on NN (fun v g => cvt false g v) (I cls) (.ptr 0 0 0 1) (.ptr 1 0 0 1) (.ptr 2 0 0 1) (I w) H = some (.tup [I (rateOn l cls day), I w]) := by
      intro w
      unfold rateOn
      rw [hmo]
      cases hv : versionL l day with
      | none => rw [hv] at fv; simp [f_season_on_j3, g0, g1, fv]
      | some v => rw [hv] at fv; simp [f_season_on_j3, g0, g1, g2, fv, fr]
    have hj2 : f_season_on_j2 Tryz.prog t_season_on d_season_on NN (fun v g => cvt false g v) (I cls) (.ptr 0 0 0 1) (.ptr 1 0 0 1) (.ptr 2 0 0 1) (I u0) H = some (.tup [I (rateOn l cls day), I (change l day u0)]) := by
      unfold change
      by_cases hc : upto l day < l.length
      · obtain ⟨a, ha⟩ : ∃ a, l[upto l day]? = some a := ⟨_, List.getElem?_eq_getElem hc⟩
        have hc' : (upto l day : Int) < (l.length : Int) := by omega
        have i1 : ∀ k : Go.AM.K AV, iaK 4 (.lst 4 b (l.map encA)) (I (upto l day : Nat)) k = k (.ep (encA a) 0) := fun k => iaK_at (upto l day) rfl ha k
        simp only [encA] at i1
        rw [ha]
        have := hj3 (min u0 a.frm)
        simp [f_season_on_j2, g0, fs, hc', hc, i1, this]
      · have ha : l[upto l day]? = none := List.getElem?_eq_none (by omega)
        have hc' : ¬ (upto l day : Int) < (l.length : Int) := by omega
        rw [ha]
        have := hj3 u0
        simp [f_season_on_j2, g0, fs, hc', hc, this]
    have hj1 : f_season_on_j1 Tryz.prog t_season_on d_season_on NN (fun v g => cvt false g v) (I cls) (.ptr 0 0 0 1) (.ptr 1 0 0 1) (.ptr 2 0 0 1) (.ptr 3 0 0 1) H = some (.tup [I (rateOn l cls day), I (change l day u0)]) := by
      by_cases hd : Cal.dn (Cal.ny y m) (Cal.nm m) ≤ 100000
      · rw [if_pos hd] at hday hu0
        rw [hu0] at hj2 ⊢
        simp [f_season_on_j1, g3, hday, hj2]
      · rw [if_neg hd] at hday hu0
        rw [hu0] at hj2 ⊢
        simp [f_season_on_j1, g3, hday, hj2]
    have w1 : IntKind.i64.wrap (m + 1) = m + 1 := wrap64 (by omega) (by omega)
    have w2 : IntKind.i64.wrap (y + 1) = y + 1 := wrap64 (by omega) (by omega)
    refine Eq.trans ?_ hj1
    rw [hH]
    by_cases h12 : m = 12
    · subst h12
      simp [f_season_on, hD, buildK, fillA, w1, w2, Cal.ny, Cal.nm]
    · have h12' : (m == 12) = false := by simpa using h12
      simp [f_season_on, hD, buildK, fillA, w1, w2, h12, h12', Cal.ny, Cal.nm]
def sumN (f : Int → Int) (a : Int) : Nat → Int
  | 0 => 0
  | n + 1 => f a + sumN f (a + 1) n
theorem sumN_add (f : Int → Int) : ∀ (m n : Nat) (a : Int), sumN f a (m + n) = sumN f a m + sumN f (a + m) n
  | 0, n, a => by simp [sumN]
  | m + 1, n, a => by
    rw [show m + 1 + n = (m + n) + 1 by omega]
    simp only [sumN]
    rw [sumN_add f m n (a + 1), show a + 1 + (m : Int) = a + ((m + 1 : Nat) : Int) by omega]
    omega
theorem sumN_const (f : Int → Int) (r : Int) : ∀ (n : Nat) (a : Int), (∀ e, a ≤ e → e < a + n → f e = r) → sumN f a n = r * n
  | 0, a, h => by simp [sumN]
  | n + 1, a, h => by
    simp only [sumN]
    rw [h a (by omega) (by omega), sumN_const f r n (a + 1) (fun e h1 h2 => h e (by omega) (by omega))]
    have : r * ((n + 1 : Nat) : Int) = r * n + r := by rw [Int.natCast_add, Int.mul_add]; simp
    omega
theorem sumN_bd (f : Int → Int) {b : Int} (hf : ∀ e, 0 ≤ f e ∧ f e ≤ b) (hb : 0 ≤ b) : ∀ (n : Nat) (a : Int), 0 ≤ sumN f a n ∧ sumN f a n ≤ b * n
  | 0, a => by simp [sumN]
  | n + 1, a => by
    have h1 := hf a
    have h2 := sumN_bd f hf hb n (a + 1)
    have : b * ((n + 1 : Nat) : Int) = b * n + b := by rw [Int.natCast_add, Int.mul_add]; simp
    simp only [sumN]
    omega
noncomputable def sumA (l : List Allow) (cls frm to : Int) : Int := sumN (rateOn l cls) frm (to - frm).toNat
theorem sumA_bd {l : List Allow} (hg : ∀ a ∈ l, badA a = false) (cls frm to : Int) (h : to - frm ≤ 100001) : 0 ≤ sumA l cls frm to ∧ sumA l cls frm to ≤ 1000010000 := by
  have := sumN_bd (rateOn l cls) (rateOn_bd hg cls) (by omega) (to - frm).toNat frm
  unfold sumA
  omega
theorem season_sum_L3 (hT : T 81 = some F_season_on) {x0 : AV → Hp → Option β} (l : List Allow) (b : Bool) (cls to : Int) (hs : l.Pairwise (fun a b => ltA a b = true)) (hg : ∀ a ∈ l, badA a = false) (hl : l.length < 1000000) (ht : 0 ≤ to ∧ to ≤ 100000) (v14 : Int) (hv : 0 ≤ v14 ∧ v14 ≤ 100000) (h : Hp) :
    ∀ (n : Nat) (frm i acc : Int), 0 ≤ frm → frm ≤ to → 0 ≤ i → i ≤ v14 → (v14 - i).toNat < n → to - frm ≤ v14 - i → (0 ≤ acc ∧ acc ≤ 100000000000 - 1000000 * (to - frm)) →
    f_season_sum_L3 P T D N x0 n (.lst 4 b (l.map encA)) (I cls) (I frm) (I to) (I acc) (I v14) (I i) h = x0 (I (acc + sumA l cls frm to)) h := by
  intro n
  induction n with
  | zero => intro frm i acc _ _ _ _ h; omega
  | succ n ih =>
    intro frm i acc h1 h2 h3 h4 h5 h6 h7
    show f_season_sum_b3 P T D N (f_season_sum_L3 P T D N x0 n) x0 _ _ _ _ _ _ _ h = _
    by_cases hiv : i < v14
    · by_cases hft : to ≤ frm
      · have : frm = to := by omega
        subst this
        have e : sumA l cls frm frm = 0 := by simp [sumA, sumN]
        simp [f_season_sum_b3, hiv, e]
      · obtain ⟨u, u1, u2, u3, u4⟩ := F_season_on_val l b cls frm hs hg hl h1 (by omega)
        obtain ⟨w, hw⟩ : ∃ w, w = min u to := ⟨_, rfl⟩
        have hwb : frm < w ∧ w ≤ to ∧ w ≤ u := by omega
        have hr := rateOn_bd hg cls frm
        obtain ⟨k, hk⟩ : ∃ k : Nat, w - frm = (k : Int) := Int.eq_ofNat_of_zero_le (by omega)
        have e1 : sumA l cls frm to = rateOn l cls frm * (w - frm) + sumA l cls w to := by
          unfold sumA
          have e2 : (to - frm).toNat = k + (to - w).toNat := by omega
          rw [e2, sumN_add, sumN_const (rateOn l cls) (rateOn l cls frm) k frm (fun e q1 q2 => u3 e q1 (by omega)), hk, show frm + (k : Int) = w by omega]
        have hm : 0 ≤ rateOn l cls frm * (w - frm) ∧ rateOn l cls frm * (w - frm) ≤ 10000 * (w - frm) := ⟨Int.mul_nonneg hr.1 (by omega), Int.mul_le_mul_of_nonneg_right hr.2 (by omega)⟩
        have w1 : IntKind.i64.wrap (w - frm) = w - frm := wrap64 (by omega) (by omega)
        have w2 : IntKind.i64.wrap (rateOn l cls frm * (w - frm)) = rateOn l cls frm * (w - frm) := wrap64 (by omega) (by omega)
        have w3 : IntKind.i64.wrap (acc + rateOn l cls frm * (w - frm)) = acc + rateOn l cls frm * (w - frm) := wrap64 (by omega) (by omega)
        have w4 : IntKind.i64.wrap (i + 1) = i + 1 := wrap64 (by omega) (by omega)
        have step := ih w (i + 1) (acc + rateOn l cls frm * (w - frm)) (by omega) (by omega) (by omega) (by omega) (by omega) (by omega) (by omega)
        rw [e1, ← Int.add_assoc, ← step]
        simp [f_season_sum_b3, hiv, hft, hT, u4, ← hw, w1, w2, w3, w4]
    · have : frm = to := by omega
      subst this
      have e : sumA l cls frm frm = 0 := by simp [sumA, sumN]
      simp [f_season_sum_b3, hiv, e]
theorem F_season_sum_val (l : List Allow) (b : Bool) (cls frm to : Int) (hs : l.Pairwise (fun a b => ltA a b = true)) (hg : ∀ a ∈ l, badA a = false) (hl : l.length < 1000000) (h0 : 0 ≤ frm) (h1 : frm ≤ to) (h2 : to ≤ 100000) (h : Hp) :
    F_season_sum [.lst 4 b (l.map encA), I cls, I frm, I to] h = some (I (sumA l cls frm to), h) := by
  refine F_season_sum_run rfl ?_ h
  have w1 : IntKind.i64.wrap (to - frm) = to - frm := wrap64 (by omega) (by omega)
  have := season_sum_L3 (P := Tryz.prog) (T := t_season_sum) (D := d_season_sum) (N := NN) rfl (x0 := fun w13_9 h => f_season_sum_j2 Tryz.prog t_season_sum d_season_sum NN (fun v g => cvt false g v) w13_9 h) l b cls to hs hg hl ⟨by omega, h2⟩ (to - frm) ⟨by omega, by omega⟩ [] NN frm 0 0 h0 h1 (by omega) (by omega) (by have := NN_ge; omega) (by omega) (by omega)
  refine Eq.trans ?_ (this.trans ?_)
  · simp [f_season_sum, w1]
  · simp [f_season_sum_j2, f_season_sum_j1]
theorem rightA_ok {l : List Allow} (h : rightA l = true) : l.length ≤ 128 ∧ (∀ a ∈ l, badA a = false) ∧ l.Pairwise (fun a b => ltA a b = true) := checkA_ok (by simpa [rightA] using h)
noncomputable def allowedS (l : List Allow) (cls alc frm to : Int) : Int × Int :=
  if rightA l = false then (0, 1) else if (win cls 1 9 && win frm 0 100000 && win to 0 100000 && win alc 0 10737418240000) = false then (0, 2) else if to < frm then (0, 5) else (min (alc * sumA l cls frm to / 1000000) alc, 0)
theorem F_season_Allowed_val (l : List Allow) (b : Bool) (cls alc frm to : Int) (h : Hp) : F_season_Allowed [.lst 4 b (l.map encA), I cls, I alc, I frm, I to] h = some (.tup [I (allowedS l cls alc frm to).1, I (allowedS l cls alc frm to).2], h) := by
  refine F_season_Allowed_run rfl ?_ h
  unfold allowedS
  cases hr : rightA l with
  | false => simp [f_season_Allowed, F_season_right_val, hr]
  | true =>
    obtain ⟨h1, h2, h3⟩ := rightA_ok hr
    cases c1 : win cls 1 9 <;> cases c2 : win frm 0 100000 <;> cases c3 : win to 0 100000 <;> cases c4 : win alc 0 10737418240000 <;> simp [f_season_Allowed, F_season_right_val, hr, F_season_in_val, c1, c2, c3, c4]
    simp only [win, Bool.and_eq_true, decide_eq_true_eq] at c2 c3 c4
    by_cases hc : to < frm
    · simp [hc]
    · have fs := F_season_sum_val l b cls frm to h3 h2 (by omega) (by omega) (by omega) (by omega)
      have hb := sumA_bd h2 cls frm to (by omega)
      have fp := F_proportion_Of_val alc (sumA l cls frm to) 1000000
      have hm : (amt alc && amt (sumA l cls frm to) && amt 1000000) = true := by simp [amt]; omega
      generalize sumA l cls frm to = s at *
      by_cases hq : alc * s / 1000000 ≤ 128849018880000
      · have e : propOf alc s 1000000 = (alc * s / 1000000, alc * s % 1000000, 0) := by unfold propOf; rw [hm]; simp [hq]
        rw [e] at fp
        simp [hc, fs, fp]
      · have e : propOf alc s 1000000 = (0, 0, 15) := by unfold propOf; rw [hm]; simp [hq]
        rw [e] at fp
        have hmin : min (alc * s / 1000000) alc = alc := by omega
        simp [hc, fs, fp, hmin]
end
end Go.AM


namespace Go.AM
open Go.Proofs
set_option linter.unusedVariables false
set_option linter.unusedSimpArgs false
set_option linter.constructorNameAsVariable false
set_option maxRecDepth 20000
section
variable {β : Type} {P : Program} {ty : TypeId}
end
end Go.AM


namespace Go.AM
open Go.Proofs
set_option linter.unusedVariables false
set_option linter.unusedSimpArgs false
set_option linter.constructorNameAsVariable false
set_option maxRecDepth 20000
end Go.AM


namespace Go.AM
open Go.Proofs
set_option linter.unusedVariables false
set_option linter.unusedSimpArgs false
set_option linter.constructorNameAsVariable false
set_option maxRecDepth 20000
section
variable {β : Type} {P : Program} {ty : TypeId}
variable {T : Tab} {D : DTab} {N : Nat} {x0 : AV → AV → AV → Hp → Option β}
end
end Go.AM


namespace Go.AM
open Go.Proofs
set_option linter.unusedVariables false
set_option linter.unusedSimpArgs false
set_option linter.constructorNameAsVariable false
set_option maxRecDepth 20000
end Go.AM


namespace Go.AM
open Go.Proofs
set_option linter.unusedVariables false
set_option linter.unusedSimpArgs false
set_option linter.constructorNameAsVariable false
set_option maxRecDepth 20000
end Go.AM


namespace Go.AM
open Go.Proofs
set_option linter.unusedVariables false
set_option linter.unusedSimpArgs false
set_option linter.constructorNameAsVariable false
set_option maxRecDepth 20000
section
variable {β : Type} {P : Program} {T : Tab} {D : DTab} {N : Nat} {K : AV → Hp → Option β}
end
end Go.AM


namespace Go.AM
open Go.Proofs
set_option linter.unusedVariables false
set_option linter.unusedSimpArgs false
set_option linter.constructorNameAsVariable false
set_option maxRecDepth 20000
theorem F_journey_in_val (a b c : Int) (h : Hp) : F_journey_in [I a, I b, I c] h = some (B (win a b c), h) := F_journey_in_run rfl (by simp [f_journey_in, win]) h
theorem F_journey_node_val (a : Int) (h : Hp) : F_journey_node [I a] h = some (B (win a 1 99), h) := F_journey_node_run rfl (by simp [f_journey_node, F_journey_in_val]) h
theorem set_app {h : Hp} {g : List AObj} {id : Nat} {x o : AObj} (hid : h[id]? = some x) : (h ++ g).set id o = h.set id o ++ g := by
  rw [List.set_append_left _ _ (List.getElem?_eq_some_iff.1 hid).1]
theorem wr_7 (id : Nat) (j : Jny) (x : Leg) : Writes F_journey_table_7 id (.agg (encL x)) 9 (encJ j) (encJ { j with halt := true }) := by
  refine ⟨by simp [plain, encJ], fun H hid => ⟨[.arr 5 [encL x] true false], ?_⟩⟩
  rw [F_journey_table_7_raw]
  have hid' := get_app (g := [.arr 5 [encL x] true false]) hid
  have hs := fun o => set_app (g := [.arr 5 [encL x] true false]) (o := o) hid
  have hg : ∀ o : AObj, (H.set id o ++ [.arr 5 [encL x] true false])[id]? = some o := fun o => by
    rw [List.getElem?_append_left (by simpa using (List.getElem?_eq_some_iff.1 hid).1), List.getElem?_set_self (List.getElem?_eq_some_iff.1 hid).1]
  have hss : ∀ o p : AObj, (H.set id o ++ [AObj.arr 5 [encL x] true false]).set id p = H.set id p ++ [AObj.arr 5 [encL x] true false] := fun o p => by
    rw [List.set_append_left _ _ (by simpa using (List.getElem?_eq_some_iff.1 hid).1), List.set_set]
  simp only [encL, encJ] at hid' hs hg hss ⊢
  simp [f_journey_table_7, boxE, nilK, hid', stE, ap, hs]
theorem wr_10 (id : Nat) (j : Jny) (x : Leg) : Writes F_journey_table_10 id (.agg (encL x)) 9 (encJ j) (encJ { j with halt := false }) := by
  refine ⟨by simp [plain, encJ], fun H hid => ⟨[.arr 5 [encL x] true false], ?_⟩⟩
  rw [F_journey_table_10_raw]
  have hid' := get_app (g := [.arr 5 [encL x] true false]) hid
  have hs := fun o => set_app (g := [.arr 5 [encL x] true false]) (o := o) hid
  have hg : ∀ o : AObj, (H.set id o ++ [.arr 5 [encL x] true false])[id]? = some o := fun o => by
    rw [List.getElem?_append_left (by simpa using (List.getElem?_eq_some_iff.1 hid).1), List.getElem?_set_self (List.getElem?_eq_some_iff.1 hid).1]
  have hss : ∀ o p : AObj, (H.set id o ++ [AObj.arr 5 [encL x] true false]).set id p = H.set id p ++ [AObj.arr 5 [encL x] true false] := fun o p => by
    rw [List.set_append_left _ _ (by simpa using (List.getElem?_eq_some_iff.1 hid).1), List.set_set]
  simp only [encL, encJ] at hid' hs hg hss ⊢
  simp [f_journey_table_10, boxE, nilK, hid', stE, ap, hs]
theorem wr_12 (id : Nat) (j : Jny) (x : Leg) : Writes F_journey_table_12 id (.agg (encL x)) 9 (encJ j) (encJ { j with to := x.to }) := by
  refine ⟨by simp [plain, encJ], fun H hid => ⟨[.arr 5 [encL x] true false], ?_⟩⟩
  rw [F_journey_table_12_raw]
  have hid' := get_app (g := [.arr 5 [encL x] true false]) hid
  have hs := fun o => set_app (g := [.arr 5 [encL x] true false]) (o := o) hid
  have hg : ∀ o : AObj, (H.set id o ++ [.arr 5 [encL x] true false])[id]? = some o := fun o => by
    rw [List.getElem?_append_left (by simpa using (List.getElem?_eq_some_iff.1 hid).1), List.getElem?_set_self (List.getElem?_eq_some_iff.1 hid).1]
  have hss : ∀ o p : AObj, (H.set id o ++ [AObj.arr 5 [encL x] true false]).set id p = H.set id p ++ [AObj.arr 5 [encL x] true false] := fun o p => by
    rw [List.set_append_left _ _ (by simpa using (List.getElem?_eq_some_iff.1 hid).1), List.set_set]
  simp only [encL, encJ] at hid' hs hg hss ⊢
  simp [f_journey_table_12, boxE, nilK, hid', stE, ap, hs]
theorem wr_5 (id : Nat) (j : Jny) (x : Leg) : Writes F_journey_table_5 id (.agg (encL x)) 9 (encJ j) (encJ ⟨x.alc, 0, 0, 0, x.alc, x.place, x.to, false, false⟩) := by
  refine ⟨by simp [plain, encJ], fun H hid => ⟨[.arr 5 [encL x] true false], ?_⟩⟩
  rw [F_journey_table_5_raw]
  have hid' := get_app (g := [.arr 5 [encL x] true false]) hid
  have hs := fun o => set_app (g := [.arr 5 [encL x] true false]) (o := o) hid
  have hg : ∀ o : AObj, (H.set id o ++ [.arr 5 [encL x] true false])[id]? = some o := fun o => by
    rw [List.getElem?_append_left (by simpa using (List.getElem?_eq_some_iff.1 hid).1), List.getElem?_set_self (List.getElem?_eq_some_iff.1 hid).1]
  have hss : ∀ o p : AObj, (H.set id o ++ [AObj.arr 5 [encL x] true false]).set id p = H.set id p ++ [AObj.arr 5 [encL x] true false] := fun o p => by
    rw [List.set_append_left _ _ (by simpa using (List.getElem?_eq_some_iff.1 hid).1), List.set_set]
  simp only [encL, encJ] at hid' hs hg hss ⊢
  simp [f_journey_table_5, boxE, nilK, hid', stE, ap, hs, buildK, fillA]
theorem wr_13 (id : Nat) (j : Jny) (x : Leg) (w1 : IntKind.i64.wrap (j.spl + x.alc) = j.spl + x.alc) (w2 : IntKind.i64.wrap (j.tra - x.alc) = j.tra - x.alc) : Writes F_journey_table_13 id (.agg (encL x)) 9 (encJ j) (encJ { j with spl := j.spl + x.alc, tra := j.tra - x.alc }) := by
  refine ⟨by simp [plain, encJ], fun H hid => ⟨[.arr 5 [encL x] true false], ?_⟩⟩
  rw [F_journey_table_13_raw]
  have hl : id ≠ H.length := by have := (List.getElem?_eq_some_iff.1 hid).1; omega
  have hid' := get_app (g := [.arr 5 [encL x] true false]) hid
  have hs := fun o => set_app (g := [.arr 5 [encL x] true false]) (o := o) hid
  have hg : ∀ o : AObj, (H.set id o ++ [.arr 5 [encL x] true false])[id]? = some o := fun o => by
    rw [List.getElem?_append_left (by simpa using (List.getElem?_eq_some_iff.1 hid).1), List.getElem?_set_self (List.getElem?_eq_some_iff.1 hid).1]
  have hss : ∀ o p : AObj, (H.set id o ++ [AObj.arr 5 [encL x] true false]).set id p = H.set id p ++ [AObj.arr 5 [encL x] true false] := fun o p => by
    rw [List.set_append_left _ _ (by simpa using (List.getElem?_eq_some_iff.1 hid).1), List.set_set]
  simp only [encL, encJ] at hid' hs hg hss ⊢
  simp [f_journey_table_13, boxE, nilK, hid', stE, ap, hs, w1, w2, hl, hg, hss, disjAll, disj2, wrOf, idsOf]
theorem wr_14 (id : Nat) (j : Jny) (x : Leg) (w1 : IntKind.i64.wrap (j.lost + x.alc) = j.lost + x.alc) (w2 : IntKind.i64.wrap (j.tra - x.alc) = j.tra - x.alc) : Writes F_journey_table_14 id (.agg (encL x)) 9 (encJ j) (encJ { j with lost := j.lost + x.alc, tra := j.tra - x.alc }) := by
  refine ⟨by simp [plain, encJ], fun H hid => ⟨[.arr 5 [encL x] true false], ?_⟩⟩
  rw [F_journey_table_14_raw]
  have hl : id ≠ H.length := by have := (List.getElem?_eq_some_iff.1 hid).1; omega
  have hid' := get_app (g := [.arr 5 [encL x] true false]) hid
  have hs := fun o => set_app (g := [.arr 5 [encL x] true false]) (o := o) hid
  have hg : ∀ o : AObj, (H.set id o ++ [.arr 5 [encL x] true false])[id]? = some o := fun o => by
    rw [List.getElem?_append_left (by simpa using (List.getElem?_eq_some_iff.1 hid).1), List.getElem?_set_self (List.getElem?_eq_some_iff.1 hid).1]
  have hss : ∀ o p : AObj, (H.set id o ++ [AObj.arr 5 [encL x] true false]).set id p = H.set id p ++ [AObj.arr 5 [encL x] true false] := fun o p => by
    rw [List.set_append_left _ _ (by simpa using (List.getElem?_eq_some_iff.1 hid).1), List.set_set]
  simp only [encL, encJ] at hid' hs hg hss ⊢
  simp [f_journey_table_14, boxE, nilK, hid', stE, ap, hs, w1, w2, hl, hg, hss, disjAll, disj2, wrOf, idsOf]
theorem wr_16 (id : Nat) (j : Jny) (x : Leg) (w1 : IntKind.i64.wrap (j.lost + j.tra) = j.lost + j.tra) (w2 : IntKind.i64.wrap (j.lost + j.tra - x.alc) = j.lost + j.tra - x.alc) : Writes F_journey_table_16 id (.agg (encL x)) 9 (encJ j) (encJ { j with arr := x.alc, lost := j.lost + j.tra - x.alc, tra := 0, endd := true }) := by
  refine ⟨by simp [plain, encJ], fun H hid => ⟨[.arr 5 [encL x] true false], ?_⟩⟩
  rw [F_journey_table_16_raw]
  have hl : id ≠ H.length := by have := (List.getElem?_eq_some_iff.1 hid).1; omega
  have hid' := get_app (g := [.arr 5 [encL x] true false]) hid
  have hs := fun o => set_app (g := [.arr 5 [encL x] true false]) (o := o) hid
  have hg : ∀ o : AObj, (H.set id o ++ [.arr 5 [encL x] true false])[id]? = some o := fun o => by
    rw [List.getElem?_append_left (by simpa using (List.getElem?_eq_some_iff.1 hid).1), List.getElem?_set_self (List.getElem?_eq_some_iff.1 hid).1]
  have hss : ∀ o p : AObj, (H.set id o ++ [AObj.arr 5 [encL x] true false]).set id p = H.set id p ++ [AObj.arr 5 [encL x] true false] := fun o p => by
    rw [List.set_append_left _ _ (by simpa using (List.getElem?_eq_some_iff.1 hid).1), List.set_set]
  simp only [encL, encJ] at hid' hs hg hss ⊢
  simp [f_journey_table_16, boxE, nilK, hid', stE, ap, hs, w1, w2, hl, hg, hss, disjAll, disj2, wrOf, idsOf]
def kindsT : List AV := [.s .nilFunc, .s .nilFunc, .s .nilFunc,
  .fn 57 [], .fn 54 [], .fn 59 [], .fn 60 [], .fn 55 [], .fn 61 [],
  .fn 62 [], .fn 63 [], .fn 64 [], .fn 65 [], .fn 54 [], .fn 66 [],
  .fn 56 [], .fn 54 [], .fn 67 [], .fn 56 [], .fn 54 [], .fn 68 [],
  .fn 69 [], .fn 55 [], .fn 70 []]
theorem table_run {β : Type} (K : AV → Hp → Option β) (h : Hp) : f_journey_table Tryz.prog t_journey_table d_journey_table NN K h = K (.agg kindsT) (h ++ [.arr 24 [kindsT] true false]) := by
  have hl : (h ++ [AObj.arr 24 [kindsT] true false])[h.length]? = some (.arr 24 [kindsT] true false) := by simp
  simp [f_journey_table, boxE, buildK, fillA, stE, ap, kindsT]
theorem F_journey_table_val (h : Hp) : F_journey_table [] h = some (.agg kindsT, h) := F_journey_table_q (g := [.arr 24 [kindsT] true false]) (table_run _ h) rfl
theorem G_journey_table_val (h : Hp) (base : Nat) : G_journey_table [] h base = some (.agg kindsT, EF []) := roD_val ⟨rfl, fun H _ => ⟨[], by simpa using F_journey_table_val H⟩⟩ base
theorem F_t1_val (j : Jny) (h : Hp) : F_journey_table_1 [.agg (encJ j)] h = some (B false, h) := F_journey_table_1_run rfl (by simp [f_journey_table_1, boxE, encJ]) h
theorem F_t2_val (j : Jny) (h : Hp) : F_journey_table_2 [.agg (encJ j)] h = some (B j.halt, h) := F_journey_table_2_run rfl (by simp [f_journey_table_2, boxE, encJ]) h
theorem F_t9_val (j : Jny) (h : Hp) : F_journey_table_9 [.agg (encJ j)] h = some (B (!j.halt), h) := F_journey_table_9_run rfl (by simp [f_journey_table_9, boxE, encJ]) h
theorem F_t3_val (x : Leg) (h : Hp) : F_journey_table_3 [.agg (encL x)] h = some (B (partL x), h) := by
  refine F_journey_table_3_run rfl ?_ h
  unfold partL
  cases c1 : (x.place == 0) <;> cases c2 : (x.to == 0) <;> simp [f_journey_table_3, boxE, encL, F_journey_in_val, c1, c2]
theorem F_t4_val (x : Leg) (h : Hp) : F_journey_table_4 [.agg (encL x)] h = some (B (win x.place 1 99 && win x.to 1 99 && x.place != x.to && win x.alc 1 10737418240000), h) := by
  refine F_journey_table_4_run rfl ?_ h
  have c4 : (!decide (x.place = x.to)) = (x.place != x.to) := by by_cases e : x.place = x.to <;> simp [e]
  cases c1 : win x.place 1 99 <;> cases c2 : win x.to 1 99 <;> cases c3 : (x.place == x.to) <;> simp [f_journey_table_4, boxE, encL, F_journey_in_val, F_journey_node_val, c1, c2, c3, bne]
theorem F_t6_val (x : Leg) (h : Hp) : F_journey_table_6 [.agg (encL x)] h = some (B (win x.place 1 99 && x.to == 0 && x.alc == 0), h) := by
  refine F_journey_table_6_run rfl ?_ h
  cases c1 : win x.place 1 99 <;> cases c2 : (x.to == 0) <;> simp [f_journey_table_6, boxE, encL, F_journey_in_val, F_journey_node_val, c1, c2]
theorem F_t8_val (x : Leg) (h : Hp) : F_journey_table_8 [.agg (encL x)] h = some (B (x.place == 0 && x.to == 0 && x.alc == 0), h) := by
  refine F_journey_table_8_run rfl ?_ h
  cases c1 : (x.place == 0) <;> cases c2 : (x.to == 0) <;> simp [f_journey_table_8, boxE, encL, c1, c2]
theorem F_t11_val (x : Leg) (h : Hp) : F_journey_table_11 [.agg (encL x)] h = some (B (x.place == 0 && win x.to 1 99 && x.alc == 0), h) := by
  refine F_journey_table_11_run rfl ?_ h
  cases c1 : (x.place == 0) <;> cases c2 : win x.to 1 99 <;> simp [f_journey_table_11, boxE, encL, F_journey_node_val, c1, c2]
theorem F_t15_val (x : Leg) (h : Hp) : F_journey_table_15 [.agg (encL x)] h = some (B (win x.place 1 99 && x.to == 0 && win x.alc 0 10737418240000), h) := by
  refine F_journey_table_15_run rfl ?_ h
  cases c1 : win x.place 1 99 <;> cases c2 : (x.to == 0) <;> simp [f_journey_table_15, boxE, encL, F_journey_in_val, F_journey_node_val, c1, c2]
end Go.AM


namespace Go.AM
open Go.Proofs
set_option linter.unusedVariables false
set_option linter.unusedSimpArgs false
set_option linter.constructorNameAsVariable false
set_option maxRecDepth 20000
theorem eqK_bool {β : Type} (neq a b : Bool) (h : Hp) (k : Go.AM.K β) : eqK Tryz.prog neq 4 (B a) (B b) h k = k (B (xor neq (a == b))) := by
  have : Tryz.prog.underlying 4 = some .bool := by kernel_rfl
  simp [eqK, this]
def formF (k : Int) : Nat := if k = 1 then 57 else if k = 2 then 60 else if k = 3 then 62 else if k = 4 then 65 else if k = 5 then 56 else if k = 6 then 56 else 69
def refF (k : Int) : Nat := if k = 1 then 54 else if k = 2 then 55 else if k = 3 then 63 else if k = 4 then 54 else if k = 5 then 54 else if k = 6 then 54 else 55
def actF (k : Int) : Nat := if k = 1 then 59 else if k = 2 then 61 else if k = 3 then 64 else if k = 4 then 66 else if k = 5 then 67 else if k = 6 then 68 else 70
theorem kinds7 {k : Int} (h : 1 ≤ k ∧ k ≤ 7) : k = 1 ∨ k = 2 ∨ k = 3 ∨ k = 4 ∨ k = 5 ∨ k = 6 ∨ k = 7 := by omega
theorem ixk {β : Type} {k : Int} (h : 1 ≤ k ∧ k ≤ 7) (K : AV → Option β) : ixA 3 8 true (.agg kindsT) (I k) K = K (.agg [.fn (formF k) [], .fn (refF k) [], .fn (actF k) []]) := by
  rcases kinds7 h with e | e | e | e | e | e | e <;> subst e <;> rfl
theorem gd {shp shr : List Sh} {F : Fun} {args : List AV} {v : AV} {h : Hp} (hk : closedX shp shr F args h = some (v, h)) (hi : idss args = []) (base : Nat) : closedXD shp shr F args h base = some (v, EF []) := (closedXD_val hk base).trans (by rw [hi]; rfl)
theorem idsL (x : Leg) : idss [.agg (encL x)] = [] := by simp [idss, ids, encL]
theorem idsJ (j : Jny) : idss [.agg (encJ j)] = [] := by simp [idss, ids, encJ]
theorem gform {k : Int} (hk : 1 ≤ k ∧ k ≤ 7) (x : Leg) (hx : x.kind = k) (h : Hp) (base : Nat) : callVE d_journey_fault (.fn (formF k) []) [.agg (encL x)] h base = some (B (formL x), EF []) := by
  rcases kinds7 hk with e | e | e | e | e | e | e <;> subst e <;> rw [callVE_fn, List.append_nil] <;> unfold formL <;> simp only [hx]
  · exact gd (F_t4_val x h) (idsL x) base
  · exact gd (F_t6_val x h) (idsL x) base
  · exact gd (F_t8_val x h) (idsL x) base
  · exact gd (F_t11_val x h) (idsL x) base
  · exact gd (F_t3_val x h) (idsL x) base
  · exact gd (F_t3_val x h) (idsL x) base
  · exact gd (F_t15_val x h) (idsL x) base
theorem gref {k : Int} (hk : 1 ≤ k ∧ k ≤ 7) (j : Jny) (h : Hp) (base : Nat) : callVE d_journey_fault (.fn (refF k) []) [.agg (encJ j)] h base = some (B (refL j k), EF []) := by
  rcases kinds7 hk with e | e | e | e | e | e | e <;> subst e <;> rw [callVE_fn, List.append_nil]
  · exact gd (F_t1_val j h) (idsJ j) base
  · exact gd (F_t2_val j h) (idsJ j) base
  · exact gd (F_t9_val j h) (idsJ j) base
  · exact gd (F_t1_val j h) (idsJ j) base
  · exact gd (F_t1_val j h) (idsJ j) base
  · exact gd (F_t1_val j h) (idsJ j) base
  · exact gd (F_t2_val j h) (idsJ j) base
theorem G_journey_in_val (a b c : Int) (h : Hp) (base : Nat) : G_journey_in [I a, I b, I c] h base = some (B (win a b c), EF []) := gd (F_journey_in_val a b c h) (by simp [idss, ids]) base
set_option maxHeartbeats 4000000 in
theorem F_journey_fault_val (j : Jny) (begun : Bool) (last : Int) (x : Leg) (h : Hp) : F_journey_fault [.agg (encJ j), B begun, I last, .agg (encL x)] h = some (I (faultL j begun last x), h) := by
  refine F_journey_fault_run (by simp [encJ, encL]) ?_ h
  unfold faultL
  have gt := G_journey_table_val
  cases c1 : win x.day 0 100000
  · simp [f_journey_fault, boxE, encJ, encL, G_journey_in_val, c1, disjAll, disj2, wrOf, ap, idsOf, EF]
  cases c2 : win x.kind 1 7
  · simp [f_journey_fault, boxE, encJ, encL, G_journey_in_val, c1, c2, disjAll, disj2, wrOf, ap, idsOf, EF]
  have hk : 1 ≤ x.kind ∧ x.kind ≤ 7 := by simpa [win] using c2
  have i1 := fun K : AV → Option AV => ixk hk K
  have i2 := gform hk x rfl
  have i3 := gref hk j
  have e1 : (x.kind == 1) = decide (x.kind = 1) := by by_cases q : x.kind = 1 <;> simp [q]
  have e2 : (begun == decide (x.kind = 1)) = (begun == (x.kind == 1)) := by rw [e1]
  rw [e2]
  have i0 : ∀ (a b c : AV) (k : Go.AM.K AV), fldK 1 false 0 (.agg [a, b, c]) k = k a := fun a b c k => rfl
  have i5 : ∀ (a b c : AV) (k : Go.AM.K AV), fldK 1 false 1 (.agg [a, b, c]) k = k b := fun a b c k => rfl
  simp only [callVE_fn, List.append_nil] at i2 i3
  generalize formF x.kind = ff at *
  generalize refF x.kind = fr at *
  generalize actF x.kind = fa at *
  simp only [encL, encJ] at i2 i3
  cases c3 : formL x with
  | false =>
    rw [c3] at i2
    simp [f_journey_fault, boxE, encJ, encL, G_journey_in_val, eqK_bool, c1, c2, gt, i1, i0, i5, i2, disjAll, disj2, wrOf, ap, idsOf, EF]
  | true =>
    rw [c3] at i2
    by_cases c4 : x.day < last
    · simp [f_journey_fault, boxE, encJ, encL, G_journey_in_val, eqK_bool, c1, c2, gt, i1, i0, i5, i2, c4, disjAll, disj2, wrOf, ap, idsOf, EF]
    cases c5 : (begun == (x.kind == 1)) with
    | true =>
      simp [f_journey_fault, boxE, encJ, encL, G_journey_in_val, eqK_bool, c1, c2, gt, i1, i0, i5, i2, c4, c5, disjAll, disj2, wrOf, ap, idsOf, EF]
    | false =>
      cases c6 : j.endd with
      | true =>
        simp [f_journey_fault, boxE, encJ, encL, G_journey_in_val, eqK_bool, c1, c2, gt, i1, i0, i5, i2, c4, c5, c6, disjAll, disj2, wrOf, ap, idsOf, EF]
      | false =>
        cases c7 : refL j x.kind with
        | true =>
          rw [c7] at i3
          rw [c6] at i3
          simp [f_journey_fault, boxE, encJ, encL, G_journey_in_val, eqK_bool, c1, c2, gt, i1, i0, i5, i2, i3, c4, c5, c6, disjAll, disj2, wrOf, ap, idsOf, EF]
        | false =>
          rw [c7] at i3
          rw [c6] at i3
          have q4 : ∀ a b : Int, (a == b) = decide (a = b) := fun a b => by by_cases q : a = b <;> simp [q]
          have run : f_journey_fault Tryz.prog t_journey_fault d_journey_fault NN (fun v g => cvt false g v) (.agg (encJ j)) (B begun) (I last) (.agg (encL x)) [] = some (I (if (x.kind = 4 ∧ x.to = j.frm) ∨ (x.kind = 7 ∧ x.place ≠ j.to) then 10 else if 5 ≤ x.kind ∧ j.tra < x.alc then 17 else 0)) := by
            by_cases d1 : x.kind = 4
            · have d1' : (x.kind == 4) = true := by simpa using d1
              have d2 : ¬ x.kind = 7 := by omega
              have d2' : (x.kind == 7) = false := by simpa using d2
              have d5 : ¬ 5 ≤ x.kind := by omega
              cases d3 : (x.to == j.frm)
              · have d3' : ¬ x.to = j.frm := by simpa using d3
                rw [if_neg (by simp [d2, d3']), if_neg (by simp [d5])]
                simp [f_journey_fault, boxE, encJ, encL, G_journey_in_val, eqK_bool, c1, c2, gt, i1, i0, i5, i2, i3, c4, c5, c6, d1', d2', d3, d5, disjAll, disj2, wrOf, ap, idsOf, EF]
              · have d3' : x.to = j.frm := by simpa using d3
                rw [if_pos (.inl ⟨d1, d3'⟩)]
                simp [f_journey_fault, boxE, encJ, encL, G_journey_in_val, eqK_bool, c1, c2, gt, i1, i0, i5, i2, i3, c4, c5, c6, d1', d2', d3, d5, disjAll, disj2, wrOf, ap, idsOf, EF]
            · have d1' : (x.kind == 4) = false := by simpa using d1
              by_cases d2 : x.kind = 7
              · have d2' : (x.kind == 7) = true := by simpa using d2
                have d5 : 5 ≤ x.kind := by omega
                cases d4 : (x.place == j.to)
                · have d4' : ¬ x.place = j.to := by simpa using d4
                  rw [if_pos (.inr ⟨d2, d4'⟩)]
                  simp [f_journey_fault, boxE, encJ, encL, G_journey_in_val, eqK_bool, c1, c2, gt, i1, i0, i5, i2, i3, c4, c5, c6, d1', d2', d4, d5, disjAll, disj2, wrOf, ap, idsOf, EF]
                · have d4' : x.place = j.to := by simpa using d4
                  rw [if_neg (by simp [d1, d4'])]
                  by_cases d6 : j.tra < x.alc
                  · rw [if_pos ⟨d5, d6⟩]
                    simp [f_journey_fault, boxE, encJ, encL, G_journey_in_val, eqK_bool, c1, c2, gt, i1, i0, i5, i2, i3, c4, c5, c6, d1', d2', d4, d5, d6, disjAll, disj2, wrOf, ap, idsOf, EF]
                  · rw [if_neg (by simp [d6])]
                    simp [f_journey_fault, boxE, encJ, encL, G_journey_in_val, eqK_bool, c1, c2, gt, i1, i0, i5, i2, i3, c4, c5, c6, d1', d2', d4, d5, d6, disjAll, disj2, wrOf, ap, idsOf, EF]
              · have d2' : (x.kind == 7) = false := by simpa using d2
                rw [if_neg (by simp [d1, d2])]
                by_cases d5 : 5 ≤ x.kind
                · by_cases d6 : j.tra < x.alc
                  · rw [if_pos ⟨d5, d6⟩]
                    simp [f_journey_fault, boxE, encJ, encL, G_journey_in_val, eqK_bool, c1, c2, gt, i1, i0, i5, i2, i3, c4, c5, c6, d1', d2', d5, d6, disjAll, disj2, wrOf, ap, idsOf, EF]
                  · rw [if_neg (by simp [d6])]
                    simp [f_journey_fault, boxE, encJ, encL, G_journey_in_val, eqK_bool, c1, c2, gt, i1, i0, i5, i2, i3, c4, c5, c6, d1', d2', d5, d6, disjAll, disj2, wrOf, ap, idsOf, EF]
                · rw [if_neg (by simp [d5])]
                  simp [f_journey_fault, boxE, encJ, encL, G_journey_in_val, eqK_bool, c1, c2, gt, i1, i0, i5, i2, i3, c4, c5, c6, d1', d2', d5, disjAll, disj2, wrOf, ap, idsOf, EF]
          rw [run]
          simp [c4]
end Go.AM


namespace Go.AM
open Go.Proofs
set_option linter.unusedVariables false
set_option linter.unusedSimpArgs false
set_option linter.constructorNameAsVariable false
set_option maxRecDepth 20000
theorem gact {j : Jny} {begun : Bool} {last : Int} {x : Leg} (hj : InvJ j) (hf : faultL j begun last x = 0) {h : Hp} {id : Nat} (hid : h[id]? = some (.arr 9 [encJ j] true false)) (base : Nat) :
    callVE d_journey_Run (.fn (actF x.kind) []) [.ptr id 0 0 1, .agg (encL x)] h base = some (.tup [], ⟨[(id, .arr 9 [encJ (actL j x)] true false)], [], [id]⟩) := by
  obtain ⟨-, hk, hfo, -, -, -, -, -, -, hs⟩ := faultL_0 hf
  have hb := formL_bd hk hfo
  obtain ⟨s1, s2, s3, s4, s5, s6, s7, s8⟩ := hj
  unfold actL
  rcases kinds7 hk with e | e | e | e | e | e | e <;> rw [callVE_fn, List.append_nil] <;> simp only [e] at hs ⊢
  · exact wrD_val hid (wr_5 id j x) base
  · exact wrD_val hid (wr_7 id j x) base
  · exact wrD_val hid (wr_10 id j x) base
  · exact wrD_val hid (wr_12 id j x) base
  · exact wrD_val hid (wr_13 id j x (wrap64 (by omega) (by omega)) (wrap64 (by omega) (by omega))) base
  · exact wrD_val hid (wr_14 id j x (wrap64 (by omega) (by omega)) (wrap64 (by omega) (by omega))) base
  · exact wrD_val hid (wr_16 id j x (wrap64 (by omega) (by omega)) (wrap64 (by omega) (by omega))) base
def runX {β : Type} (X : Jny → Option β) (Y : Nat → Int → Option β) : Jny → Bool → Int → Nat → List Leg → Option β
  | j, _, _, _, [] => X j
  | j, bg, last, i, x :: l => if faultL j bg last x = 0 then runX X Y (actL j x) true x.day (i + 1) l else Y i (faultL j bg last x)
def boxL (x : Leg) : AObj := .arr 5 [encL x] true false
theorem Run_L2 {β : Type} {N : Nat} {x0 : AV → AV → Hp → Option β} {xr : AV → AV → AV → Hp → Option β} {X : Jny → Option β} {Y : Nat → Int → Option β}
    (hx : ∀ h j, h[0]? = some (.arr 9 [encJ zeroJ] true false) → h[1]? = some (.arr 9 [encJ j] true false) → x0 (.ptr 0 0 0 1) (.ptr 1 0 0 1) h = X j)
    (hr : ∀ h (i : Nat) e, h[0]? = some (.arr 9 [encJ zeroJ] true false) → xr (.ptr 0 0 0 1) (I i) (I e) h = Y i e) (l : List Leg) (b : Bool) (hl : l.length < 1000000) :
    ∀ (n : Nat) (pre post : List Leg) (j : Jny) (bg : Bool) (last : Int) (h : Hp), l = pre ++ post → post.length < n → InvJ j → bg = decide (0 < (pre.length : Int)) → h[0]? = some (.arr 9 [encJ zeroJ] true false) → h[1]? = some (.arr 9 [encJ j] true false) →
    f_journey_Run_L2 Tryz.prog t_journey_Run d_journey_Run N x0 xr n (.ptr 0 0 0 1) (.ptr 1 0 0 1) (I last) (.lst 5 b (l.map encL)) (I l.length) (I pre.length) h = runX X Y j bg last pre.length post := by
  intro n
  induction n with
  | zero => intro pre post j bg last h _ h2; omega
  | succ n ih =>
    intro pre post j bg last h hc hn hj hbg h0 h1
    show f_journey_Run_b2 Tryz.prog t_journey_Run d_journey_Run N (f_journey_Run_L2 Tryz.prog t_journey_Run d_journey_Run N x0 xr n) x0 xr _ _ _ _ _ _ h = _
    cases post with
    | nil =>
      have : l = pre := by simpa using hc
      subst this
      simp [f_journey_Run_b2, runX, hx h j h0 h1]
    | cons c post =>
      have hi : pre.length < l.length := by rw [hc]; simp
      have hci : l[pre.length]? = some c := by rw [hc]; simp
      have hlt : ((pre.length : Int) < (l.length : Int)) := by omega
      have hw : IntKind.i64.wrap ((pre.length : Int) + 1) = (((pre ++ [c]).length : Nat) : Int) := by rw [wrap64 (by omega) (by omega)]; simp
      have ic : ∀ k : Go.AM.K β, iaK 5 (.lst 5 b (l.map encL)) (I pre.length) k = k (.ep (encL c) 0) := fun k => iaK_at pre.length rfl hci k
      obtain ⟨H, hH⟩ : ∃ H, H = h ++ [boxL c] := ⟨_, rfl⟩
      have H0 : H[0]? = some (.arr 9 [encJ zeroJ] true false) := by rw [hH]; exact get_app h0
      have H1 : H[1]? = some (.arr 9 [encJ j] true false) := by rw [hH]; exact get_app h1
      have HL : H[h.length]? = some (boxL c) := by rw [hH]; simp
      have l1 : 1 < h.length := (List.getElem?_eq_some_iff.1 h1).1
      have ff := F_journey_fault_val j bg last c H
      have ldc : ∀ (g : Hp) (k : Go.AM.K β), ldK 5 true (.ep (encL c) 0) g k = k (.agg (encL c)) := fun g k => by simp [encL]
      have bx : ∀ k : AV → Hp → Option β, effK (boxE 5 (.agg [I 0, I 0, I 0, I 0, I 0]) h.length) h k = k (.ptr h.length 0 0 1) (h ++ [.arr 5 [[I 0, I 0, I 0, I 0, I 0]] true false]) := fun k => effK_box 5 h.length _ h k rfl rfl rfl
      have sx : ∀ k : AV → Hp → Option β, effK (stE 5 (.ptr h.length 0 0 1) (.agg (encL c)) (h ++ [.arr 5 [[I 0, I 0, I 0, I 0, I 0]] true false])) (h ++ [.arr 5 [[I 0, I 0, I 0, I 0, I 0]] true false]) k = k .u H := fun k => by
        rw [hH]; simp [encL, stE, ap, boxL]
      have ldj : ∀ k : Go.AM.K β, ldK 9 true (.ptr 1 0 0 1) H k = k (.agg (encJ j)) := fun k => by simp [H1, encJ]
      have ldx : ∀ k : Go.AM.K β, ldK 5 true (.ptr h.length 0 0 1) H k = k (.agg (encL c)) := fun k => by simp [HL, boxL, encL]
      have gtb : ∀ k : Go.AM.K β, arithK .gtr (I pre.length) (I 0) k = k (B bg) := fun k => by simp [hbg]
      unfold f_journey_Run_b2
      rw [arithK_lss, decide_eq_true hlt, condK_bool, if_pos rfl, ic, ldc, bx, sx, ldj, gtb, ldx, t_journey_Run_34, callK_F, ff]
      clear bx sx ldc ic ldx
      rw [runX]
      by_cases hf : faultL j bg last c = 0
      · rw [if_pos hf]
        obtain ⟨-, hk, -⟩ := faultL_0 hf
        have ga := gact hj hf H1
        have ixc := fun K : AV → Option β => ixk hk K
        have i2 : ∀ (a b c : AV) (k : Go.AM.K β), fldK 1 false 2 (.agg [a, b, c]) k = k c := fun a b c k => rfl
        have hlen : H.length = h.length + 1 := by rw [hH]; simp
        have step := ih (pre ++ [c]) post (actL j c) true c.day (H.set 1 (.arr 9 [encJ (actL j c)] true false)) (by simpa using hc) (by simpa using hn) (actL_inv hj hf) (by simp) (by rw [List.getElem?_set_ne (by omega)]; exact H0) (List.getElem?_set_self (by omega))
        have e1 : (pre ++ [c]).length = pre.length + 1 := by simp
        rw [e1] at step hw
        rw [← step]
        simp only [callVE_fn, List.append_nil] at ga
        have HL' : ∀ o, (H.set 1 o)[h.length]? = some (boxL c) := fun o => by rw [List.getElem?_set_ne (by omega)]; exact HL
        have hw' : IntKind.i64.wrap ((pre.length : Int) + 1) = (pre.length : Int) + 1 := by rw [hw]; simp
        have hneq : h.length ≠ 1 := by omega
        generalize actF c.kind = fa at *
        clear hlen hH
        generalize h.length = q at *
        simp only [boxL, encL] at HL HL'
        simp only [encL] at ga
        simp [hf, G_journey_table_val, HL, HL', ixc, i2, ga, encL, hw', disjAll, disj2, wrOf, ap, idsOf, EF, hneq]
      · have hf' : (faultL j bg last c == 0) = false := by simpa using hf
        rw [if_neg hf]
        have l0 : 0 < H.length := by rw [hH]; simp
        have hrr := fun o => hr (H.set 0 o) pre.length (faultL j bg last c)
        have hset : (H.set 0 (.arr 9 [encJ zeroJ] true false))[0]? = some (.arr 9 [encJ zeroJ] true false) := List.getElem?_set_self l0
        have := hrr _ hset
        rw [← this]
        have z0 := H0
        simp only [encJ, zeroJ] at z0 ⊢
        simp [hf', buildK, fillA, stE, z0, ap]
end Go.AM


namespace Go.AM
open Go.Proofs
set_option linter.unusedVariables false
set_option linter.unusedSimpArgs false
set_option linter.constructorNameAsVariable false
set_option maxRecDepth 20000
def tupR (r : Jny × Int × Int) : AV := .tup [.agg (encJ r.1), I r.2.1, I r.2.2]
theorem runX_eq : ∀ (l : List Leg) (j : Jny) (bg : Bool) (last : Int) (i : Nat), runX (fun j => some (tupR (j, -1, 0))) (fun i e => some (tupR (zeroJ, i, e))) j bg last i l = some (tupR (runL j bg last i l))
  | [], _, _, _, _ => rfl
  | x :: l, j, bg, last, i => by
    rw [runX, runL]
    by_cases h : faultL j bg last x = 0
    · rw [if_pos h, if_pos h, runX_eq l]
    · rw [if_neg h, if_neg h]
theorem F_journey_Run_val (l : List Leg) (b : Bool) (hl : l.length < 1000000) (h : Hp) : F_journey_Run [.lst 5 b (l.map encL)] h = some (tupR (runS l), h) := by
  refine F_journey_Run_run rfl ?_ h
  unfold runS
  by_cases h1 : 128 < l.length
  · have h1' : (128 : Int) < (l.length : Int) := by omega
    rw [if_pos h1]
    simp [f_journey_Run, boxE, h1', buildK, fillA, stE, ap, tupR, encJ, zeroJ]
  · have h1' : ¬ (128 : Int) < (l.length : Int) := by omega
    rw [if_neg h1, ← runX_eq]
    have L := Run_L2 (N := NN) (x0 := fun w46_2 w46_5 h => f_journey_Run_j1 Tryz.prog t_journey_Run d_journey_Run NN (fun v g => cvt false g v) w46_2 w46_5 h) (xr := fun w47_2 w47_3 w47_4 h => ldK 9 true w47_2 h fun r48 => cvt false h (.tup [r48, w47_3, w47_4]))
      (X := fun j => some (tupR (j, -1, 0))) (Y := fun i e => some (tupR (zeroJ, i, e)))
      (fun h j h0 h1 => by
        have l0 : ∀ o : AObj, (h.set 0 o)[0]? = some o := fun o => List.getElem?_set_self (List.getElem?_eq_some_iff.1 h0).1
        simp only [encJ, zeroJ] at h0 h1
        generalize hq : h.set 0 = st at *
        simp [f_journey_Run_j1, h0, h1, stE, ap, tupR, encJ, l0, hq])
      (fun h i e h0 => by
        simp only [encJ, zeroJ] at h0
        simp [h0, tupR, encJ, zeroJ]) l b hl NN [] l zeroJ false 0 [.arr 9 [encJ zeroJ] true false, .arr 9 [encJ zeroJ] true false] rfl (by have := NN_ge; omega) invZ rfl rfl rfl
    rw [← show ((List.length ([] : List Leg) : Nat)) = 0 from rfl, ← L]
    simp [f_journey_Run, boxE, h1', encJ, zeroJ]
theorem F_journey_right_val (l : List Leg) (b : Bool) (hl : l.length < 1000000) (h : Hp) : F_journey_right [.lst 5 b (l.map encL)] h = some (B (okS l), h) := by
  refine F_journey_right_run rfl ?_ h
  have e : ((runS l).2.2 == 0) = okS l := by unfold okS; by_cases q : (runS l).2.2 = 0 <;> simp [q]
  simp [f_journey_right, F_journey_Run_val l b hl, tupR, boxE, stE, ap, encJ, e]
theorem journey_at_L2 {β : Type} {P : Program} {T : Tab} {D : DTab} {N : Nat} {x0 : AV → AV → AV → Hp → Option β} (l : List Leg) (b : Bool) (day : Int) (v4 : AV) (hl : l.length < 1000000) (h : Hp) :
    ∀ (n : Nat) (pre post : List Leg), l = pre ++ post → post.length < n →
    f_journey_at_L2 P T D N x0 n (.lst 5 b (l.map encL)) (I day) v4 (I pre.length) h = x0 (.lst 5 b (l.map encL)) v4 (I ((pre.length + (untilD post day).length : Nat) : Int)) h := by
  intro n
  induction n with
  | zero => intro pre post _ h2; omega
  | succ n ih =>
    intro pre post hc hn
    show f_journey_at_b2 P T D N (f_journey_at_L2 P T D N x0 n) x0 _ _ _ _ h = _
    cases post with
    | nil =>
      have : l = pre := by simpa using hc
      subst this
      simp [f_journey_at_b2, untilD]
    | cons c post =>
      have hi : pre.length < l.length := by rw [hc]; simp
      have hci : l[pre.length]? = some c := by rw [hc]; simp
      have hlt : ((pre.length : Int) < (l.length : Int)) := by omega
      have ic : ∀ k : Go.AM.K β, iaK 5 (.lst 5 b (l.map encL)) (I pre.length) k = k (.ep (encL c) 0) := fun k => iaK_at pre.length rfl hci k
      have hlen : lenK (.lst 5 b (l.map encL)) = fun k : Go.AM.K β => k (I l.length) := by funext k; simp
      have hw : IntKind.i64.wrap ((pre.length : Int) + 1) = (((pre ++ [c]).length : Nat) : Int) := by rw [wrap64 (by omega) (by omega)]; simp
      have step := ih (pre ++ [c]) post (by simpa using hc) (by simpa using hn)
      simp only [encL] at ic
      by_cases q : c.day ≤ day
      · have e : (untilD (c :: post) day).length = (untilD post day).length + 1 := by unfold untilD; rw [List.takeWhile_cons_of_pos (by simpa using q)]; rfl
        have e2 : (pre ++ [c]).length + (untilD post day).length = pre.length + (untilD (c :: post) day).length := by rw [e]; simp; omega
        rw [← e2, ← step]
        simp only [f_journey_at_b2, hlen, arithK_lss, hlt, decide_true]
        simp [encL, ic, q, hw]
      · have e : (untilD (c :: post) day).length = 0 := by unfold untilD; rw [List.takeWhile_cons_of_neg (by simpa using q)]; rfl
        rw [e, Nat.add_zero]
        simp only [f_journey_at_b2, hlen, arithK_lss, hlt, decide_true]
        simp [encL, ic, q]
theorem take_until (l : List Leg) (day : Int) : l.take (untilD l day).length = untilD l day := by
  obtain ⟨m, hm⟩ := until_pre l day
  conv => lhs; rw [show l.take (untilD l day).length = (untilD l day ++ m).take (untilD l day).length by rw [← hm]]
  simp
theorem until_len (l : List Leg) (day : Int) : (untilD l day).length ≤ l.length := by
  obtain ⟨m, hm⟩ := until_pre l day
  have := congrArg List.length hm
  rw [List.length_append] at this
  omega
theorem F_journey_at_val (l : List Leg) (b : Bool) (day : Int) (hok : okS l = true) (hl : l.length < 1000000) (h : Hp) : F_journey_at [.lst 5 b (l.map encL), I day] h = some (.agg (encJ (atL l day)), h) := by
  refine F_journey_at_run rfl ?_ h
  have hu := until_len l day
  have L := journey_at_L2 (P := Tryz.prog) (T := t_journey_at) (D := d_journey_at) (N := NN) (x0 := fun w27_0 w27_4 w27_5 h => f_journey_at_j1 Tryz.prog t_journey_at d_journey_at NN (fun v g => cvt false g v) w27_0 w27_4 w27_5 h) l b day (.ptr 0 0 0 1) hl [.arr 9 [encJ zeroJ] true false] NN [] l rfl (by have := NN_ge; omega)
  have sl : ∀ k : Go.AM.K AV, sliceK 5 (.lst 5 b (l.map encL)) none (some (I ((untilD l day).length : Int))) none k = k (.lst 5 b ((untilD l day).map encL)) := fun k => by
    rw [sliceK_take hu, take_until]
  have fr := F_journey_Run_val (untilD l day) b (by omega)
  rw [at_run hok day] at fr
  refine Eq.trans ?_ (L.trans ?_)
  · simp [f_journey_at, boxE, encJ, zeroJ]
  · simp only [List.length_nil, Nat.zero_add, f_journey_at_j1, sl]
    simp [fr, tupR, boxE, stE, ap, encJ, zeroJ]
end Go.AM


namespace Go.AM
open Go.Proofs
set_option linter.unusedVariables false
set_option linter.unusedSimpArgs false
set_option linter.constructorNameAsVariable false
set_option maxRecDepth 20000
end Go.AM


namespace Go.AM
open Go.Proofs
set_option linter.unusedVariables false
set_option linter.unusedSimpArgs false
set_option linter.constructorNameAsVariable false
set_option maxRecDepth 20000
end Go.AM


namespace Go.AM
open Go.Proofs
set_option linter.unusedVariables false
set_option linter.unusedSimpArgs false
set_option linter.constructorNameAsVariable false
set_option maxRecDepth 20000
end Go.AM


namespace Go.AM
open Go.Proofs
set_option linter.unusedVariables false
set_option linter.unusedSimpArgs false
set_option linter.constructorNameAsVariable false
set_option maxRecDepth 20000
end Go.AM


namespace Go.AM
open Go.Proofs
set_option linter.unusedVariables false
set_option linter.unusedSimpArgs false
set_option linter.constructorNameAsVariable false
set_option maxRecDepth 20000
structure Los where
  ev : Int
  op : Int
  df : Int
  su : Int
deriving DecidableEq
def encO (x : Los) : List AV := [I x.ev, I x.op, I x.df, I x.su]
def lossL (e f a o : Int) : Los := if e < f then ⟨0, 0, 0, f - e⟩ else ⟨min a (e - f), min o (e - f - min a (e - f)), e - f - min a (e - f) - min o (e - f - min a (e - f)), 0⟩
def alcL (n : Int) : Bool := win n 0 10737418240000
theorem loss_amount_L2 {β : Type} {P : Program} {T : Tab} {D : DTab} {N : Nat} {x0 : Hp → Option β} {xr : AV → Hp → Option β} (l : List Int) (b : Bool) (hl : l.length < 1000000) (h : Hp) : ∀ (n : Nat) (pre post : List Int), l = pre ++ post → post.length < n →
    f_loss_amount_L2 P T D N x0 xr n (.lst 1 b (l.map encI)) (I l.length) (I pre.length) h = if post.all alcL = true then x0 h else xr (B false) h := by
  intro n
  induction n with
  | zero => intro pre post _ h2; omega
  | succ n ih =>
    intro pre post hc hn
    show f_loss_amount_b2 P T D N (f_loss_amount_L2 P T D N x0 xr n) x0 xr _ _ _ h = _
    cases post with
    | nil =>
      have : l = pre := by simpa using hc
      subst this
      simp [f_loss_amount_b2]
    | cons c post =>
      have hi : pre.length < l.length := by rw [hc]; simp
      have hci : l[pre.length]? = some c := by rw [hc]; simp
      have hlt : ((pre.length : Int) < (l.length : Int)) := by omega
      have hw : IntKind.i64.wrap ((pre.length : Int) + 1) = (((pre ++ [c]).length : Nat) : Int) := by rw [wrap64 (by omega) (by omega)]; simp
      have ic : ∀ k : Go.AM.K β, iaK 1 (.lst 1 b (l.map encI)) (I pre.length) k = k (.ep (encI c) 0) := fun k => iaK_at pre.length rfl hci k
      have step := ih (pre ++ [c]) post (by simpa using hc) (by simpa using hn)
      simp only [f_loss_amount_b2, arithK_lss, hlt, decide_true, condK_bool, if_true, ic]
      rw [List.all_cons]
      by_cases q1 : c < 0
      · have : alcL c = false := by simp [alcL, win]; omega
        rw [this]; simp [encI, q1]
      · by_cases q2 : 10737418240000 < c
        · have : alcL c = false := by simp [alcL, win]; omega
          rw [this]; simp [encI, q1, q2]
        · have : alcL c = true := by simp [alcL, win]; omega
          rw [this, Bool.true_and, ← step]; simp [encI, q1, q2, hw]
theorem F_loss_amount_4 (a b c d : Int) (id : Nat) {h : Hp} (hid : h[id]? = some (.arr 1 [[I a], [I b], [I c], [I d]] true false)) : F_loss_amount [.sl 1 id 0 4 4 true] h = some (B (alcL a && (alcL b && (alcL c && alcL d))), h) := by
  refine F_loss_amount_own (a0 := .lst 1 false ([a, b, c, d].map encI)) (by simp [cvts, cvt, hid, okE, plain, encI]) (fun st => ?_)
  have L := loss_amount_L2 (P := Tryz.prog) (T := t_loss_amount) (D := d_loss_amount) (N := NN) (x0 := fun h => f_loss_amount_j1 Tryz.prog t_loss_amount d_loss_amount NN (fun v g => cvt st g v) h) (xr := fun w12_2 h => cvt st h w12_2) [a, b, c, d] false (by simp) [] NN [] [a, b, c, d] rfl (by have := NN_ge; simp; omega)
  refine Eq.trans ?_ (L.trans ?_)
  · simp [f_loss_amount]
  · have : [a, b, c, d].all alcL = (alcL a && (alcL b && (alcL c && alcL d))) := by simp
    rw [this]
    cases alcL a && (alcL b && (alcL c && alcL d)) <;> simp [f_loss_amount_j1]
theorem F_loss_split_val (e f a o : Int) (h1 : 0 ≤ e ∧ e ≤ 10737418240000) (h2 : 0 ≤ f ∧ f ≤ 10737418240000) (h3 : 0 ≤ a ∧ a ≤ 10737418240000) (h4 : 0 ≤ o ∧ o ≤ 10737418240000) (h : Hp) : F_loss_split [I e, I f, I a, I o] h = some (.agg (encO (lossL e f a o)), h) := by
  refine F_loss_split_run rfl ?_ h
  unfold lossL
  by_cases hc : e < f
  · have w : IntKind.i64.wrap (f - e) = f - e := wrap64 (by omega) (by omega)
    rw [if_pos hc]
    simp [f_loss_split, boxE, hc, w, buildK, fillA, stE, ap, encO]
  · have w : IntKind.i64.wrap (e - f) = e - f := wrap64 (by omega) (by omega)
    have w2 : IntKind.i64.wrap (e - f - min a (e - f)) = e - f - min a (e - f) := wrap64 (by omega) (by omega)
    have w3 : IntKind.i64.wrap (e - f - min a (e - f) - min o (e - f - min a (e - f))) = e - f - min a (e - f) - min o (e - f - min a (e - f)) := wrap64 (by omega) (by omega)
    rw [if_neg hc]
    simp [f_loss_split, boxE, hc, w, F_loss_split_1_raw, f_loss_split_1, w2, w3, buildK, fillA, stE, ap, encO]
theorem F_loss_Split_val (e f a o : Int) (h1 : 0 ≤ e ∧ e ≤ 10737418240000) (h2 : 0 ≤ f ∧ f ≤ 10737418240000) (h3 : 0 ≤ a ∧ a ≤ 10737418240000) (h4 : 0 ≤ o ∧ o ≤ 10737418240000) (h : Hp) : F_loss_Split [I e, I f, I a, I o] h = some (.tup [.agg (encO (lossL e f a o)), I 0], h) := by
  refine F_loss_Split_run rfl ?_ h
  have am := F_loss_amount_4 e f a o 1 (h := [.arr 4 [[I 0, I 0, I 0, I 0]] true false, .arr 1 [[I e], [I f], [I a], [I o]] true false]) rfl
  have hall : (alcL e && (alcL f && (alcL a && alcL o))) = true := by simp [alcL, win]; omega
  rw [hall] at am
  have fs := F_loss_split_val e f a o h1 h2 h3 h4
  simp only [encO] at fs ⊢
  simp [f_loss_Split, boxE, bsE, fillS, am, fs, stE, ap]
def zeroO : Los := ⟨0, 0, 0, 0⟩
noncomputable def claimS (l : List Leg) (t : List Allow) : Los × Int :=
  if okS l = false ∨ rightA t = false then (zeroO, 1) else if (runS l).1.endd = false then (zeroO, 11) else
    (lossL ((runS l).1.dep - (runS l).1.spl) (runS l).1.arr (allowedS t 9 ((runS l).1.dep - (runS l).1.spl) ((l.head?.map (·.day)).getD 0) ((l.getLast?.map (·.day)).getD 0)).1 0, 0)
theorem allowedS_bd {t : List Allow} {cls alc frm to : Int} (h : 0 ≤ alc) : 0 ≤ (allowedS t cls alc frm to).1 ∧ (allowedS t cls alc frm to).1 ≤ alc := by
  unfold allowedS
  split
  · exact ⟨Int.le_refl _, h⟩
  · rename_i hr
    split
    · exact ⟨Int.le_refl _, h⟩
    · rename_i hw
      split
      · exact ⟨Int.le_refl _, h⟩
      · have hr' : rightA t = true := by simpa using hr
        simp only [Bool.not_eq_false, Bool.and_eq_true, win, decide_eq_true_eq] at hw
        have hb := sumA_bd (rightA_ok hr').2.1 cls frm to (by omega)
        have : 0 ≤ alc * sumA t cls frm to / 1000000 := Int.ediv_nonneg (Int.mul_nonneg h hb.1) (by omega)
        dsimp only
        omega
theorem F_journey_Claim_val (l : List Leg) (t : List Allow) (b1 b2 : Bool) (hl : l.length < 1000000) (h : Hp) : F_journey_Claim [.lst 5 b1 (l.map encL), .lst 4 b2 (t.map encA)] h = some (.tup [.agg (encO (claimS l t).1), I (claimS l t).2], h) := by
  refine F_journey_Claim_run rfl ?_ h
  have fr := F_journey_Run_val l b1 hl
  have fc := F_season_Check_val t b2
  unfold claimS
  cases hr : okS l with
  | false =>
    obtain ⟨g1, g2⟩ := runS_err hr
    have g2' : ((runS l).2.2 == 0) = false := by simpa using g2
    simp only [tupR, g1, encJ, zeroJ] at fr
    rw [if_pos (.inl rfl)]
    simp [f_journey_Claim, boxE, stE, ap, fr, fc, g2', buildK, fillA, encO, zeroO]
  | true =>
    have hrun := okS_run hr
    have hinv := okL_inv l _ _ _ invZ (okS_ok hr).2
    rw [hrun] at fr ⊢
    simp only [tupR] at fr
    cases hc : rightA t with
    | false =>
      have g2' : ((checkA t).2 == 0) = false := by simpa [rightA] using hc
      rw [if_pos (.inr rfl)]
      simp only [encJ] at fr
      simp [f_journey_Claim, boxE, stE, ap, fr, fc, g2', buildK, fillA, encO, zeroO]
    | true =>
      have g2' : ((checkA t).2 == 0) = true := by simpa [rightA] using hc
      rw [if_neg (by simp)]
      cases he : (l.foldl actL zeroJ).endd with
      | false =>
        simp only [encJ, he] at fr
        simp [f_journey_Claim, boxE, stE, ap, fr, fc, g2', buildK, fillA, encO, zeroO]
      | true =>
        cases hll : l with
        | nil => rw [hll] at he; simp [zeroJ] at he
        | cons c tl =>
          rw [← hll]
          have hl0 : l.length ≠ 0 := by rw [hll]; simp
          have hc0 : l[0]? = some c := by rw [hll]; rfl
          have hhd : l.head? = some c := by rw [hll]; rfl
          obtain ⟨d, hd⟩ : ∃ d, l.getLast? = some d := by
            cases hx : l.getLast? with
            | none => rw [List.getLast?_eq_none_iff] at hx; rw [hx] at hll; simp at hll
            | some d => exact ⟨d, rfl⟩
          have hdi : l[l.length - 1]? = some d := by rw [← hd, List.getLast?_eq_getElem?]
          rw [hhd, hd]
          clear hll hhd hd
          obtain ⟨s1, s2, s3, s4, s5, s6, s7, s8⟩ := hinv
          have s7' := s7 he
          generalize l.foldl actL zeroJ = j at *
          obtain ⟨dep, spl, lost, arr, tra, frm, jto, halt, endd⟩ := j
          dsimp only at *
          subst he
          have w1 : IntKind.i64.wrap (dep - spl) = dep - spl := wrap64 (by omega) (by omega)
          have w2 : IntKind.i64.wrap ((l.length : Int) - 1) = (l.length : Int) - 1 := wrap64 (by omega) (by omega)
          have i0 : ∀ (k : Go.AM.K AV), iaK 5 (.lst 5 b1 (l.map encL)) (I 0) k = k (.ep (encL c) 0) := fun k => iaK_at 0 rfl hc0 k
          have i1 : ∀ (k : Go.AM.K AV), iaK 5 (.lst 5 b1 (l.map encL)) (I ((l.length : Int) - 1)) k = k (.ep (encL d) 0) := fun k => iaK_at (l.length - 1) (by omega) hdi k
          have ln : ∀ k : Go.AM.K AV, lenK (.lst 5 b1 (l.map encL)) k = k (I l.length) := fun k => by simp
          have fa := F_season_Allowed_val t b2 9 (dep - spl) c.day d.day
          have ab := allowedS_bd (t := t) (cls := 9) (frm := c.day) (to := d.day) (show 0 ≤ dep - spl by omega)
          simp only [Option.map_some, Option.getD_some]
          generalize (allowedS t 9 (dep - spl) c.day d.day).1 = n at *
          generalize (allowedS t 9 (dep - spl) c.day d.day).2 = er at *
          have fl := F_loss_Split_val (dep - spl) arr n 0 (by omega) (by omega) (by omega) (by omega)
          simp only [encL] at i0 i1
          simp only [encJ] at fr
          simp only [encO] at fl ⊢
          generalize l.map encL = L at *
          generalize (l.length : Int) = m at *
          simp [f_journey_Claim, boxE, stE, ap, fr, fc, g2', w1, w2, i0, i1, ln, fa, fl]
end Go.AM


namespace Go.AM
open Go.RowKit
set_option linter.unusedVariables false
def mu0 (w : World) : Mu := ⟨fun _ => .virt none, w, fun k => k < w.heap.size⟩
theorem rel0 (w : World) : Rel (mu0 w) [] w where
  obj := fun id o h => by simp at h
  sep := fun i j o p b x c y d h => by simp at h
  apart := fun i sz es nil b x c h => by simp at h
  imm := fun k hk => ⟨hk, rfl, fun ⟨id, o, off, c, h, _⟩ => by simp at h⟩
theorem own0 (w : World) (b : Nat) : ¬ Own (mu0 w) [] b := fun ⟨id, o, off, c, h, _⟩ => by simp at h
theorem below0 {w w' : World} {μ' : Mu} {h' : Hp} (s : Step (mu0 w) [] w μ' h' w') : Below w.heap.size w w' :=
  ⟨s.frame.os, s.frame.tape, s.frame.output, s.frame.size, fun k hk => s.frame.block k hk (own0 w k)⟩
theorem row_calls {P : Program} {f : FuncId} {F : Fun} {args : List AV} {h' : Hp} {b : Bool} {W : World} {cargs : Array Value} (hc : CSound P f F) (hF : F args [] = some (.s (.bool b), h')) (hv : VRs (mu0 W) [] args cargs.toList) :
    Calls P f cargs W fun e W' => e = .returned (.bool b) ∧ Below W.heap.size W W' := by
  refine (hc args [] _ h' hF (mu0 W) W cargs (rel0 W) hv).2.mono fun e W' => ?_
  rintro ⟨cv, μ', rfl, s, hr⟩
  simp only [VR] at hr
  exact ⟨by rw [hr.2], below0 s⟩

inductive Ty where
  | int (k : IntKind)
  | bool
  | str
  | sl (e : List Ty)
def tyFs (f : TypeId → Option (List Ty)) (size : TypeId → Nat) : List Field → Nat → Option (List Ty)
  | [], _ => some []
  | x :: l, pos => match f x.type, tyFs f size l (pos + size x.type) with
    | some a, some b => if x.offset = pos ∧ a.length = size x.type then some (a ++ b) else none
    | _, _ => none
def tyOf (P : Program) : Nat → TypeId → Option (List Ty)
  | 0, _ => none
  | n + 1, t => match P.underlying t with
    | some .bool => some [.bool]
    | some (.int k) => some [.int k]
    | some .string => some [.str]
    | some (.slice e) => match tyOf P n e with
      | some l => if l.length = P.cellsOf e ∧ 0 < l.length then some [.sl l] else none
      | none => none
    | some (.struct fs) => match tyFs (tyOf P n) P.cellsOf fs.toList 0 with
      | some l => if l.length = P.cellsOf t then some l else none
      | none => none
    | some (.array m e) => match tyOf P n e with
      | some l => if l.length = P.cellsOf e ∧ m * P.cellsOf e = P.cellsOf t then some (List.replicate m l).flatten else none
      | none => none
    | _ => none
mutual
def HasT : Ty → AV → Prop
  | .int k, a => ∃ n, a = .s (.int k n) ∧ (Lit.int k n).wf = true
  | .bool, a => ∃ b, a = .s (.bool b)
  | .str, a => ∃ s : ByteArray, a = .s (.string s) ∧ s.size ≤ maxLen
  | .sl ts, a => ∃ nil es, a = .lst ts.length nil es ∧ (nil = true → es = []) ∧ es.length ≤ maxLen ∧ ∀ e ∈ es, HasTs ts e
def HasTs : List Ty → List AV → Prop
  | [], asl => asl = []
  | t :: ts, asl => ∃ a as', asl = a :: as' ∧ HasT t a ∧ HasTs ts as'
end
theorem HasTs.app : ∀ {ts us : List Ty} {asl bs : List AV}, HasTs ts asl → HasTs us bs → HasTs (ts ++ us) (asl ++ bs)
  | [], us, asl, bs, h, k => by simp only [HasTs] at h; subst h; exact k
  | t :: ts, us, asl, bs, h, k => by
    simp only [HasTs] at h
    obtain ⟨a, as', rfl, h1, h2⟩ := h
    simp only [List.cons_append, HasTs]
    exact ⟨a, _, rfl, h1, HasTs.app h2 k⟩
theorem HasTs.len : ∀ {ts : List Ty} {asl : List AV}, HasTs ts asl → asl.length = ts.length
  | [], asl, h => by simp only [HasTs] at h; subst h; rfl
  | t :: ts, asl, h => by
    simp only [HasTs] at h
    obtain ⟨a, as', rfl, h1, h2⟩ := h
    simp [HasTs.len h2]
theorem HasT.ok : ∀ {t : Ty} {a : AV}, HasT t a → okC a = true
  | .int k, a, h => by simp only [HasT] at h; obtain ⟨n, rfl, _⟩ := h; rfl
  | .bool, a, h => by simp only [HasT] at h; obtain ⟨n, rfl⟩ := h; rfl
  | .str, a, h => by simp only [HasT] at h; obtain ⟨n, rfl, _⟩ := h; rfl
  | .sl ts, a, h => by simp only [HasT] at h; obtain ⟨n, es, rfl, _⟩ := h; rfl
theorem HasTs.ok : ∀ {ts : List Ty} {asl : List AV}, HasTs ts asl → ∀ x ∈ asl, okC x = true
  | [], asl, h, x, hx => by simp only [HasTs] at h; subst h; simp at hx
  | t :: ts, asl, h, x, hx => by
    simp only [HasTs] at h
    obtain ⟨a, as', rfl, h1, h2⟩ := h
    rcases List.mem_cons.1 hx with rfl | hx
    · exact h1.ok
    · exact h2.ok x hx
theorem VRs_app' {μ : Mu} {h : Hp} : ∀ {asl bs : List AV} {cs ds : List Value}, VRs μ h asl cs → VRs μ h bs ds → VRs μ h (asl ++ bs) (cs ++ ds)
  | [], bs, cs, ds, h1, h2 => by simp only [VRs] at h1; subst h1; exact h2
  | a :: asl, bs, cs, ds, h1, h2 => by
    simp only [VRs] at h1
    obtain ⟨v, vs, rfl, h3, h4⟩ := h1
    simp only [List.cons_append, VRs]
    exact ⟨v, _, rfl, h3, VRs_app' h4 h2⟩
section
variable {H : Type} {enc : TypeId × Value → H} {P : Program} {w : World} {base : Nat} {spare : Nat → Bool} {held : Bool}
def Opened (w : World) (ts : List Ty) (cs : List Value) : Prop := ∃ asl, HasTs ts asl ∧ VRs (mu0 w) [] asl cs ∧ ∀ u ∈ cs, u.oneCell' = true
theorem open_one {t : Ty} {u : Value} {a : AV} (h1 : HasT t a) (h2 : VR (mu0 w) [] a u) (h3 : u.oneCell' = true) : Opened w [t] [u] :=
  ⟨[a], by simp only [HasTs]; exact ⟨a, [], rfl, h1, rfl⟩, by simp only [VRs]; exact ⟨u, [], rfl, h2, rfl⟩, by simpa using h3⟩
theorem open_fs {f : TypeId → Option (List Ty)} {g : TypeId → List Value → Prop} {cs : List Value} (hg : ∀ t ts cs', f t = some ts → g t cs' → Opened w ts cs') : ∀ (l : List Field) (pos : Nat) (ts : List Ty), tyFs f P.cellsOf l pos = some ts →
    (∀ x ∈ l, g x.type ((cs.drop x.offset).take (P.cellsOf x.type))) → Opened w ts ((cs.drop pos).take ts.length)
  | [], pos, ts, h, _ => by
    simp only [tyFs, Option.some.injEq] at h
    subst h
    exact ⟨[], rfl, rfl, by simp⟩
  | x :: l, pos, ts, h, hx => by
    simp only [tyFs] at h
    split at h
    · rename_i a b h1 h2
      split at h
      · rename_i hc
        simp only [Option.some.injEq] at h
        subst h
        obtain ⟨h3, h4⟩ := hc
        obtain ⟨asl, p1, p2, p3⟩ := hg _ _ _ h1 (hx x (by simp))
        obtain ⟨bs, q1, q2, q3⟩ := open_fs hg l _ b h2 (fun y hy => hx y (by simp [hy]))
        have e : (cs.drop pos).take (a ++ b).length = (cs.drop x.offset).take (P.cellsOf x.type) ++ (cs.drop (pos + P.cellsOf x.type)).take b.length := by
          rw [List.length_append, h4, h3, ← List.drop_drop, List.take_add]
        rw [e]
        refine ⟨asl ++ bs, p1.app q1, VRs_app' p2 q2, ?_⟩
        intro u hu
        rcases List.mem_append.1 hu with hu | hu
        · exact p3 u hu
        · exact q3 u hu
      · simp at h
    · simp at h
theorem open_arr {ts : List Ty} {sz : Nat} {cs : List Value} : ∀ (n i0 : Nat), (∀ i, i < n → Opened w ts ((cs.drop ((i0 + i) * sz)).take sz)) → Opened w (List.replicate n ts).flatten ((cs.drop (i0 * sz)).take (n * sz))
  | 0, i0, _ => ⟨[], rfl, by simp [VRs], by simp⟩
  | n + 1, i0, h => by
    obtain ⟨asl, p1, p2, p3⟩ := h 0 (by omega)
    obtain ⟨bs, q1, q2, q3⟩ := open_arr n (i0 + 1) (fun i hi => by have := h (i + 1) (by omega); rwa [show i0 + (i + 1) = i0 + 1 + i by omega] at this)
    have e : (cs.drop (i0 * sz)).take ((n + 1) * sz) = (cs.drop (i0 * sz)).take sz ++ (cs.drop ((i0 + 1) * sz)).take (n * sz) := by
      rw [show (n + 1) * sz = sz + n * sz by rw [Nat.add_mul]; omega, show (i0 + 1) * sz = i0 * sz + sz by rw [Nat.add_mul]; omega, ← List.drop_drop, List.take_add]
    rw [e, List.replicate_succ, List.flatten_cons]
    refine ⟨asl ++ bs, p1.app q1, VRs_app' p2 q2, ?_⟩
    intro u hu
    rcases List.mem_append.1 hu with hu | hu
    · exact p3 u hu
    · exact q3 u hu
theorem open_es {ts : List Ty} {sz b : Nat} (hts : ts.length = sz) : ∀ (n o : Nat), (∀ i, i < n → ∃ cs, Opened w ts cs ∧ cs.length = sz ∧ ∀ j u, cs[j]? = some u → w.cell? ⟨b, o + i * sz + j, none⟩ = some u) →
    ∃ es vs, es.length = n ∧ (∀ e ∈ es, HasTs ts e) ∧ VRf (mu0 w) [] es vs ∧ ∀ j u, vs[j]? = some u → w.cell? ⟨b, o + j, none⟩ = some u ∧ u.oneCell' = true
  | 0, o, h => ⟨[], [], rfl, by simp, rfl, by simp⟩
  | n + 1, o, h => by
    obtain ⟨cs, ⟨asl, h1, h2, h3⟩, h4, h5⟩ := h 0 (by omega)
    obtain ⟨es, vs, k1, k2, k3, k4⟩ := open_es hts n (o + sz) (fun i hi => by
      obtain ⟨cs', q1, q2, q3⟩ := h (i + 1) (by omega)
      refine ⟨cs', q1, q2, fun j u hu => ?_⟩
      rw [← q3 j u hu]
      congr 2
      rw [Nat.add_mul]; omega)
    refine ⟨asl :: es, cs ++ vs, by simp [k1], ?_, ?_, ?_⟩
    · intro e he
      rcases List.mem_cons.1 he with rfl | he
      · exact h1
      · exact k2 e he
    · simp only [VRf]; exact ⟨cs, vs, rfl, h2, k3⟩
    · intro j u hj
      by_cases hlt : j < cs.length
      · rw [List.getElem?_append_left hlt] at hj
        have := h5 j u hj
        exact ⟨by simpa using this, h3 u (List.mem_of_getElem? hj)⟩
      · rw [List.getElem?_append_right (by omega)] at hj
        have := k4 _ _ hj
        rw [show o + sz + (j - cs.length) = o + j by omega] at this
        exact this
theorem cell_lt {a : Addr} {v : Value} (h : w.cell? a = some v) : a.block < w.heap.size := by
  rcases Nat.lt_or_ge a.block w.heap.size with h1 | h1
  · exact h1
  · have : w.heap[a.block]? = none := by simpa using h1
    simp [World.cell?, this] at h
theorem open_cells : ∀ (fuel n : Nat) (t : TypeId) (ts : List Ty) (cs : List Value) (x : DataW H × List MemPlace), tyOf P n t = some ts → DataW.trod enc P w base spare held fuel t cs = some x → Opened w ts cs
  | 0, n, t, ts, cs, x, _, h => by simp [DataW.trod] at h
  | fuel + 1, 0, t, ts, cs, x, h0, _ => by simp [tyOf] at h0
  | fuel + 1, n + 1, t, ts, cs, x, h0, h => by
    unfold tyOf at h0
    cases hu : P.underlying t with
    | none => rw [hu] at h0; simp at h0
    | some T =>
      rw [hu] at h0
      cases T with
      | bool =>
        simp only [Option.some.injEq] at h0
        subst h0
        obtain ⟨b, rfl, _⟩ := DataW.trod_bool hu h
        exact open_one (a := .s (.bool b)) (by simp [HasT]) (by simp [VR, gv]) rfl
      | int k =>
        simp only [Option.some.injEq] at h0
        subst h0
        obtain ⟨m, rfl, _, hw⟩ := DataW.trod_int hu h
        exact open_one (a := .s (.int k m)) (by simp [HasT, hw]) (by simp [VR, gv]) rfl
      | string =>
        simp only [Option.some.injEq] at h0
        subst h0
        obtain ⟨s, rfl, _, hs⟩ := DataW.trod_string hu h
        exact open_one (a := .s (.string s)) (by simp [HasT, hs]) (by simp [VR, gv]) rfl
      | slice e =>
        simp only at h0
        cases he : tyOf P n e with
        | none => rw [he] at h0; simp at h0
        | some l =>
          rw [he] at h0
          simp only at h0
          split at h0
          · rename_i hl
            simp only [Option.some.injEq] at h0
            subst h0
            rcases DataW.trod_slice hu h with ⟨rfl, _⟩ | ⟨a, len, cap, elems, rest, m, hm, rfl, _, hb, h1, h2, h3, h4, _, _⟩
            · refine open_one (a := .lst l.length true []) ?_ ?_ rfl
              · simp only [HasT]; exact ⟨true, [], rfl, fun _ => rfl, by simp, by simp⟩
              · simp only [VR]
                exact ⟨none, 0, rfl, by simp, by simp, rfl, fun _ => rfl, by simp, by simp⟩
            · have hm' : m = fuel := by omega
              subst hm'
              have cell : ∀ i, i < len → ∃ cs, Opened w l cs ∧ cs.length = P.cellsOf e ∧ ∀ j, j < P.cellsOf e → w.cell? ((a.add (i * P.cellsOf e)).add j) = cs[j]? := by
                intro i hi
                have hi' := h4 i hi
                rw [List.getElem?_eq_getElem (by omega), Option.bind_eq_some_iff] at hi'
                obtain ⟨cs, q1, q2⟩ := hi'
                have q3 := World.cells?_some q1
                exact ⟨cs, open_cells m n e l cs _ he q2, q3.2.1, q3.2.2⟩
              obtain ⟨b, off, spot⟩ := a
              have hsp : len ≠ 0 → spot = none := fun hn => by
                obtain ⟨cs, _, q2, q3⟩ := cell 0 (by omega)
                have q4 := q3 0 (by omega)
                rw [List.getElem?_eq_getElem (by omega)] at q4
                simpa [Addr.add] using World.cell?_spot q4
              by_cases hn : len = 0
              · subst hn
                refine open_one (a := .lst l.length false []) ?_ ?_ rfl
                · simp only [HasT]; exact ⟨false, [], rfl, fun _ => rfl, by simp, by simp⟩
                · simp only [VR]
                  exact ⟨_, cap, rfl, by simp, h2, rfl, by simp, by simp, by simp⟩
              · have hs := hsp hn
                subst hs
                obtain ⟨es, vs, k1, k2, k3, k4⟩ := open_es (w := w) (ts := l) (sz := P.cellsOf e) (b := b) hl.1 len off (fun i hi => by
                  obtain ⟨cs, q1, q2, q3⟩ := cell i hi
                  refine ⟨cs, q1, q2, fun j u hj => ?_⟩
                  have hjl := (List.getElem?_eq_some_iff.1 hj).1
                  have := q3 j (by omega)
                  rw [hj] at this
                  rw [← this, Go.WideShapes.add_plain, Go.WideShapes.add_plain])
                refine open_one (a := .lst l.length false es) ?_ ?_ rfl
                · simp only [HasT]; exact ⟨false, es, rfl, by simp, by omega, k2⟩
                · simp only [VR]
                  refine ⟨_, cap, by rw [k1], by omega, h2, rfl, by simp, fun e' he' => ⟨(k2 e' he').len, (k2 e' he').ok⟩, fun _ => ⟨b, off, vs, rfl, ?_, k3, k4⟩⟩
                  obtain ⟨cs, q1, q2, q3⟩ := cell 0 (by omega)
                  have q4 := q3 0 (by omega)
                  rw [List.getElem?_eq_getElem (by omega)] at q4
                  show b < w.heap.size
                  rw [Go.WideShapes.add_plain, Go.WideShapes.add_plain] at q4
                  exact cell_lt q4
          · simp at h0
      | struct fs =>
        simp only at h0
        cases he : tyFs (tyOf P n) P.cellsOf fs.toList 0 with
        | none => rw [he] at h0; simp at h0
        | some l =>
          rw [he] at h0
          simp only at h0
          split at h0
          · rename_i hl
            simp only [Option.some.injEq] at h0
            subst h0
            obtain ⟨xs, m, hm, _, h2, h3, h4⟩ := DataW.trod_struct hu h
            have hm' : m = fuel := by omega
            subst hm'
            have := open_fs (w := w) (P := P) (f := tyOf P n) (g := fun t cs' => ∃ y, DataW.trod enc P w base spare held m t cs' = some y) (cs := cs) (fun t ts cs' q1 ⟨y, q2⟩ => open_cells m n t ts cs' y q1 q2) fs.toList 0 l he (fun y hy => by
              obtain ⟨i, hi⟩ := List.getElem?_of_mem hy
              have hi2 : fs[i]? = some y := by simpa using hi
              have := h4 i y hi2
              have hlt : i < xs.length := by rw [h3]; exact (Array.getElem?_eq_some_iff.1 hi2).1
              rw [List.getElem?_eq_getElem hlt] at this
              exact ⟨_, this⟩)
            rw [List.drop_zero, hl, ← h2, List.take_length] at this
            exact this
          · simp at h0
      | array k e =>
        simp only at h0
        cases he : tyOf P n e with
        | none => rw [he] at h0; simp at h0
        | some l =>
          rw [he] at h0
          simp only at h0
          split at h0
          · rename_i hl
            simp only [Option.some.injEq] at h0
            subst h0
            obtain ⟨xs, m, hm, _, h2, h3, h4⟩ := DataW.trod_array hu h
            have hm' : m = fuel := by omega
            subst hm'
            have := open_arr (w := w) (ts := l) (sz := P.cellsOf e) (cs := cs) k 0 (fun i hi => by
              have h5 := h4 i hi
              rw [List.getElem?_eq_getElem (by omega)] at h5
              have h6 := open_cells m n e l _ _ he h5
              rwa [Nat.zero_add])
            rw [Nat.zero_mul, List.drop_zero, hl.2, ← h2, List.take_length] at this
            exact this
          · simp at h0
      | _ => simp at h0
theorem open_cell {t : TypeId} {v : Value} {d : DataW H} {ps : List MemPlace} {n : Nat} {ty : Ty} (hv : v.cells = #[v]) (ht : tyOf P n t = some [ty]) (hd : DataW.Trod enc P w base spare held t v d ps) : ∃ a, HasT ty a ∧ VR (mu0 w) [] a v := by
  obtain ⟨fuel, hf⟩ := hd
  rw [hv] at hf
  obtain ⟨asl, h1, h2, _⟩ := open_cells fuel n t [ty] _ _ ht hf
  simp only [HasTs] at h1
  obtain ⟨a, as', rfl, h1, rfl⟩ := h1
  simp only [VRs] at h2
  obtain ⟨v', vs', h3, h4, _⟩ := h2
  simp at h3
  exact ⟨a, h1, by rw [h3.1]; exact h4⟩
end
theorem has_list {α : Type} {ts : List Ty} {f : α → List AV} (hf : ∀ cs, HasTs ts cs → ∃ x, cs = f x) {a : AV} (h : HasT (.sl ts) a) : ∃ (l : List α) (b : Bool), a = .lst ts.length (b && l.isEmpty) (l.map f) := by
  simp only [HasT] at h
  obtain ⟨nil, es, rfl, hn, hm, he⟩ := h
  have : ∃ l : List α, es = l.map f := by
    clear hn hm
    induction es with
    | nil => exact ⟨[], rfl⟩
    | cons e es ih =>
      obtain ⟨x, hx⟩ := hf e (he e (by simp))
      obtain ⟨l, hl⟩ := ih (fun e' h' => he e' (by simp [h']))
      exact ⟨x :: l, by simp [hx, hl]⟩
  obtain ⟨l, rfl⟩ := this
  refine ⟨l, nil, ?_⟩
  cases nil with
  | false => rfl
  | true =>
    have : l = [] := by simpa using hn rfl
    subst this; rfl
end Go.AM


namespace Go.AM
open Go.Proofs
set_option linter.unusedVariables false
set_option linter.unusedSimpArgs false
set_option linter.constructorNameAsVariable false
set_option maxRecDepth 20000
abbrev NL := Bool × List Leg
abbrev encN (p : NL) : List AV := [.lst 5 p.1 (p.2.map encL)]
section
variable {β : Type} {P : Program} {T : Tab} {D : DTab} {N : Nat} {K : AV → Hp → Option β}
theorem IndexFunc_Leg_L2 {x0 : Hp → Option β} {xr : AV → Hp → Option β} {l : List NL} {b : Bool} {fv : AV} {h : Hp} {p : NL → Bool} (hl : l.length < 4611686018427387904) (hp : ∀ x ∈ l, ∀ k : AV → Hp → Option β, callVK T fv [.lst 5 x.1 (x.2.map encL)] h k = k (B (p x)) h) :
    ∀ (n i : Nat), i ≤ l.length → l.length < i + n → f_slices_IndexFunc_Leg_L2 P T D N x0 xr n (.lst 1 b (l.map encN)) fv (I l.length) (I i) h = match (l.drop i).findIdx? p with | some j => xr (I ((i + j : Nat) : Int)) h | none => x0 h := by
  intro n
  induction n with
  | zero => intro i h1 h2; omega
  | succ n ih =>
    intro i h1 h2
    show f_slices_IndexFunc_Leg_b2 P T D N (f_slices_IndexFunc_Leg_L2 P T D N x0 xr n) x0 xr _ _ _ _ h = _
    unfold f_slices_IndexFunc_Leg_b2
    rcases Nat.lt_or_ge i l.length with hi | hi
    · have hx : l[i]? = some l[i] := List.getElem?_eq_getElem hi
      have hlt : ((i : Int) < (l.length : Int)) := by omega
      have hw : IntKind.i64.wrap ((i : Int) + 1) = ((i + 1 : Nat) : Int) := by rw [wrap64 (by omega) (by omega)]; omega
      have hpx := hp l[i] (List.getElem_mem hi)
      rw [List.drop_eq_getElem_cons hi, List.findIdx?_cons]
      simp [hlt, hx, hw, encN] at hpx ⊢
      rw [hpx]
      cases hc : p l[i] with
      | true => simp
      | false =>
        have h3 := ih (i + 1) hi (by omega)
        rw [show ((i : Int) + 1) = ((i + 1 : Nat) : Int) by omega]
        simp only [Bool.false_eq_true, if_false]
        refine h3.trans ?_
        cases (List.drop (i + 1) l).findIdx? p with
        | none => rfl
        | some j =>
          show xr (I ((i + 1 + j : Nat) : Int)) h = xr (I ((i + (j + 1) : Nat) : Int)) h
          rw [show i + 1 + j = i + (j + 1) by omega]
    · have : i = l.length := by omega
      subst this
      simp
theorem IndexFunc_Leg_K {l : List NL} {b : Bool} {fv : AV} {h : Hp} {p : NL → Bool} {K : AV → Hp → Option β} (hl : l.length < N) (hN : N < 4611686018427387904) (hp : ∀ x ∈ l, ∀ k : AV → Hp → Option β, callVK T fv [.lst 5 x.1 (x.2.map encL)] h k = k (B (p x)) h) :
    f_slices_IndexFunc_Leg P T D N K (.lst 1 b (l.map encN)) fv h = K (I (match l.findIdx? p with | some j => (j : Int) | none => -1)) h := by
  unfold f_slices_IndexFunc_Leg
  simp only [lenK_lst, List.length_map]
  have := IndexFunc_Leg_L2 (P := P) (D := D) (N := N) (b := b) (x0 := fun h => f_slices_IndexFunc_Leg_j1 P T D N K h) (xr := fun a h => K a h) (by omega) hp N 0 (Nat.zero_le _) (by omega)
  simp only [List.drop_zero] at this
  refine this.trans ?_
  cases l.findIdx? p with
  | none => rfl
  | some j => simp
end
theorem F_journey_Transit_1_val (l : List Leg) (b : Bool) (hl : l.length < 1000000) (h : Hp) : F_journey_Transit_1 [.lst 5 b (l.map encL)] h = some (B (!okS l), h) := F_journey_Transit_1_run rfl (by simp [f_journey_Transit_1, F_journey_right_val l b hl]) h
theorem F_Contains_right (ls : List NL) (hl : ls.length < 1000) (hb : ∀ p ∈ ls, p.2.length < 1000000) (b : Bool) (h : Hp) : F_slices_ContainsFunc_Leg__journey_Transit_1 [.lst 1 b (ls.map encN), .fn 39 []] h = some (B (ls.any fun p => !okS p.2), h) := by
  have e : ∀ h, F_slices_IndexFunc_Leg__journey_Transit_1 [.lst 1 b (ls.map encN), .fn 39 []] h = some (I (match ls.findIdx? (fun p => !okS p.2) with | some j => (j : Int) | none => -1), h) :=
    F_slices_IndexFunc_Leg__journey_Transit_1_run rfl (by
      simp only [nrm, nrmC]
      rw [IndexFunc_Leg_K (p := fun p => !okS p.2) (by have := NN_ge; omega) NN_lt (fun x hx k => by simp [F_journey_Transit_1_val x.2 x.1 (hb x hx)])]
      rfl)
  refine F_slices_ContainsFunc_Leg__journey_Transit_1_run rfl ?_ h
  simp only [nrm, nrmC, f_slices_ContainsFunc_Leg, t_slices_ContainsFunc_Leg__journey_Transit_1_78, callK_F, e]
  have : (ls.any fun p => !okS p.2) = (ls.findIdx? (fun p => !okS p.2)).isSome := by rw [List.findIdx?_isSome]
  rw [this]
  cases ls.findIdx? (fun p => !okS p.2) <;> simp
def sumT (day : Int) : List NL → Int
  | [] => 0
  | p :: ls => (atL p.2 day).tra + sumT day ls
theorem tra_bd {l : List Leg} (h : okS l = true) (day : Int) : 0 ≤ (atL l day).tra ∧ (atL l day).tra ≤ 10737418240000 := by
  obtain ⟨s1, s2, s3, s4, s5, s6, s7, s8⟩ := at_inv h day
  omega
theorem Transit_L2 {β : Type} {N : Nat} {D : DTab} {x0 : AV → Hp → Option β} (ls : List NL) (b : Bool) (day : Int) (hl : ls.length < 1000) (hb : ∀ p ∈ ls, p.2.length < 1000000) (hok : ∀ p ∈ ls, okS p.2 = true) (h : Hp) : ∀ (n : Nat) (pre post : List NL) (acc : Int), ls = pre ++ post → post.length < n → 0 ≤ acc ∧ acc ≤ 10737418240000 * pre.length →
    f_journey_Transit_L2 Tryz.prog t_journey_Transit D N x0 n (I day) (I acc) (.lst 1 b (ls.map encN)) (I ls.length) (I pre.length) h = x0 (I (acc + sumT day post)) h := by
  intro n
  induction n with
  | zero => intro pre post acc _ h2; omega
  | succ n ih =>
    intro pre post acc hc hn ha
    show f_journey_Transit_b2 Tryz.prog t_journey_Transit D N (f_journey_Transit_L2 Tryz.prog t_journey_Transit D N x0 n) x0 _ _ _ _ _ h = _
    cases post with
    | nil =>
      have : ls = pre := by simpa using hc
      subst this
      simp [f_journey_Transit_b2, sumT]
    | cons c post =>
      have hi : pre.length < ls.length := by rw [hc]; simp
      have hci : ls[pre.length]? = some c := by rw [hc]; simp
      have hcm : c ∈ ls := by rw [hc]; simp
      have hlt : ((pre.length : Int) < (ls.length : Int)) := by omega
      have hw : IntKind.i64.wrap ((pre.length : Int) + 1) = (((pre ++ [c]).length : Nat) : Int) := by rw [wrap64 (by omega) (by omega)]; simp
      have ic : ∀ k : Go.AM.K β, iaK 1 (.lst 1 b (ls.map encN)) (I pre.length) k = k (.ep (encN c) 0) := fun k => iaK_at pre.length rfl hci k
      have fa := F_journey_at_val c.2 c.1 day (hok c hcm) (hb c hcm)
      have tb := tra_bd (hok c hcm) day
      have w1 : IntKind.i64.wrap (acc + (atL c.2 day).tra) = acc + (atL c.2 day).tra := wrap64 (by omega) (by omega)
      have step := ih (pre ++ [c]) post (acc + (atL c.2 day).tra) (by simpa using hc) (by simpa using hn) (by simp; omega)
      rw [sumT, ← Int.add_assoc, ← step]
      simp only [f_journey_Transit_b2, arithK_lss, hlt, decide_true, condK_bool, if_true, ic]
      have ldc : ∀ k : Go.AM.K β, ldK 1 false (.ep (encN c) 0) h k = k (.lst 5 c.1 (c.2.map encL)) := fun k => by simp
      have f4 : ∀ k : Go.AM.K β, fldK 1 false 4 (.agg (encJ (atL c.2 day))) k = k (I (atL c.2 day).tra) := fun k => rfl
      rw [ldc, t_journey_Transit_40, callK_F, fa]
      simp only [f4, arithK_add, w1, hw]
def transS (ls : List NL) (day : Int) : Int × Int :=
  if 16 < ls.length then (0, 8) else if (ls.any fun p => !okS p.2) = true then (0, 1) else if win day 0 100000 = false then (0, 2) else (sumT day ls, 0)
theorem Transit_run (ls : List NL) (b : Bool) (day : Int) (hl : ls.length < 1000) (hb : ∀ p ∈ ls, p.2.length < 1000000) (st : Bool) : f_journey_Transit Tryz.prog t_journey_Transit d_journey_Transit NN (fun v g => cvt st g v) (.lst 1 b (ls.map encN)) (I day) [] = some (.tup [I (transS ls day).1, I (transS ls day).2]) := by
  unfold transS
  have fc := F_Contains_right ls hl hb b
  have ln : ∀ k : Go.AM.K AV, lenK (.lst 1 b (ls.map encN)) k = k (I ls.length) := fun k => by simp
  by_cases h1 : 16 < ls.length
  · have h1' : (16 : Int) < (ls.length : Int) := by omega
    rw [if_pos h1]
    simp only [f_journey_Transit, ln]
    simp [h1']
  · have h1' : ¬ (16 : Int) < (ls.length : Int) := by omega
    rw [if_neg h1]
    cases h2 : (ls.any fun p => !okS p.2) with
    | true =>
      rw [h2] at fc
      simp only [f_journey_Transit, ln]
      generalize ls.map encN = L at *
      simp [h1', fc]
    | false =>
      rw [h2] at fc
      have hok : ∀ p ∈ ls, okS p.2 = true := by simpa using h2
      cases h3 : win day 0 100000
      · simp only [f_journey_Transit, ln]
        generalize ls.map encN = L at *
        simp [h1', fc, F_journey_in_val, h3]
      · have L := Transit_L2 (N := NN) (D := d_journey_Transit) (x0 := fun w17_6 h => f_journey_Transit_j1 Tryz.prog t_journey_Transit d_journey_Transit NN (fun v g => cvt st g v) w17_6 h) ls b day hl hb hok [] NN [] ls 0 rfl (by have := NN_ge; omega) (by simp)
        simp only [f_journey_Transit, ln]
        generalize ls.map encN = LL at *
        simp [h1', fc, F_journey_in_val, h3]
        refine L.trans ?_
        simp [f_journey_Transit_j1]
end Go.AM


namespace Go.AM
open Go.Proofs
set_option linter.unusedVariables false
set_option linter.unusedSimpArgs false
set_option linter.constructorNameAsVariable false
set_option maxRecDepth 20000
section
variable {β : Type} {P : Program} {T : Tab} {D : DTab} {N : Nat} {K : AV → Hp → Option β}
abbrev SL {α : Type} (sz : Nat) (f : α → List AV) (b : Bool) (l : List α) : AV := .lst sz (b && l.isEmpty) (l.map f)
theorem F_slices_Clone_Leg_val (l : List Leg) (b : Bool) (hl : l.length < 1000000) (h : Hp) : F_slices_Clone_Leg [SL 5 encL b l] h = some (SL 5 encL b l, h) := by
  refine (F_slices_Clone_Leg_run (v := if b && l.isEmpty then nilS else SL 5 encL b l) rfl ?_ h).trans ?_
  · by_cases hb : (b && l.isEmpty) = true
    · simp [f_slices_Clone_Leg, hb]
    · have hb' : (b && l.isEmpty) = false := by simpa using hb
      have hle : l.length * 40 ≤ 140737488355328 := by omega
      have h2 : ((l.map encL).all fun e => e.length == 5) = true := by simp [encL]
      have h3 : okE false (l.map encL) = true := okE_map (by intro x; simp [encL])
      simp [f_slices_Clone_Leg, hb', bsE, fillS, appE, readSl, hle, h2, ap]
      rw [cvt_whole rfl (by simp) (by simp) h3, SL, hb']
  · by_cases hb : (b && l.isEmpty) = true
    · obtain ⟨rfl, hl0⟩ := Bool.and_eq_true_iff.1 hb
      have : l = [] := by simpa using hl0
      subst this
      rfl
    · rw [if_neg hb]
      rfl
end
abbrev exL : List Leg := [⟨10, 1, 1, 2, 1000⟩, ⟨12, 2, 5, 0, 0⟩, ⟨15, 3, 0, 0, 0⟩, ⟨16, 4, 0, 3, 0⟩, ⟨20, 7, 3, 0, 950⟩]
theorem F_law45_example_val (h : Hp) : F_law45_example [] h = some (.lst 5 false (exL.map encL), h) := by
  refine (F_law45_example_run (v := .lst 5 false (exL.map encL)) rfl ?_ h).trans rfl
  simp [f_law45_example, buildK, fillA, bsE, fillS, encL]
  try rfl
abbrev exT : List Allow := [⟨0, 9, 1, 1000⟩]
theorem F_law45_table_val (h : Hp) : F_law45_table [] h = some (.lst 4 false (exT.map encA), h) := by
  refine (F_law45_table_run (v := .lst 4 false (exT.map encA)) rfl ?_ h).trans rfl
  simp [f_law45_table, buildK, fillA, bsE, fillS, encA]
  try rfl
theorem ex_ok : okS exL = true := by decide
theorem days_L (T : Tab) (D : DTab) (N n : Nat) : f_journey_Days_L4 Tryz.prog T D N (fun w52_0 w52_7 w52_8 w52_9 h => f_journey_Days_j3 Tryz.prog T D N (fun v g => cvt false g v) w52_0 w52_7 w52_8 w52_9 h) (n + 6) (.lst 5 false (exL.map encL)) (I 100) (I 100) (I 0) (I (-1)) (.lst 5 false (exL.map encL)) (I 5) (I 0) [] = some (.tup [I 10, I 3, I 0]) := by kernel_rfl
theorem F_days_ex (h : Hp) : F_journey_Days [.lst 5 false (exL.map encL), I 100] h = some (.tup [I 10, I 3, I 0], h) := by
  refine F_journey_Days_run rfl ?_ h
  have fr := F_journey_right_val exL false (by decide)
  rw [ex_ok] at fr
  obtain ⟨n, hn⟩ : ∃ n, NN = n + 6 := ⟨NN - 6, by have := NN_ge; omega⟩
  refine Eq.trans ?_ (days_L t_journey_Days d_journey_Days NN n)
  rw [← hn]
  have w : win 100 0 100000 = true := rfl
  simp [encL] at fr
  have i0 : ∀ k : Go.AM.K AV, iaK 5 (.lst 5 false [[I 10, I 1, I 1, I 2, I 1000], [I 12, I 2, I 5, I 0, I 0], [I 15, I 3, I 0, I 0, I 0], [I 16, I 4, I 0, I 3, I 0], [I 20, I 7, I 3, I 0, I 950]]) (I 0) k = k (.ep [I 10, I 1, I 1, I 2, I 1000] 0) := fun k => rfl
  simp [f_journey_Days, fr, F_journey_in_val, w, encL, i0]
theorem msgs_L (T : Tab) (D : DTab) (N n : Nat) : ∃ ms : List (List AV), ms.length = 4 ∧ f_journey_Messages_L2 Tryz.prog T D N (fun w92_6 h => f_journey_Messages_j1 Tryz.prog T D N (fun v g => cvt false g v) w92_6 h) (n + 6) (I 7) nilS (I 0) (.lst 5 false (exL.map encL)) (I 5) (I 0) [] = some (.tup [.lst 7 false ms, I 0]) :=
  ⟨[[I 7, I 1, I 0, I 10, I 1, I 2, I 1000], [I 7, I 2, I 1, I 16, I 0, I 3, I 0], [I 7, I 3, I 0, I 20, I 0, I 0, I 950], [I 7, I 5, I 0, I 20, I 0, I 0, I 0]], rfl, by kernel_rfl⟩
theorem F_msgs_ex (h : Hp) : ∃ ms : List (List AV), ms.length = 4 ∧ ∀ h, F_journey_Messages [.lst 5 false (exL.map encL), I 7] h = some (.tup [.lst 7 false ms, I 0], h) := by
  have fr := F_journey_right_val exL false (by decide)
  rw [ex_ok] at fr
  obtain ⟨n, hn⟩ : ∃ n, NN = n + 6 := ⟨NN - 6, by have := NN_ge; omega⟩
  obtain ⟨ms, hm, e⟩ := msgs_L t_journey_Messages d_journey_Messages NN n
  refine ⟨ms, hm, fun h => ?_⟩
  refine (F_journey_Messages_run (v := .tup [.lst 7 false ms, I 0]) rfl ?_ h).trans rfl
  refine Eq.trans ?_ e
  rw [← hn]
  have w : win 7 1 1073741824 = true := rfl
  simp [encL] at fr
  simp [f_journey_Messages, fr, F_journey_in_val, w, encL]
theorem exT_rate (d : Int) (h0 : 0 ≤ d) (h31 : d < 31) : rateOn exT 9 d = 1000 := by
  have hm : Cal.Is d 1900 1 (d - Cal.dn 1900 1 + 1) := by
    have e1 : Cal.dn 1900 1 = 0 := by decide
    have e2 : Cal.len 1900 1 = 31 := by decide
    exact ⟨by decide, by decide, by omega, by omega⟩
  have hv : versionL exT d = some 0 := by
    unfold versionL upto
    rw [List.takeWhile_cons_of_pos (by simpa using h0)]
    rfl
  unfold rateOn
  rw [hv]
  show rateAt exT 0 9 (Cal.monthOf d) = 1000
  rw [hm.month_eq h0]
  rfl
theorem ex_claim : claimS exL exT = (⟨10, 0, 40, 0⟩, 0) := by
  have hs : sumA exT 9 10 20 = 10000 := by
    have := sumN_const (rateOn exT 9) 1000 10 10 (fun e h1 h2 => exT_rate e (by omega) (by omega))
    unfold sumA
    exact this
  have ha : allowedS exT 9 1000 10 20 = (10, 0) := by
    unfold allowedS
    rw [show rightA exT = true by decide, hs]
    rfl
  unfold claimS
  rw [show okS exL = true by decide, show rightA exT = true by decide]
  have hr : runS exL = (⟨1000, 0, 50, 950, 0, 1, 3, false, true⟩, -1, 0) := by decide
  rw [hr]
  show (lossL 1000 950 (allowedS exT 9 1000 10 20).1 0, 0) = _
  rw [ha]
  rfl
theorem ex_trans (h : Hp) (id : Nat) (hid : h[id]? = some (.arr 1 [[.lst 5 false (exL.map encL)]] true false)) : F_journey_Transit [.sl 1 id 0 1 1 true, I 15] h = some (.tup [I 1000, I 0], h) := by
  refine (F_journey_Transit_own (a0 := .lst 1 false ([((false, exL) : NL)].map encN)) (a1 := I 15) (by simp [cvts, cvt, cvtE, cvtCs, cvtC, cvt1, hid, okE, plain]) (fun st => Transit_run [((false, exL) : NL)] false 15 (by simp) (by simp) st)).trans ?_
  have : transS [((false, exL) : NL)] 15 = (1000, 0) := by decide
  rw [this]
theorem F_law45_awake_val (h : Hp) : F_law45_awake [] h = some (B true, h) := by
  refine F_law45_awake_run rfl ?_ h
  have fe := F_law45_example_val
  have ft := F_law45_table_val
  have r1 := F_journey_Run_val exL false (by decide)
  have hr : runS exL = (⟨1000, 0, 50, 950, 0, 1, 3, false, true⟩, -1, 0) := by decide
  rw [hr] at r1
  have r2 := ex_trans
  have r3 := F_days_ex
  have r4 := F_journey_Claim_val exL exT false false (by decide)
  rw [ex_claim] at r4
  obtain ⟨ms, hm, r5⟩ := F_msgs_ex []
  simp only [tupR, encJ] at r1
  simp only [encO] at r4
  generalize exL.map encL = L at *
  generalize exT.map encA = LT at *
  simp [f_law45_awake, fe, ft, r1, r2, r3, r4, r5, boxE, stE, ap, bsE, fillS, buildK, fillA, hm, show IntKind.i64.wrap 0 = 0 from by kernel_rfl]
end Go.AM


namespace Go.AM
open Go.Proofs
set_option linter.unusedVariables false
set_option linter.unusedSimpArgs false
set_option linter.constructorNameAsVariable false
set_option maxRecDepth 20000
theorem has_Leg {cs : List AV} (h : HasTs [.int .i64, .int .i64, .int .i64, .int .i64, .int .i64] cs) : ∃ p : Leg, cs = encL p := by
  simp only [HasTs, HasT] at h
  obtain ⟨_, _, rfl, ⟨a, rfl, _⟩, _, _, rfl, ⟨b, rfl, _⟩, _, _, rfl, ⟨c, rfl, _⟩, _, _, rfl, ⟨d, rfl, _⟩, _, _, rfl, ⟨e, rfl, _⟩, rfl⟩ := h
  exact ⟨⟨a, b, c, d, e⟩, rfl⟩
theorem has_Legs {a : AV} (h : HasT (.sl [.int .i64, .int .i64, .int .i64, .int .i64, .int .i64]) a) : ∃ (l : List Leg) (b : Bool), a = SL 5 encL b l := has_list (fun _ h => has_Leg h) h
end Go.AM


namespace Go.AM
open Go.Proofs
set_option linter.unusedVariables false
set_option linter.unusedSimpArgs false
set_option linter.constructorNameAsVariable false
set_option maxRecDepth 20000
section
end
end Go.AM


namespace Go.AM
open Go.Proofs
set_option linter.unusedVariables false
set_option linter.unusedSimpArgs false
set_option linter.constructorNameAsVariable false
set_option maxRecDepth 20000
end Go.AM


namespace Go.AM
set_option linter.unusedVariables false
set_option linter.unusedSimpArgs false
section
variable {β : Type}
def Grm {α : Type} (sz : Nat) (f : α → List AV) (h : Hp) (v : AV) (l : List α) : Prop := ∃ k b, v = .sl sz k 0 l.length l.length b ∧ h[k]? = some (.arr sz (l.map f) true false) ∧ (b = true → l = [])
theorem Grm.keep {α : Type} {sz : Nat} {f : α → List AV} {h h' : Hp} {v : AV} {l : List α} (O : Grm sz f h v l) (hk : ∀ k o, idOf v = some k → h[k]? = some o → h'[k]? = some o) : Grm sz f h' v l := by
  obtain ⟨k, b, rfl, h2, h3⟩ := O
  exact ⟨k, b, rfl, hk k _ rfl h2, h3⟩
theorem Grm.app {α : Type} {sz : Nat} {f : α → List AV} {h : Hp} {v : AV} {l : List α} (O : Grm sz f h v l) (x : List AObj) : Grm sz f (h ++ x) v l := O.keep fun k o _ hk => get_app hk
theorem Grm.lt {α : Type} {sz : Nat} {f : α → List AV} {h : Hp} {v : AV} {l : List α} (O : Grm sz f h v l) : ∃ k, idOf v = some k ∧ k < h.length := by
  obtain ⟨k, b, rfl, h2, h3⟩ := O
  exact ⟨k, rfl, (List.getElem?_eq_some_iff.1 h2).1⟩
theorem Grm.cvt {α : Type} {sz : Nat} {f : α → List AV} {h : Hp} {v : AV} {l : List α} (O : Grm sz f h v l) (hf : ∀ x st, (f x).all (fun c => bif st then isS c else plain c) = true) (st : Bool) : Go.AM.cvt st h v = some (.lst sz false (l.map f)) := by
  obtain ⟨k, b, rfl, h2, h3⟩ := O
  exact cvt_whole h2 (by simp) (by simp) (okE_map fun x => hf x st)
theorem Grm.len {α : Type} {sz : Nat} {f : α → List AV} {h : Hp} {v : AV} {l : List α} (O : Grm sz f h v l) (k : Go.AM.K β) : lenK v k = k (I l.length) := by
  obtain ⟨j, b, rfl, h2, h3⟩ := O
  simp
end
end Go.AM


namespace Go.AM
structure Msg where
  mv : Int
  kind : Int
  num : Int
  day : Int
  frm : Int
  to : Int
  alc : Int
deriving DecidableEq
def encM (m : Msg) : List AV := [I m.mv, I m.kind, I m.num, I m.day, I m.frm, I m.to, I m.alc]
structure Docu where
  mv : Int
  stage : Int
  frm : Int
  to : Int
  sent : Int
  got : Int
  chg : Int
deriving DecidableEq
def encDo (d : Docu) : List AV := [I d.mv, I d.stage, I d.frm, I d.to, I d.sent, I d.got, I d.chg]
section
variable {β : Type}
theorem effK_put {r : R} {v : AV} {id : Nat} {o : AObj} {ft : List Nat} {h : Hp} (hr : r = some (v, ⟨[(id, o)], [], ft⟩)) (k : AV → Hp → Option β) : effK r h k = k v (h.set id o) := by subst hr; simp [effK, ap]
theorem effD_put {r : R} {v : AV} {id : Nat} {o : AObj} {ft : List Nat} {h : Hp} (hr : r = some (v, ⟨[(id, o)], [], ft⟩)) (k : AV → Hp → Ent → Option β) : effD r h k = k v (h.set id o) (ft, [id]) := by subst hr; simp [effD, ap, wrOf]
theorem ld7_0_0 {a b c d e f g : AV} {t : Hp} {w n : Bool} (k : K β) : ldK 1 false (.ptr 0 0 0 1) (.arr 7 [[a, b, c, d, e, f, g]] w n :: t) k = k a := rfl
theorem es7_0_0 {a b c d e f g : AV} {x : Int} {t : Hp} {n : Bool} (k : AV → Hp → Option β) : effK (stE 1 (.ptr 0 0 0 1) (.s (.int .i64 x)) (.arr 7 [[a, b, c, d, e, f, g]] true n :: t)) (.arr 7 [[a, b, c, d, e, f, g]] true n :: t) k = k .u (.arr 7 [[(.s (.int .i64 x)), b, c, d, e, f, g]] true n :: t) := effK_put rfl k
theorem ed7_0_0 {a b c d e f g : AV} {x : Int} {t : Hp} {n : Bool} (k : AV → Hp → Ent → Option β) : effD (stE 1 (.ptr 0 0 0 1) (.s (.int .i64 x)) (.arr 7 [[a, b, c, d, e, f, g]] true n :: t)) (.arr 7 [[a, b, c, d, e, f, g]] true n :: t) k = k .u (.arr 7 [[(.s (.int .i64 x)), b, c, d, e, f, g]] true n :: t) ([0], [0]) := effD_put rfl k
theorem ld7_0_1 {a b c d e f g : AV} {t : Hp} {w n : Bool} (k : K β) : ldK 1 false (.ptr 0 0 1 1) (.arr 7 [[a, b, c, d, e, f, g]] w n :: t) k = k b := rfl
theorem es7_0_1 {a b c d e f g : AV} {x : Int} {t : Hp} {n : Bool} (k : AV → Hp → Option β) : effK (stE 1 (.ptr 0 0 1 1) (.s (.int .i64 x)) (.arr 7 [[a, b, c, d, e, f, g]] true n :: t)) (.arr 7 [[a, b, c, d, e, f, g]] true n :: t) k = k .u (.arr 7 [[a, (.s (.int .i64 x)), c, d, e, f, g]] true n :: t) := effK_put rfl k
theorem ed7_0_1 {a b c d e f g : AV} {x : Int} {t : Hp} {n : Bool} (k : AV → Hp → Ent → Option β) : effD (stE 1 (.ptr 0 0 1 1) (.s (.int .i64 x)) (.arr 7 [[a, b, c, d, e, f, g]] true n :: t)) (.arr 7 [[a, b, c, d, e, f, g]] true n :: t) k = k .u (.arr 7 [[a, (.s (.int .i64 x)), c, d, e, f, g]] true n :: t) ([0], [0]) := effD_put rfl k
theorem ld7_0_2 {a b c d e f g : AV} {t : Hp} {w n : Bool} (k : K β) : ldK 1 false (.ptr 0 0 2 1) (.arr 7 [[a, b, c, d, e, f, g]] w n :: t) k = k c := rfl
theorem es7_0_2 {a b c d e f g : AV} {x : Int} {t : Hp} {n : Bool} (k : AV → Hp → Option β) : effK (stE 1 (.ptr 0 0 2 1) (.s (.int .i64 x)) (.arr 7 [[a, b, c, d, e, f, g]] true n :: t)) (.arr 7 [[a, b, c, d, e, f, g]] true n :: t) k = k .u (.arr 7 [[a, b, (.s (.int .i64 x)), d, e, f, g]] true n :: t) := effK_put rfl k
theorem ed7_0_2 {a b c d e f g : AV} {x : Int} {t : Hp} {n : Bool} (k : AV → Hp → Ent → Option β) : effD (stE 1 (.ptr 0 0 2 1) (.s (.int .i64 x)) (.arr 7 [[a, b, c, d, e, f, g]] true n :: t)) (.arr 7 [[a, b, c, d, e, f, g]] true n :: t) k = k .u (.arr 7 [[a, b, (.s (.int .i64 x)), d, e, f, g]] true n :: t) ([0], [0]) := effD_put rfl k
theorem ld7_0_3 {a b c d e f g : AV} {t : Hp} {w n : Bool} (k : K β) : ldK 1 false (.ptr 0 0 3 1) (.arr 7 [[a, b, c, d, e, f, g]] w n :: t) k = k d := rfl
theorem es7_0_3 {a b c d e f g : AV} {x : Int} {t : Hp} {n : Bool} (k : AV → Hp → Option β) : effK (stE 1 (.ptr 0 0 3 1) (.s (.int .i64 x)) (.arr 7 [[a, b, c, d, e, f, g]] true n :: t)) (.arr 7 [[a, b, c, d, e, f, g]] true n :: t) k = k .u (.arr 7 [[a, b, c, (.s (.int .i64 x)), e, f, g]] true n :: t) := effK_put rfl k
theorem ed7_0_3 {a b c d e f g : AV} {x : Int} {t : Hp} {n : Bool} (k : AV → Hp → Ent → Option β) : effD (stE 1 (.ptr 0 0 3 1) (.s (.int .i64 x)) (.arr 7 [[a, b, c, d, e, f, g]] true n :: t)) (.arr 7 [[a, b, c, d, e, f, g]] true n :: t) k = k .u (.arr 7 [[a, b, c, (.s (.int .i64 x)), e, f, g]] true n :: t) ([0], [0]) := effD_put rfl k
theorem ld7_0_4 {a b c d e f g : AV} {t : Hp} {w n : Bool} (k : K β) : ldK 1 false (.ptr 0 0 4 1) (.arr 7 [[a, b, c, d, e, f, g]] w n :: t) k = k e := rfl
theorem es7_0_4 {a b c d e f g : AV} {x : Int} {t : Hp} {n : Bool} (k : AV → Hp → Option β) : effK (stE 1 (.ptr 0 0 4 1) (.s (.int .i64 x)) (.arr 7 [[a, b, c, d, e, f, g]] true n :: t)) (.arr 7 [[a, b, c, d, e, f, g]] true n :: t) k = k .u (.arr 7 [[a, b, c, d, (.s (.int .i64 x)), f, g]] true n :: t) := effK_put rfl k
theorem ed7_0_4 {a b c d e f g : AV} {x : Int} {t : Hp} {n : Bool} (k : AV → Hp → Ent → Option β) : effD (stE 1 (.ptr 0 0 4 1) (.s (.int .i64 x)) (.arr 7 [[a, b, c, d, e, f, g]] true n :: t)) (.arr 7 [[a, b, c, d, e, f, g]] true n :: t) k = k .u (.arr 7 [[a, b, c, d, (.s (.int .i64 x)), f, g]] true n :: t) ([0], [0]) := effD_put rfl k
theorem ld7_0_5 {a b c d e f g : AV} {t : Hp} {w n : Bool} (k : K β) : ldK 1 false (.ptr 0 0 5 1) (.arr 7 [[a, b, c, d, e, f, g]] w n :: t) k = k f := rfl
theorem es7_0_5 {a b c d e f g : AV} {x : Int} {t : Hp} {n : Bool} (k : AV → Hp → Option β) : effK (stE 1 (.ptr 0 0 5 1) (.s (.int .i64 x)) (.arr 7 [[a, b, c, d, e, f, g]] true n :: t)) (.arr 7 [[a, b, c, d, e, f, g]] true n :: t) k = k .u (.arr 7 [[a, b, c, d, e, (.s (.int .i64 x)), g]] true n :: t) := effK_put rfl k
theorem ed7_0_5 {a b c d e f g : AV} {x : Int} {t : Hp} {n : Bool} (k : AV → Hp → Ent → Option β) : effD (stE 1 (.ptr 0 0 5 1) (.s (.int .i64 x)) (.arr 7 [[a, b, c, d, e, f, g]] true n :: t)) (.arr 7 [[a, b, c, d, e, f, g]] true n :: t) k = k .u (.arr 7 [[a, b, c, d, e, (.s (.int .i64 x)), g]] true n :: t) ([0], [0]) := effD_put rfl k
theorem ld7_0_6 {a b c d e f g : AV} {t : Hp} {w n : Bool} (k : K β) : ldK 1 false (.ptr 0 0 6 1) (.arr 7 [[a, b, c, d, e, f, g]] w n :: t) k = k g := rfl
theorem es7_0_6 {a b c d e f g : AV} {x : Int} {t : Hp} {n : Bool} (k : AV → Hp → Option β) : effK (stE 1 (.ptr 0 0 6 1) (.s (.int .i64 x)) (.arr 7 [[a, b, c, d, e, f, g]] true n :: t)) (.arr 7 [[a, b, c, d, e, f, g]] true n :: t) k = k .u (.arr 7 [[a, b, c, d, e, f, (.s (.int .i64 x))]] true n :: t) := effK_put rfl k
theorem ed7_0_6 {a b c d e f g : AV} {x : Int} {t : Hp} {n : Bool} (k : AV → Hp → Ent → Option β) : effD (stE 1 (.ptr 0 0 6 1) (.s (.int .i64 x)) (.arr 7 [[a, b, c, d, e, f, g]] true n :: t)) (.arr 7 [[a, b, c, d, e, f, g]] true n :: t) k = k .u (.arr 7 [[a, b, c, d, e, f, (.s (.int .i64 x))]] true n :: t) ([0], [0]) := effD_put rfl k
theorem lw7_0 {a b c d e f g : AV} {t : Hp} {w n : Bool} (k : K β) : ldK 7 true (.ptr 0 0 0 1) (.arr 7 [[a, b, c, d, e, f, g]] w n :: t) k = k (.agg [a, b, c, d, e, f, g]) := rfl
theorem ew7_0 {a b c d e f g : AV} {x0 x1 x2 x3 x4 x5 x6 : Int} {t : Hp} {n : Bool} (k : AV → Hp → Option β) : effK (stE 7 (.ptr 0 0 0 1) (.agg [(.s (.int .i64 x0)), (.s (.int .i64 x1)), (.s (.int .i64 x2)), (.s (.int .i64 x3)), (.s (.int .i64 x4)), (.s (.int .i64 x5)), (.s (.int .i64 x6))]) (.arr 7 [[a, b, c, d, e, f, g]] true n :: t)) (.arr 7 [[a, b, c, d, e, f, g]] true n :: t) k = k .u (.arr 7 [[(.s (.int .i64 x0)), (.s (.int .i64 x1)), (.s (.int .i64 x2)), (.s (.int .i64 x3)), (.s (.int .i64 x4)), (.s (.int .i64 x5)), (.s (.int .i64 x6))]] true n :: t) := effK_put rfl k
theorem bx7_0 {x0 x1 x2 x3 x4 x5 x6 : Int} (k : AV → Hp → Option β) : effK (boxE 7 (.agg [(.s (.int .i64 x0)), (.s (.int .i64 x1)), (.s (.int .i64 x2)), (.s (.int .i64 x3)), (.s (.int .i64 x4)), (.s (.int .i64 x5)), (.s (.int .i64 x6))]) ([] : Hp).length) [] k = k (.ptr 0 0 0 1) [.arr 7 [[(.s (.int .i64 x0)), (.s (.int .i64 x1)), (.s (.int .i64 x2)), (.s (.int .i64 x3)), (.s (.int .i64 x4)), (.s (.int .i64 x5)), (.s (.int .i64 x6))]] true false] := rfl
theorem ld7_1_0 {o0 : AObj} {a b c d e f g : AV} {t : Hp} {w n : Bool} (k : K β) : ldK 1 false (.ptr 1 0 0 1) (o0 :: .arr 7 [[a, b, c, d, e, f, g]] w n :: t) k = k a := rfl
theorem es7_1_0 {o0 : AObj} {a b c d e f g : AV} {x : Int} {t : Hp} {n : Bool} (k : AV → Hp → Option β) : effK (stE 1 (.ptr 1 0 0 1) (.s (.int .i64 x)) (o0 :: .arr 7 [[a, b, c, d, e, f, g]] true n :: t)) (o0 :: .arr 7 [[a, b, c, d, e, f, g]] true n :: t) k = k .u (o0 :: .arr 7 [[(.s (.int .i64 x)), b, c, d, e, f, g]] true n :: t) := effK_put rfl k
theorem ed7_1_0 {o0 : AObj} {a b c d e f g : AV} {x : Int} {t : Hp} {n : Bool} (k : AV → Hp → Ent → Option β) : effD (stE 1 (.ptr 1 0 0 1) (.s (.int .i64 x)) (o0 :: .arr 7 [[a, b, c, d, e, f, g]] true n :: t)) (o0 :: .arr 7 [[a, b, c, d, e, f, g]] true n :: t) k = k .u (o0 :: .arr 7 [[(.s (.int .i64 x)), b, c, d, e, f, g]] true n :: t) ([1], [1]) := effD_put rfl k
theorem ld7_1_1 {o0 : AObj} {a b c d e f g : AV} {t : Hp} {w n : Bool} (k : K β) : ldK 1 false (.ptr 1 0 1 1) (o0 :: .arr 7 [[a, b, c, d, e, f, g]] w n :: t) k = k b := rfl
theorem es7_1_1 {o0 : AObj} {a b c d e f g : AV} {x : Int} {t : Hp} {n : Bool} (k : AV → Hp → Option β) : effK (stE 1 (.ptr 1 0 1 1) (.s (.int .i64 x)) (o0 :: .arr 7 [[a, b, c, d, e, f, g]] true n :: t)) (o0 :: .arr 7 [[a, b, c, d, e, f, g]] true n :: t) k = k .u (o0 :: .arr 7 [[a, (.s (.int .i64 x)), c, d, e, f, g]] true n :: t) := effK_put rfl k
theorem ed7_1_1 {o0 : AObj} {a b c d e f g : AV} {x : Int} {t : Hp} {n : Bool} (k : AV → Hp → Ent → Option β) : effD (stE 1 (.ptr 1 0 1 1) (.s (.int .i64 x)) (o0 :: .arr 7 [[a, b, c, d, e, f, g]] true n :: t)) (o0 :: .arr 7 [[a, b, c, d, e, f, g]] true n :: t) k = k .u (o0 :: .arr 7 [[a, (.s (.int .i64 x)), c, d, e, f, g]] true n :: t) ([1], [1]) := effD_put rfl k
theorem ld7_1_2 {o0 : AObj} {a b c d e f g : AV} {t : Hp} {w n : Bool} (k : K β) : ldK 1 false (.ptr 1 0 2 1) (o0 :: .arr 7 [[a, b, c, d, e, f, g]] w n :: t) k = k c := rfl
theorem es7_1_2 {o0 : AObj} {a b c d e f g : AV} {x : Int} {t : Hp} {n : Bool} (k : AV → Hp → Option β) : effK (stE 1 (.ptr 1 0 2 1) (.s (.int .i64 x)) (o0 :: .arr 7 [[a, b, c, d, e, f, g]] true n :: t)) (o0 :: .arr 7 [[a, b, c, d, e, f, g]] true n :: t) k = k .u (o0 :: .arr 7 [[a, b, (.s (.int .i64 x)), d, e, f, g]] true n :: t) := effK_put rfl k
theorem ed7_1_2 {o0 : AObj} {a b c d e f g : AV} {x : Int} {t : Hp} {n : Bool} (k : AV → Hp → Ent → Option β) : effD (stE 1 (.ptr 1 0 2 1) (.s (.int .i64 x)) (o0 :: .arr 7 [[a, b, c, d, e, f, g]] true n :: t)) (o0 :: .arr 7 [[a, b, c, d, e, f, g]] true n :: t) k = k .u (o0 :: .arr 7 [[a, b, (.s (.int .i64 x)), d, e, f, g]] true n :: t) ([1], [1]) := effD_put rfl k
theorem ld7_1_3 {o0 : AObj} {a b c d e f g : AV} {t : Hp} {w n : Bool} (k : K β) : ldK 1 false (.ptr 1 0 3 1) (o0 :: .arr 7 [[a, b, c, d, e, f, g]] w n :: t) k = k d := rfl
theorem es7_1_3 {o0 : AObj} {a b c d e f g : AV} {x : Int} {t : Hp} {n : Bool} (k : AV → Hp → Option β) : effK (stE 1 (.ptr 1 0 3 1) (.s (.int .i64 x)) (o0 :: .arr 7 [[a, b, c, d, e, f, g]] true n :: t)) (o0 :: .arr 7 [[a, b, c, d, e, f, g]] true n :: t) k = k .u (o0 :: .arr 7 [[a, b, c, (.s (.int .i64 x)), e, f, g]] true n :: t) := effK_put rfl k
theorem ed7_1_3 {o0 : AObj} {a b c d e f g : AV} {x : Int} {t : Hp} {n : Bool} (k : AV → Hp → Ent → Option β) : effD (stE 1 (.ptr 1 0 3 1) (.s (.int .i64 x)) (o0 :: .arr 7 [[a, b, c, d, e, f, g]] true n :: t)) (o0 :: .arr 7 [[a, b, c, d, e, f, g]] true n :: t) k = k .u (o0 :: .arr 7 [[a, b, c, (.s (.int .i64 x)), e, f, g]] true n :: t) ([1], [1]) := effD_put rfl k
theorem ld7_1_4 {o0 : AObj} {a b c d e f g : AV} {t : Hp} {w n : Bool} (k : K β) : ldK 1 false (.ptr 1 0 4 1) (o0 :: .arr 7 [[a, b, c, d, e, f, g]] w n :: t) k = k e := rfl
theorem es7_1_4 {o0 : AObj} {a b c d e f g : AV} {x : Int} {t : Hp} {n : Bool} (k : AV → Hp → Option β) : effK (stE 1 (.ptr 1 0 4 1) (.s (.int .i64 x)) (o0 :: .arr 7 [[a, b, c, d, e, f, g]] true n :: t)) (o0 :: .arr 7 [[a, b, c, d, e, f, g]] true n :: t) k = k .u (o0 :: .arr 7 [[a, b, c, d, (.s (.int .i64 x)), f, g]] true n :: t) := effK_put rfl k
theorem ed7_1_4 {o0 : AObj} {a b c d e f g : AV} {x : Int} {t : Hp} {n : Bool} (k : AV → Hp → Ent → Option β) : effD (stE 1 (.ptr 1 0 4 1) (.s (.int .i64 x)) (o0 :: .arr 7 [[a, b, c, d, e, f, g]] true n :: t)) (o0 :: .arr 7 [[a, b, c, d, e, f, g]] true n :: t) k = k .u (o0 :: .arr 7 [[a, b, c, d, (.s (.int .i64 x)), f, g]] true n :: t) ([1], [1]) := effD_put rfl k
theorem ld7_1_5 {o0 : AObj} {a b c d e f g : AV} {t : Hp} {w n : Bool} (k : K β) : ldK 1 false (.ptr 1 0 5 1) (o0 :: .arr 7 [[a, b, c, d, e, f, g]] w n :: t) k = k f := rfl
theorem es7_1_5 {o0 : AObj} {a b c d e f g : AV} {x : Int} {t : Hp} {n : Bool} (k : AV → Hp → Option β) : effK (stE 1 (.ptr 1 0 5 1) (.s (.int .i64 x)) (o0 :: .arr 7 [[a, b, c, d, e, f, g]] true n :: t)) (o0 :: .arr 7 [[a, b, c, d, e, f, g]] true n :: t) k = k .u (o0 :: .arr 7 [[a, b, c, d, e, (.s (.int .i64 x)), g]] true n :: t) := effK_put rfl k
theorem ed7_1_5 {o0 : AObj} {a b c d e f g : AV} {x : Int} {t : Hp} {n : Bool} (k : AV → Hp → Ent → Option β) : effD (stE 1 (.ptr 1 0 5 1) (.s (.int .i64 x)) (o0 :: .arr 7 [[a, b, c, d, e, f, g]] true n :: t)) (o0 :: .arr 7 [[a, b, c, d, e, f, g]] true n :: t) k = k .u (o0 :: .arr 7 [[a, b, c, d, e, (.s (.int .i64 x)), g]] true n :: t) ([1], [1]) := effD_put rfl k
theorem ld7_1_6 {o0 : AObj} {a b c d e f g : AV} {t : Hp} {w n : Bool} (k : K β) : ldK 1 false (.ptr 1 0 6 1) (o0 :: .arr 7 [[a, b, c, d, e, f, g]] w n :: t) k = k g := rfl
theorem es7_1_6 {o0 : AObj} {a b c d e f g : AV} {x : Int} {t : Hp} {n : Bool} (k : AV → Hp → Option β) : effK (stE 1 (.ptr 1 0 6 1) (.s (.int .i64 x)) (o0 :: .arr 7 [[a, b, c, d, e, f, g]] true n :: t)) (o0 :: .arr 7 [[a, b, c, d, e, f, g]] true n :: t) k = k .u (o0 :: .arr 7 [[a, b, c, d, e, f, (.s (.int .i64 x))]] true n :: t) := effK_put rfl k
theorem ed7_1_6 {o0 : AObj} {a b c d e f g : AV} {x : Int} {t : Hp} {n : Bool} (k : AV → Hp → Ent → Option β) : effD (stE 1 (.ptr 1 0 6 1) (.s (.int .i64 x)) (o0 :: .arr 7 [[a, b, c, d, e, f, g]] true n :: t)) (o0 :: .arr 7 [[a, b, c, d, e, f, g]] true n :: t) k = k .u (o0 :: .arr 7 [[a, b, c, d, e, f, (.s (.int .i64 x))]] true n :: t) ([1], [1]) := effD_put rfl k
theorem lw7_1 {o0 : AObj} {a b c d e f g : AV} {t : Hp} {w n : Bool} (k : K β) : ldK 7 true (.ptr 1 0 0 1) (o0 :: .arr 7 [[a, b, c, d, e, f, g]] w n :: t) k = k (.agg [a, b, c, d, e, f, g]) := rfl
theorem ew7_1 {o0 : AObj} {a b c d e f g : AV} {x0 x1 x2 x3 x4 x5 x6 : Int} {t : Hp} {n : Bool} (k : AV → Hp → Option β) : effK (stE 7 (.ptr 1 0 0 1) (.agg [(.s (.int .i64 x0)), (.s (.int .i64 x1)), (.s (.int .i64 x2)), (.s (.int .i64 x3)), (.s (.int .i64 x4)), (.s (.int .i64 x5)), (.s (.int .i64 x6))]) (o0 :: .arr 7 [[a, b, c, d, e, f, g]] true n :: t)) (o0 :: .arr 7 [[a, b, c, d, e, f, g]] true n :: t) k = k .u (o0 :: .arr 7 [[(.s (.int .i64 x0)), (.s (.int .i64 x1)), (.s (.int .i64 x2)), (.s (.int .i64 x3)), (.s (.int .i64 x4)), (.s (.int .i64 x5)), (.s (.int .i64 x6))]] true n :: t) := effK_put rfl k
theorem bx7_1 {o0 : AObj} {x0 x1 x2 x3 x4 x5 x6 : Int} (k : AV → Hp → Option β) : effK (boxE 7 (.agg [(.s (.int .i64 x0)), (.s (.int .i64 x1)), (.s (.int .i64 x2)), (.s (.int .i64 x3)), (.s (.int .i64 x4)), (.s (.int .i64 x5)), (.s (.int .i64 x6))]) ([o0] : Hp).length) [o0] k = k (.ptr 1 0 0 1) [o0, .arr 7 [[(.s (.int .i64 x0)), (.s (.int .i64 x1)), (.s (.int .i64 x2)), (.s (.int .i64 x3)), (.s (.int .i64 x4)), (.s (.int .i64 x5)), (.s (.int .i64 x6))]] true false] := rfl
theorem ld7_2_0 {o0 : AObj} {o1 : AObj} {a b c d e f g : AV} {t : Hp} {w n : Bool} (k : K β) : ldK 1 false (.ptr 2 0 0 1) (o0 :: o1 :: .arr 7 [[a, b, c, d, e, f, g]] w n :: t) k = k a := rfl
theorem es7_2_0 {o0 : AObj} {o1 : AObj} {a b c d e f g : AV} {x : Int} {t : Hp} {n : Bool} (k : AV → Hp → Option β) : effK (stE 1 (.ptr 2 0 0 1) (.s (.int .i64 x)) (o0 :: o1 :: .arr 7 [[a, b, c, d, e, f, g]] true n :: t)) (o0 :: o1 :: .arr 7 [[a, b, c, d, e, f, g]] true n :: t) k = k .u (o0 :: o1 :: .arr 7 [[(.s (.int .i64 x)), b, c, d, e, f, g]] true n :: t) := effK_put rfl k
theorem ed7_2_0 {o0 : AObj} {o1 : AObj} {a b c d e f g : AV} {x : Int} {t : Hp} {n : Bool} (k : AV → Hp → Ent → Option β) : effD (stE 1 (.ptr 2 0 0 1) (.s (.int .i64 x)) (o0 :: o1 :: .arr 7 [[a, b, c, d, e, f, g]] true n :: t)) (o0 :: o1 :: .arr 7 [[a, b, c, d, e, f, g]] true n :: t) k = k .u (o0 :: o1 :: .arr 7 [[(.s (.int .i64 x)), b, c, d, e, f, g]] true n :: t) ([2], [2]) := effD_put rfl k
theorem ld7_2_1 {o0 : AObj} {o1 : AObj} {a b c d e f g : AV} {t : Hp} {w n : Bool} (k : K β) : ldK 1 false (.ptr 2 0 1 1) (o0 :: o1 :: .arr 7 [[a, b, c, d, e, f, g]] w n :: t) k = k b := rfl
theorem es7_2_1 {o0 : AObj} {o1 : AObj} {a b c d e f g : AV} {x : Int} {t : Hp} {n : Bool} (k : AV → Hp → Option β) : effK (stE 1 (.ptr 2 0 1 1) (.s (.int .i64 x)) (o0 :: o1 :: .arr 7 [[a, b, c, d, e, f, g]] true n :: t)) (o0 :: o1 :: .arr 7 [[a, b, c, d, e, f, g]] true n :: t) k = k .u (o0 :: o1 :: .arr 7 [[a, (.s (.int .i64 x)), c, d, e, f, g]] true n :: t) := effK_put rfl k
theorem ed7_2_1 {o0 : AObj} {o1 : AObj} {a b c d e f g : AV} {x : Int} {t : Hp} {n : Bool} (k : AV → Hp → Ent → Option β) : effD (stE 1 (.ptr 2 0 1 1) (.s (.int .i64 x)) (o0 :: o1 :: .arr 7 [[a, b, c, d, e, f, g]] true n :: t)) (o0 :: o1 :: .arr 7 [[a, b, c, d, e, f, g]] true n :: t) k = k .u (o0 :: o1 :: .arr 7 [[a, (.s (.int .i64 x)), c, d, e, f, g]] true n :: t) ([2], [2]) := effD_put rfl k
theorem ld7_2_2 {o0 : AObj} {o1 : AObj} {a b c d e f g : AV} {t : Hp} {w n : Bool} (k : K β) : ldK 1 false (.ptr 2 0 2 1) (o0 :: o1 :: .arr 7 [[a, b, c, d, e, f, g]] w n :: t) k = k c := rfl
theorem es7_2_2 {o0 : AObj} {o1 : AObj} {a b c d e f g : AV} {x : Int} {t : Hp} {n : Bool} (k : AV → Hp → Option β) : effK (stE 1 (.ptr 2 0 2 1) (.s (.int .i64 x)) (o0 :: o1 :: .arr 7 [[a, b, c, d, e, f, g]] true n :: t)) (o0 :: o1 :: .arr 7 [[a, b, c, d, e, f, g]] true n :: t) k = k .u (o0 :: o1 :: .arr 7 [[a, b, (.s (.int .i64 x)), d, e, f, g]] true n :: t) := effK_put rfl k
theorem ed7_2_2 {o0 : AObj} {o1 : AObj} {a b c d e f g : AV} {x : Int} {t : Hp} {n : Bool} (k : AV → Hp → Ent → Option β) : effD (stE 1 (.ptr 2 0 2 1) (.s (.int .i64 x)) (o0 :: o1 :: .arr 7 [[a, b, c, d, e, f, g]] true n :: t)) (o0 :: o1 :: .arr 7 [[a, b, c, d, e, f, g]] true n :: t) k = k .u (o0 :: o1 :: .arr 7 [[a, b, (.s (.int .i64 x)), d, e, f, g]] true n :: t) ([2], [2]) := effD_put rfl k
theorem ld7_2_3 {o0 : AObj} {o1 : AObj} {a b c d e f g : AV} {t : Hp} {w n : Bool} (k : K β) : ldK 1 false (.ptr 2 0 3 1) (o0 :: o1 :: .arr 7 [[a, b, c, d, e, f, g]] w n :: t) k = k d := rfl
theorem es7_2_3 {o0 : AObj} {o1 : AObj} {a b c d e f g : AV} {x : Int} {t : Hp} {n : Bool} (k : AV → Hp → Option β) : effK (stE 1 (.ptr 2 0 3 1) (.s (.int .i64 x)) (o0 :: o1 :: .arr 7 [[a, b, c, d, e, f, g]] true n :: t)) (o0 :: o1 :: .arr 7 [[a, b, c, d, e, f, g]] true n :: t) k = k .u (o0 :: o1 :: .arr 7 [[a, b, c, (.s (.int .i64 x)), e, f, g]] true n :: t) := effK_put rfl k
theorem ed7_2_3 {o0 : AObj} {o1 : AObj} {a b c d e f g : AV} {x : Int} {t : Hp} {n : Bool} (k : AV → Hp → Ent → Option β) : effD (stE 1 (.ptr 2 0 3 1) (.s (.int .i64 x)) (o0 :: o1 :: .arr 7 [[a, b, c, d, e, f, g]] true n :: t)) (o0 :: o1 :: .arr 7 [[a, b, c, d, e, f, g]] true n :: t) k = k .u (o0 :: o1 :: .arr 7 [[a, b, c, (.s (.int .i64 x)), e, f, g]] true n :: t) ([2], [2]) := effD_put rfl k
theorem ld7_2_4 {o0 : AObj} {o1 : AObj} {a b c d e f g : AV} {t : Hp} {w n : Bool} (k : K β) : ldK 1 false (.ptr 2 0 4 1) (o0 :: o1 :: .arr 7 [[a, b, c, d, e, f, g]] w n :: t) k = k e := rfl
theorem es7_2_4 {o0 : AObj} {o1 : AObj} {a b c d e f g : AV} {x : Int} {t : Hp} {n : Bool} (k : AV → Hp → Option β) : effK (stE 1 (.ptr 2 0 4 1) (.s (.int .i64 x)) (o0 :: o1 :: .arr 7 [[a, b, c, d, e, f, g]] true n :: t)) (o0 :: o1 :: .arr 7 [[a, b, c, d, e, f, g]] true n :: t) k = k .u (o0 :: o1 :: .arr 7 [[a, b, c, d, (.s (.int .i64 x)), f, g]] true n :: t) := effK_put rfl k
theorem ed7_2_4 {o0 : AObj} {o1 : AObj} {a b c d e f g : AV} {x : Int} {t : Hp} {n : Bool} (k : AV → Hp → Ent → Option β) : effD (stE 1 (.ptr 2 0 4 1) (.s (.int .i64 x)) (o0 :: o1 :: .arr 7 [[a, b, c, d, e, f, g]] true n :: t)) (o0 :: o1 :: .arr 7 [[a, b, c, d, e, f, g]] true n :: t) k = k .u (o0 :: o1 :: .arr 7 [[a, b, c, d, (.s (.int .i64 x)), f, g]] true n :: t) ([2], [2]) := effD_put rfl k
theorem ld7_2_5 {o0 : AObj} {o1 : AObj} {a b c d e f g : AV} {t : Hp} {w n : Bool} (k : K β) : ldK 1 false (.ptr 2 0 5 1) (o0 :: o1 :: .arr 7 [[a, b, c, d, e, f, g]] w n :: t) k = k f := rfl
theorem es7_2_5 {o0 : AObj} {o1 : AObj} {a b c d e f g : AV} {x : Int} {t : Hp} {n : Bool} (k : AV → Hp → Option β) : effK (stE 1 (.ptr 2 0 5 1) (.s (.int .i64 x)) (o0 :: o1 :: .arr 7 [[a, b, c, d, e, f, g]] true n :: t)) (o0 :: o1 :: .arr 7 [[a, b, c, d, e, f, g]] true n :: t) k = k .u (o0 :: o1 :: .arr 7 [[a, b, c, d, e, (.s (.int .i64 x)), g]] true n :: t) := effK_put rfl k
theorem ed7_2_5 {o0 : AObj} {o1 : AObj} {a b c d e f g : AV} {x : Int} {t : Hp} {n : Bool} (k : AV → Hp → Ent → Option β) : effD (stE 1 (.ptr 2 0 5 1) (.s (.int .i64 x)) (o0 :: o1 :: .arr 7 [[a, b, c, d, e, f, g]] true n :: t)) (o0 :: o1 :: .arr 7 [[a, b, c, d, e, f, g]] true n :: t) k = k .u (o0 :: o1 :: .arr 7 [[a, b, c, d, e, (.s (.int .i64 x)), g]] true n :: t) ([2], [2]) := effD_put rfl k
theorem ld7_2_6 {o0 : AObj} {o1 : AObj} {a b c d e f g : AV} {t : Hp} {w n : Bool} (k : K β) : ldK 1 false (.ptr 2 0 6 1) (o0 :: o1 :: .arr 7 [[a, b, c, d, e, f, g]] w n :: t) k = k g := rfl
theorem es7_2_6 {o0 : AObj} {o1 : AObj} {a b c d e f g : AV} {x : Int} {t : Hp} {n : Bool} (k : AV → Hp → Option β) : effK (stE 1 (.ptr 2 0 6 1) (.s (.int .i64 x)) (o0 :: o1 :: .arr 7 [[a, b, c, d, e, f, g]] true n :: t)) (o0 :: o1 :: .arr 7 [[a, b, c, d, e, f, g]] true n :: t) k = k .u (o0 :: o1 :: .arr 7 [[a, b, c, d, e, f, (.s (.int .i64 x))]] true n :: t) := effK_put rfl k
theorem ed7_2_6 {o0 : AObj} {o1 : AObj} {a b c d e f g : AV} {x : Int} {t : Hp} {n : Bool} (k : AV → Hp → Ent → Option β) : effD (stE 1 (.ptr 2 0 6 1) (.s (.int .i64 x)) (o0 :: o1 :: .arr 7 [[a, b, c, d, e, f, g]] true n :: t)) (o0 :: o1 :: .arr 7 [[a, b, c, d, e, f, g]] true n :: t) k = k .u (o0 :: o1 :: .arr 7 [[a, b, c, d, e, f, (.s (.int .i64 x))]] true n :: t) ([2], [2]) := effD_put rfl k
theorem lw7_2 {o0 : AObj} {o1 : AObj} {a b c d e f g : AV} {t : Hp} {w n : Bool} (k : K β) : ldK 7 true (.ptr 2 0 0 1) (o0 :: o1 :: .arr 7 [[a, b, c, d, e, f, g]] w n :: t) k = k (.agg [a, b, c, d, e, f, g]) := rfl
theorem ew7_2 {o0 : AObj} {o1 : AObj} {a b c d e f g : AV} {x0 x1 x2 x3 x4 x5 x6 : Int} {t : Hp} {n : Bool} (k : AV → Hp → Option β) : effK (stE 7 (.ptr 2 0 0 1) (.agg [(.s (.int .i64 x0)), (.s (.int .i64 x1)), (.s (.int .i64 x2)), (.s (.int .i64 x3)), (.s (.int .i64 x4)), (.s (.int .i64 x5)), (.s (.int .i64 x6))]) (o0 :: o1 :: .arr 7 [[a, b, c, d, e, f, g]] true n :: t)) (o0 :: o1 :: .arr 7 [[a, b, c, d, e, f, g]] true n :: t) k = k .u (o0 :: o1 :: .arr 7 [[(.s (.int .i64 x0)), (.s (.int .i64 x1)), (.s (.int .i64 x2)), (.s (.int .i64 x3)), (.s (.int .i64 x4)), (.s (.int .i64 x5)), (.s (.int .i64 x6))]] true n :: t) := effK_put rfl k
theorem bx7_2 {o0 : AObj} {o1 : AObj} {x0 x1 x2 x3 x4 x5 x6 : Int} (k : AV → Hp → Option β) : effK (boxE 7 (.agg [(.s (.int .i64 x0)), (.s (.int .i64 x1)), (.s (.int .i64 x2)), (.s (.int .i64 x3)), (.s (.int .i64 x4)), (.s (.int .i64 x5)), (.s (.int .i64 x6))]) ([o0, o1] : Hp).length) [o0, o1] k = k (.ptr 2 0 0 1) [o0, o1, .arr 7 [[(.s (.int .i64 x0)), (.s (.int .i64 x1)), (.s (.int .i64 x2)), (.s (.int .i64 x3)), (.s (.int .i64 x4)), (.s (.int .i64 x5)), (.s (.int .i64 x6))]] true false] := rfl
theorem ld7_3_0 {o0 : AObj} {o1 : AObj} {o2 : AObj} {a b c d e f g : AV} {t : Hp} {w n : Bool} (k : K β) : ldK 1 false (.ptr 3 0 0 1) (o0 :: o1 :: o2 :: .arr 7 [[a, b, c, d, e, f, g]] w n :: t) k = k a := rfl
theorem es7_3_0 {o0 : AObj} {o1 : AObj} {o2 : AObj} {a b c d e f g : AV} {x : Int} {t : Hp} {n : Bool} (k : AV → Hp → Option β) : effK (stE 1 (.ptr 3 0 0 1) (.s (.int .i64 x)) (o0 :: o1 :: o2 :: .arr 7 [[a, b, c, d, e, f, g]] true n :: t)) (o0 :: o1 :: o2 :: .arr 7 [[a, b, c, d, e, f, g]] true n :: t) k = k .u (o0 :: o1 :: o2 :: .arr 7 [[(.s (.int .i64 x)), b, c, d, e, f, g]] true n :: t) := effK_put rfl k
theorem ed7_3_0 {o0 : AObj} {o1 : AObj} {o2 : AObj} {a b c d e f g : AV} {x : Int} {t : Hp} {n : Bool} (k : AV → Hp → Ent → Option β) : effD (stE 1 (.ptr 3 0 0 1) (.s (.int .i64 x)) (o0 :: o1 :: o2 :: .arr 7 [[a, b, c, d, e, f, g]] true n :: t)) (o0 :: o1 :: o2 :: .arr 7 [[a, b, c, d, e, f, g]] true n :: t) k = k .u (o0 :: o1 :: o2 :: .arr 7 [[(.s (.int .i64 x)), b, c, d, e, f, g]] true n :: t) ([3], [3]) := effD_put rfl k
theorem ld7_3_1 {o0 : AObj} {o1 : AObj} {o2 : AObj} {a b c d e f g : AV} {t : Hp} {w n : Bool} (k : K β) : ldK 1 false (.ptr 3 0 1 1) (o0 :: o1 :: o2 :: .arr 7 [[a, b, c, d, e, f, g]] w n :: t) k = k b := rfl
theorem es7_3_1 {o0 : AObj} {o1 : AObj} {o2 : AObj} {a b c d e f g : AV} {x : Int} {t : Hp} {n : Bool} (k : AV → Hp → Option β) : effK (stE 1 (.ptr 3 0 1 1) (.s (.int .i64 x)) (o0 :: o1 :: o2 :: .arr 7 [[a, b, c, d, e, f, g]] true n :: t)) (o0 :: o1 :: o2 :: .arr 7 [[a, b, c, d, e, f, g]] true n :: t) k = k .u (o0 :: o1 :: o2 :: .arr 7 [[a, (.s (.int .i64 x)), c, d, e, f, g]] true n :: t) := effK_put rfl k
theorem ed7_3_1 {o0 : AObj} {o1 : AObj} {o2 : AObj} {a b c d e f g : AV} {x : Int} {t : Hp} {n : Bool} (k : AV → Hp → Ent → Option β) : effD (stE 1 (.ptr 3 0 1 1) (.s (.int .i64 x)) (o0 :: o1 :: o2 :: .arr 7 [[a, b, c, d, e, f, g]] true n :: t)) (o0 :: o1 :: o2 :: .arr 7 [[a, b, c, d, e, f, g]] true n :: t) k = k .u (o0 :: o1 :: o2 :: .arr 7 [[a, (.s (.int .i64 x)), c, d, e, f, g]] true n :: t) ([3], [3]) := effD_put rfl k
theorem ld7_3_2 {o0 : AObj} {o1 : AObj} {o2 : AObj} {a b c d e f g : AV} {t : Hp} {w n : Bool} (k : K β) : ldK 1 false (.ptr 3 0 2 1) (o0 :: o1 :: o2 :: .arr 7 [[a, b, c, d, e, f, g]] w n :: t) k = k c := rfl
theorem es7_3_2 {o0 : AObj} {o1 : AObj} {o2 : AObj} {a b c d e f g : AV} {x : Int} {t : Hp} {n : Bool} (k : AV → Hp → Option β) : effK (stE 1 (.ptr 3 0 2 1) (.s (.int .i64 x)) (o0 :: o1 :: o2 :: .arr 7 [[a, b, c, d, e, f, g]] true n :: t)) (o0 :: o1 :: o2 :: .arr 7 [[a, b, c, d, e, f, g]] true n :: t) k = k .u (o0 :: o1 :: o2 :: .arr 7 [[a, b, (.s (.int .i64 x)), d, e, f, g]] true n :: t) := effK_put rfl k
theorem ed7_3_2 {o0 : AObj} {o1 : AObj} {o2 : AObj} {a b c d e f g : AV} {x : Int} {t : Hp} {n : Bool} (k : AV → Hp → Ent → Option β) : effD (stE 1 (.ptr 3 0 2 1) (.s (.int .i64 x)) (o0 :: o1 :: o2 :: .arr 7 [[a, b, c, d, e, f, g]] true n :: t)) (o0 :: o1 :: o2 :: .arr 7 [[a, b, c, d, e, f, g]] true n :: t) k = k .u (o0 :: o1 :: o2 :: .arr 7 [[a, b, (.s (.int .i64 x)), d, e, f, g]] true n :: t) ([3], [3]) := effD_put rfl k
theorem ld7_3_3 {o0 : AObj} {o1 : AObj} {o2 : AObj} {a b c d e f g : AV} {t : Hp} {w n : Bool} (k : K β) : ldK 1 false (.ptr 3 0 3 1) (o0 :: o1 :: o2 :: .arr 7 [[a, b, c, d, e, f, g]] w n :: t) k = k d := rfl
theorem es7_3_3 {o0 : AObj} {o1 : AObj} {o2 : AObj} {a b c d e f g : AV} {x : Int} {t : Hp} {n : Bool} (k : AV → Hp → Option β) : effK (stE 1 (.ptr 3 0 3 1) (.s (.int .i64 x)) (o0 :: o1 :: o2 :: .arr 7 [[a, b, c, d, e, f, g]] true n :: t)) (o0 :: o1 :: o2 :: .arr 7 [[a, b, c, d, e, f, g]] true n :: t) k = k .u (o0 :: o1 :: o2 :: .arr 7 [[a, b, c, (.s (.int .i64 x)), e, f, g]] true n :: t) := effK_put rfl k
theorem ed7_3_3 {o0 : AObj} {o1 : AObj} {o2 : AObj} {a b c d e f g : AV} {x : Int} {t : Hp} {n : Bool} (k : AV → Hp → Ent → Option β) : effD (stE 1 (.ptr 3 0 3 1) (.s (.int .i64 x)) (o0 :: o1 :: o2 :: .arr 7 [[a, b, c, d, e, f, g]] true n :: t)) (o0 :: o1 :: o2 :: .arr 7 [[a, b, c, d, e, f, g]] true n :: t) k = k .u (o0 :: o1 :: o2 :: .arr 7 [[a, b, c, (.s (.int .i64 x)), e, f, g]] true n :: t) ([3], [3]) := effD_put rfl k
theorem ld7_3_4 {o0 : AObj} {o1 : AObj} {o2 : AObj} {a b c d e f g : AV} {t : Hp} {w n : Bool} (k : K β) : ldK 1 false (.ptr 3 0 4 1) (o0 :: o1 :: o2 :: .arr 7 [[a, b, c, d, e, f, g]] w n :: t) k = k e := rfl
theorem es7_3_4 {o0 : AObj} {o1 : AObj} {o2 : AObj} {a b c d e f g : AV} {x : Int} {t : Hp} {n : Bool} (k : AV → Hp → Option β) : effK (stE 1 (.ptr 3 0 4 1) (.s (.int .i64 x)) (o0 :: o1 :: o2 :: .arr 7 [[a, b, c, d, e, f, g]] true n :: t)) (o0 :: o1 :: o2 :: .arr 7 [[a, b, c, d, e, f, g]] true n :: t) k = k .u (o0 :: o1 :: o2 :: .arr 7 [[a, b, c, d, (.s (.int .i64 x)), f, g]] true n :: t) := effK_put rfl k
theorem ed7_3_4 {o0 : AObj} {o1 : AObj} {o2 : AObj} {a b c d e f g : AV} {x : Int} {t : Hp} {n : Bool} (k : AV → Hp → Ent → Option β) : effD (stE 1 (.ptr 3 0 4 1) (.s (.int .i64 x)) (o0 :: o1 :: o2 :: .arr 7 [[a, b, c, d, e, f, g]] true n :: t)) (o0 :: o1 :: o2 :: .arr 7 [[a, b, c, d, e, f, g]] true n :: t) k = k .u (o0 :: o1 :: o2 :: .arr 7 [[a, b, c, d, (.s (.int .i64 x)), f, g]] true n :: t) ([3], [3]) := effD_put rfl k
theorem ld7_3_5 {o0 : AObj} {o1 : AObj} {o2 : AObj} {a b c d e f g : AV} {t : Hp} {w n : Bool} (k : K β) : ldK 1 false (.ptr 3 0 5 1) (o0 :: o1 :: o2 :: .arr 7 [[a, b, c, d, e, f, g]] w n :: t) k = k f := rfl
theorem es7_3_5 {o0 : AObj} {o1 : AObj} {o2 : AObj} {a b c d e f g : AV} {x : Int} {t : Hp} {n : Bool} (k : AV → Hp → Option β) : effK (stE 1 (.ptr 3 0 5 1) (.s (.int .i64 x)) (o0 :: o1 :: o2 :: .arr 7 [[a, b, c, d, e, f, g]] true n :: t)) (o0 :: o1 :: o2 :: .arr 7 [[a, b, c, d, e, f, g]] true n :: t) k = k .u (o0 :: o1 :: o2 :: .arr 7 [[a, b, c, d, e, (.s (.int .i64 x)), g]] true n :: t) := effK_put rfl k
theorem ed7_3_5 {o0 : AObj} {o1 : AObj} {o2 : AObj} {a b c d e f g : AV} {x : Int} {t : Hp} {n : Bool} (k : AV → Hp → Ent → Option β) : effD (stE 1 (.ptr 3 0 5 1) (.s (.int .i64 x)) (o0 :: o1 :: o2 :: .arr 7 [[a, b, c, d, e, f, g]] true n :: t)) (o0 :: o1 :: o2 :: .arr 7 [[a, b, c, d, e, f, g]] true n :: t) k = k .u (o0 :: o1 :: o2 :: .arr 7 [[a, b, c, d, e, (.s (.int .i64 x)), g]] true n :: t) ([3], [3]) := effD_put rfl k
theorem ld7_3_6 {o0 : AObj} {o1 : AObj} {o2 : AObj} {a b c d e f g : AV} {t : Hp} {w n : Bool} (k : K β) : ldK 1 false (.ptr 3 0 6 1) (o0 :: o1 :: o2 :: .arr 7 [[a, b, c, d, e, f, g]] w n :: t) k = k g := rfl
theorem es7_3_6 {o0 : AObj} {o1 : AObj} {o2 : AObj} {a b c d e f g : AV} {x : Int} {t : Hp} {n : Bool} (k : AV → Hp → Option β) : effK (stE 1 (.ptr 3 0 6 1) (.s (.int .i64 x)) (o0 :: o1 :: o2 :: .arr 7 [[a, b, c, d, e, f, g]] true n :: t)) (o0 :: o1 :: o2 :: .arr 7 [[a, b, c, d, e, f, g]] true n :: t) k = k .u (o0 :: o1 :: o2 :: .arr 7 [[a, b, c, d, e, f, (.s (.int .i64 x))]] true n :: t) := effK_put rfl k
theorem ed7_3_6 {o0 : AObj} {o1 : AObj} {o2 : AObj} {a b c d e f g : AV} {x : Int} {t : Hp} {n : Bool} (k : AV → Hp → Ent → Option β) : effD (stE 1 (.ptr 3 0 6 1) (.s (.int .i64 x)) (o0 :: o1 :: o2 :: .arr 7 [[a, b, c, d, e, f, g]] true n :: t)) (o0 :: o1 :: o2 :: .arr 7 [[a, b, c, d, e, f, g]] true n :: t) k = k .u (o0 :: o1 :: o2 :: .arr 7 [[a, b, c, d, e, f, (.s (.int .i64 x))]] true n :: t) ([3], [3]) := effD_put rfl k
theorem lw7_3 {o0 : AObj} {o1 : AObj} {o2 : AObj} {a b c d e f g : AV} {t : Hp} {w n : Bool} (k : K β) : ldK 7 true (.ptr 3 0 0 1) (o0 :: o1 :: o2 :: .arr 7 [[a, b, c, d, e, f, g]] w n :: t) k = k (.agg [a, b, c, d, e, f, g]) := rfl
theorem ew7_3 {o0 : AObj} {o1 : AObj} {o2 : AObj} {a b c d e f g : AV} {x0 x1 x2 x3 x4 x5 x6 : Int} {t : Hp} {n : Bool} (k : AV → Hp → Option β) : effK (stE 7 (.ptr 3 0 0 1) (.agg [(.s (.int .i64 x0)), (.s (.int .i64 x1)), (.s (.int .i64 x2)), (.s (.int .i64 x3)), (.s (.int .i64 x4)), (.s (.int .i64 x5)), (.s (.int .i64 x6))]) (o0 :: o1 :: o2 :: .arr 7 [[a, b, c, d, e, f, g]] true n :: t)) (o0 :: o1 :: o2 :: .arr 7 [[a, b, c, d, e, f, g]] true n :: t) k = k .u (o0 :: o1 :: o2 :: .arr 7 [[(.s (.int .i64 x0)), (.s (.int .i64 x1)), (.s (.int .i64 x2)), (.s (.int .i64 x3)), (.s (.int .i64 x4)), (.s (.int .i64 x5)), (.s (.int .i64 x6))]] true n :: t) := effK_put rfl k
theorem bx7_3 {o0 : AObj} {o1 : AObj} {o2 : AObj} {x0 x1 x2 x3 x4 x5 x6 : Int} (k : AV → Hp → Option β) : effK (boxE 7 (.agg [(.s (.int .i64 x0)), (.s (.int .i64 x1)), (.s (.int .i64 x2)), (.s (.int .i64 x3)), (.s (.int .i64 x4)), (.s (.int .i64 x5)), (.s (.int .i64 x6))]) ([o0, o1, o2] : Hp).length) [o0, o1, o2] k = k (.ptr 3 0 0 1) [o0, o1, o2, .arr 7 [[(.s (.int .i64 x0)), (.s (.int .i64 x1)), (.s (.int .i64 x2)), (.s (.int .i64 x3)), (.s (.int .i64 x4)), (.s (.int .i64 x5)), (.s (.int .i64 x6))]] true false] := rfl
end
abbrev SLm (b : Bool) (l : List Msg) : AV := .lst 7 (b && l.isEmpty) (l.map encM)
end Go.AM


namespace Go.AM
set_option linter.unusedVariables false
variable {β : Type}
theorem arithK_cg {op : BinOp} {x : AV} {y : AV} {k : K β} {x' : AV} {y' : AV} (e_x : x = x') (e_y : y = y') : arithK op x y k = arithK op x' y' k := by subst e_x e_y; rfl
theorem eqK_cg {P : Program} {neq : Bool} {ty : TypeId} {x : AV} {y : AV} {h : Hp} {k : K β} {x' : AV} {y' : AV} {h' : Hp} (e_x : x = x') (e_y : y = y') (e_h : h = h') : eqK P neq ty x y h k = eqK P neq ty x' y' h' k := by subst e_x e_y e_h; rfl
theorem notK_cg {x : AV} {k : K β} {x' : AV} (e_x : x = x') : notK x k = notK x' k := by subst e_x; rfl
theorem convK_cg {P : Program} {a : TypeId} {b : TypeId} {x : AV} {k : K β} {x' : AV} (e_x : x = x') : convK P a b x k = convK P a b x' k := by subst e_x; rfl
theorem pickK_cg {c : AV} {a : AV} {b : AV} {k : K β} {c' : AV} {a' : AV} {b' : AV} (e_c : c = c') (e_a : a = a') (e_b : b = b') : pickK c a b k = pickK c' a' b' k := by subst e_c e_a e_b; rfl
theorem buildK_cg {z : List AV} {parts : List (Option (Nat × Nat) × AV)} {k : K β} {z' : List AV} (e_z : z = z') : buildK z parts k = buildK z' parts k := by subst e_z; rfl
theorem ldK_cg {n : Nat} {agg : Bool} {p : AV} {h : Hp} {k : K β} {p' : AV} {h' : Hp} (e_p : p = p') (e_h : h = h') : ldK n agg p h k = ldK n agg p' h' k := by subst e_p e_h; rfl
theorem nilK_cg {x : AV} {k : K β} {x' : AV} (e_x : x = x') : nilK x k = nilK x' k := by subst e_x; rfl
theorem sliceK_cg {n : Nat} {x : AV} {lo : Option AV} {hi : Option AV} {mx : Option AV} {k : K β} {x' : AV} (e_x : x = x') : sliceK n x lo hi mx k = sliceK n x' lo hi mx k := by subst e_x; rfl
theorem faK_cg {off : Nat} {p : AV} {k : K β} {p' : AV} (e_p : p = p') : faK off p k = faK off p' k := by subst e_p; rfl
theorem fldK_cg {n : Nat} {agg : Bool} {off : Nat} {x : AV} {k : K β} {x' : AV} (e_x : x = x') : fldK n agg off x k = fldK n agg off x' k := by subst e_x; rfl
theorem iaK_cg {n : Nat} {x : AV} {i : AV} {k : K β} {x' : AV} {i' : AV} (e_x : x = x') (e_i : i = i') : iaK n x i k = iaK n x' i' k := by subst e_x e_i; rfl
theorem iaA_cg {n : Nat} {len : Nat} {x : AV} {i : AV} {k : K β} {x' : AV} {i' : AV} (e_x : x = x') (e_i : i = i') : iaA n len x i k = iaA n len x' i' k := by subst e_x e_i; rfl
theorem lookK_cg {P : Program} {kt : TypeId} {z : AV} {ok : Bool} {m : AV} {kk : AV} {h : Hp} {k : K β} {z' : AV} {m' : AV} {kk' : AV} {h' : Hp} (e_z : z = z') (e_m : m = m') (e_kk : kk = kk') (e_h : h = h') : lookK P kt z ok m kk h k = lookK P kt z' ok m' kk' h' k := by subst e_z e_m e_kk e_h; rfl
theorem capK_cg {x : AV} {k : K β} {x' : AV} (e_x : x = x') : capK x k = capK x' k := by subst e_x; rfl
theorem exK_cg {x : AV} {i : Nat} {k : K β} {x' : AV} (e_x : x = x') : exK x i k = exK x' i k := by subst e_x; rfl
theorem lenK_cg {x : AV} {k : K β} {x' : AV} (e_x : x = x') : lenK x k = lenK x' k := by subst e_x; rfl
theorem minK_cg {x : AV} {y : AV} {k : K β} {x' : AV} {y' : AV} (e_x : x = x') (e_y : y = y') : minK x y k = minK x' y' k := by subst e_x e_y; rfl
theorem maxK_cg {x : AV} {y : AV} {k : K β} {x' : AV} {y' : AV} (e_x : x = x') (e_y : y = y') : maxK x y k = maxK x' y' k := by subst e_x e_y; rfl
theorem effK_cg {r : R} {h : Hp} {k : AV → Hp → Option β} {r' : R} {h' : Hp} (e_r : r = r') (e_h : h = h') : effK r h k = effK r' h' k := by subst e_r e_h; rfl
theorem callK_cg {F : Option Fun} {args : List AV} {h : Hp} {k : AV → Hp → Option β} {F' : Option Fun} {args' : List AV} {h' : Hp} (e_F : F = F') (e_args : args = args') (e_h : h = h') : callK F args h k = callK F' args' h' k := by subst e_F e_args e_h; rfl
theorem callVK_cg {T : Tab} {f : AV} {args : List AV} {h : Hp} {k : AV → Hp → Option β} {T' : Tab} {f' : AV} {args' : List AV} {h' : Hp} (e_T : T = T') (e_f : f = f') (e_args : args = args') (e_h : h = h') : callVK T f args h k = callVK T' f' args' h' k := by subst e_T e_f e_args e_h; rfl
theorem effD_cg {r : R} {h : Hp} {k : AV → Hp → Ent → Option β} {r' : R} {h' : Hp} (e_r : r = r') (e_h : h = h') : effD r h k = effD r' h' k := by subst e_r e_h; rfl
theorem gopD_cg {g : Option Bool} {h : Hp} {run : (AV → Hp → Ent → Option β) → Option β} {k : AV → Hp → Ent → Option β} {g' : Option Bool} {h' : Hp} (e_g : g = g') (e_h : h = h') : gopD g h run k = gopD g' h' run k := by subst e_g e_h; rfl
theorem grpK_cg {want : Bool} {x : AV} {h : Hp} {run : (AV → Hp → Option β) → Option β} {k : AV → Hp → Option β} {x' : AV} {h' : Hp} {run' : (AV → Hp → Option β) → Option β} (e_x : x = x') (e_h : h = h') (e_run : ∀ K, run K = run' K) : grpK want x h run k = grpK want x' h' run' k := by
  have : run = run' := funext e_run
  subst e_x e_h this; rfl
theorem condK_cg {c : AV} {a : Option β} {b : Option β} {c' : AV} (e_c : c = c') : condK c a b = condK c' a b := by subst e_c; rfl
theorem cond_cg {α : Type} {c c' : Bool} {a b : α} (e : c = c') : cond c a b = cond c' a b := by subst e; rfl
end Go.AM


namespace Go.AM
open Go.Proofs
set_option linter.unusedVariables false
set_option linter.unusedSimpArgs false
set_option linter.constructorNameAsVariable false
set_option maxRecDepth 20000
def msgL (mv c : Int) : List Leg → List Msg
  | [] => []
  | x :: l => if x.kind = 1 then ⟨mv, 1, 0, x.day, x.place, x.to, x.alc⟩ :: msgL mv c l else if x.kind = 4 then ⟨mv, 2, c + 1, x.day, 0, x.to, 0⟩ :: msgL mv (c + 1) l else if x.kind = 7 then ⟨mv, 3, 0, x.day, 0, 0, x.alc⟩ :: ⟨mv, 5, 0, x.day, 0, 0, 0⟩ :: msgL mv c l else msgL mv c l
def msgS (l : List Leg) (mv : Int) : List Msg × Int := if okS l = false then ([], 1) else if win mv 1 1073741824 = false then ([], 2) else if 64 < (msgL mv 0 l).length then ([], 8) else (msgL mv 0 l, 0)
theorem msgL_len (mv : Int) : ∀ (l : List Leg) (c : Int), (msgL mv c l).length ≤ 2 * l.length
  | [], _ => by simp [msgL]
  | x :: l, c => by
    have h1 := msgL_len mv l c
    have h2 := msgL_len mv l (c + 1)
    rw [msgL]
    split
    · simp; omega
    · split
      · simp; omega
      · split
        · simp; omega
        · simp; omega
attribute [local congr] arithK_cg eqK_cg notK_cg convK_cg pickK_cg buildK_cg ldK_cg nilK_cg sliceK_cg faK_cg fldK_cg iaK_cg iaA_cg lookK_cg capK_cg exK_cg lenK_cg minK_cg maxK_cg effK_cg callK_cg callVK_cg effD_cg gopD_cg grpK_cg condK_cg cond_cg
section
variable {β : Type}
set_option maxHeartbeats 8000000 in
theorem Messages_L2 {P : Program} {T : Tab} {D : DTab} {N : Nat} {x1 : AV → Hp → Option β} (l : List Leg) (b : Bool) (mv : Int) (hl : l.length < 1000) :
    ∀ (n : Nat) (pre post : List Leg) (v : AV) (c : Int) (h : Hp) (out : List Msg), l = pre ++ post → post.length < n → Gro 7 encM h v out → 0 ≤ c ∧ c ≤ pre.length → out.length ≤ 2 * pre.length →
    ∃ v' h', f_journey_Messages_L2 Tryz.prog T D N x1 n (I mv) v (I c) (.lst 5 b (l.map encL)) (I l.length) (I pre.length) h = x1 v' h' ∧ Gro 7 encM h' v' (out ++ msgL mv c post) := by
  intro n
  induction n with
  | zero => intro pre post v c h out _ h2; omega
  | succ n ih =>
    intro pre post v c h out hc hn G hcb ho
    show ∃ v' h', f_journey_Messages_b2 Tryz.prog T D N (f_journey_Messages_L2 Tryz.prog T D N x1 n) x1 _ _ _ _ _ _ h = _ ∧ _
    cases post with
    | nil =>
      have : l = pre := by simpa using hc
      subst this
      exact ⟨v, h, by simp [f_journey_Messages_b2], by simpa [msgL] using G⟩
    | cons x post =>
      have hi : pre.length < l.length := by rw [hc]; simp
      have hci : l[pre.length]? = some x := by rw [hc]; simp
      have hlt : ((pre.length : Int) < (l.length : Int)) := by omega
      have hw : IntKind.i64.wrap ((pre.length : Int) + 1) = (((pre ++ [x]).length : Nat) : Int) := by rw [wrap64 (by omega) (by omega)]; simp
      have wc : IntKind.i64.wrap (c + 1) = c + 1 := wrap64 (by omega) (by omega)
      have ic : ∀ k : Go.AM.K β, iaK 5 (.lst 5 b (l.map encL)) (I pre.length) k = k (.ep (encL x) 0) := fun k => iaK_at pre.length rfl hci k
      have step := fun v c h out => ih (pre ++ [x]) post v c h out (by simpa using hc) (by simpa using hn)
      have hpl : ((pre ++ [x]).length : Int) = (pre.length : Int) + 1 := by simp
      have hpl2 : (pre ++ [x]).length = pre.length + 1 := by simp
      simp only [f_journey_Messages_b2, arithK_lss, hlt, decide_true, condK_bool, if_true, ic]
      rw [msgL]
      clear hc ih hci ic
      obtain ⟨dy, kd, pl, to, al⟩ := x
      dsimp only
      simp only [encL] at *
      generalize l.map encL = L at *
      by_cases q1 : kd = 1
      · subst q1
        obtain ⟨v', h3, k1, k2, k3, k4, k5⟩ := (G.app [.arr 5 [[I dy, I 1, I pl, I to, I al]] true false, .arr 7 [[I mv, I 1, I 0, I dy, I pl, I to, I al]] true false, .arr 7 [[I mv, I 1, I 0, I dy, I pl, I to, I al]] true false]).snoc β (by_ := 56) (m := h.length + 2) (z := (⟨mv, 1, 0, dy, pl, to, al⟩ : Msg)) (b := true) (by simp [encM]) (fun e => by have := G.lt e; omega) (by intro y _; rfl) (by omega)
        obtain ⟨a1, a2, a3, a4⟩ := step v' c h3 (out ++ [⟨mv, 1, 0, dy, pl, to, al⟩]) k2 (by omega) (by rw [List.length_append]; simp; omega)
        refine ⟨a1, a2, ?_, by simpa using a4⟩
        rw [← a3]
        simp at k1
        simp (maxSteps := 10000000) [boxE, stE, ap, buildK, fillA, disjAll, disj2, idsOf, wrOf, bsE, fillS, f_journey_Messages_j6, f_journey_Messages_j5, f_journey_Messages_j4, f_journey_Messages_j3, hw, k1]
      · by_cases q4 : kd = 4
        · subst q4
          obtain ⟨v', h3, k1, k2, k3, k4, k5⟩ := (G.app [.arr 5 [[I dy, I 4, I pl, I to, I al]] true false, .arr 7 [[I mv, I 2, I (c + 1), I dy, I 0, I to, I 0]] true false, .arr 7 [[I mv, I 2, I (c + 1), I dy, I 0, I to, I 0]] true false]).snoc β (by_ := 56) (m := h.length + 2) (z := (⟨mv, 2, c + 1, dy, 0, to, 0⟩ : Msg)) (b := true) (by simp [encM]) (fun e => by have := G.lt e; omega) (by intro y _; rfl) (by omega)
          obtain ⟨a1, a2, a3, a4⟩ := step v' (c + 1) h3 (out ++ [⟨mv, 2, c + 1, dy, 0, to, 0⟩]) k2 (by omega) (by rw [List.length_append]; simp; omega)
          refine ⟨a1, a2, ?_, by simpa using a4⟩
          rw [← a3]
          simp at k1
          simp (maxSteps := 10000000) [boxE, stE, ap, buildK, fillA, disjAll, disj2, idsOf, wrOf, bsE, fillS, f_journey_Messages_j6, f_journey_Messages_j5, f_journey_Messages_j4, f_journey_Messages_j3, hw, wc, k1]
        · have q1' : (kd == 1) = false := by simpa using q1
          have q4' : (kd == 4) = false := by simpa using q4
          by_cases q7 : kd = 7
          · subst q7
            obtain ⟨v', h3, k1, k2, k3, k4, k5⟩ := (G.app [.arr 5 [[I dy, I 7, I pl, I to, I al]] true false, .arr 7 [[I mv, I 3, I 0, I dy, I 0, I 0, I al]] true false, .arr 7 [[I mv, I 3, I 0, I dy, I 0, I 0, I al]] true false]).snoc β (by_ := 56) (m := h.length + 2) (z := (⟨mv, 3, 0, dy, 0, 0, al⟩ : Msg)) (b := true) (by simp [encM]) (fun e => by have := G.lt e; omega) (by intro y _; rfl) (by omega)
            have n0 : h3[h.length]? = some (.arr 5 [[I dy, I 7, I pl, I to, I al]] true false) := k4 h.length _ (by simp) (fun e => by have := G.lt e; omega)
            have n1 : h3[h.length + 1]? = some (.arr 7 [[I mv, I 3, I 0, I dy, I 0, I 0, I al]] true false) := k4 (h.length + 1) _ (by simp) (fun e => by have := G.lt e; omega)
            have nv : idOf v' ≠ some (h.length + 1) := fun e => by
              rcases k5 with k5 | k5
              · rw [k5] at e; have := G.lt e; omega
              · rw [k5] at e; simp at e
            have n1l := (List.getElem?_eq_some_iff.1 n1).1
            have G2 : Gro 7 encM (h3.set (h.length + 1) (.arr 7 [[I mv, I 5, I 0, I dy, I 0, I 0, I 0]] true false)) v' (out ++ [⟨mv, 3, 0, dy, 0, 0, al⟩]) := k2.keep fun k o hk hko => by
              rw [List.getElem?_set_ne (by rintro rfl; exact nv hk)]; exact hko
            obtain ⟨v2, h4, j1, j2, j3, j4, j5⟩ := (G2.app [.arr 7 [[I mv, I 5, I 0, I dy, I 0, I 0, I 0]] true false]).snoc β (by_ := 56) (m := h3.length) (z := (⟨mv, 5, 0, dy, 0, 0, 0⟩ : Msg)) (b := true) (by rw [List.getElem?_append_right (by simp)]; simp [encM]) (fun e => by have := G2.lt e; simp at this) (by intro y _; rfl) (by rw [List.length_append]; simp; omega)
            obtain ⟨a1, a2, a3, a4⟩ := step v2 c h4 (out ++ [⟨mv, 3, 0, dy, 0, 0, al⟩] ++ [⟨mv, 5, 0, dy, 0, 0, 0⟩]) j2 (by omega) (by simp only [List.length_append, List.length_singleton]; omega)
            refine ⟨a1, a2, ?_, by simpa using a4⟩
            rw [← a3]
            simp at k1
            simp only [List.length_append, List.length_set, List.length_singleton] at j1
            have n2 : (h3.set (h.length + 1) (.arr 7 [[I mv, I 5, I 0, I dy, I 0, I 0, I 0]] true false))[h.length + 1]? = some (.arr 7 [[I mv, I 5, I 0, I dy, I 0, I 0, I 0]] true false) := List.getElem?_set_self n1l
            simp (maxSteps := 10000000) [boxE, stE, ap, buildK, fillA, disjAll, disj2, idsOf, wrOf, bsE, fillS, k1, n0, n1]
            simp [f_journey_Messages_j6, f_journey_Messages_j5, f_journey_Messages_j4, f_journey_Messages_j3, n2, n1l, bsE, fillS, ap, j1, hw]
          · have q7' : (kd == 7) = false := by simpa using q7
            obtain ⟨a1, a2, a3, a4⟩ := step v c (h ++ [.arr 5 [[I dy, I kd, I pl, I to, I al]] true false, .arr 7 [[I mv, I 0, I 0, I dy, I 0, I 0, I 0]] true false]) out (by simpa using G.app _) (by omega) (by omega)
            refine ⟨a1, a2, ?_, by simpa [q1, q4, q7] using a4⟩
            rw [← a3]
            simp (maxSteps := 10000000) [boxE, stE, ap, buildK, fillA, q1', q4', q7', f_journey_Messages_j4, f_journey_Messages_j3, hw]
end
theorem F_journey_Messages_val (l : List Leg) (b : Bool) (mv : Int) (hl : l.length < 1000) (h : Hp) : F_journey_Messages [.lst 5 b (l.map encL), I mv] h = some (.tup [.lst 7 (msgS l mv).1.isEmpty ((msgS l mv).1.map encM), I (msgS l mv).2], h) := by
  have base : ∀ w v, f_journey_Messages Tryz.prog t_journey_Messages d_journey_Messages NN (fun v g => cvt false g v) (.lst 5 b (l.map encL)) (I mv) [] = some w → nrmR [.l 7, .o] w = v → F_journey_Messages [.lst 5 b (l.map encL), I mv] h = some (v, h) := fun w v e1 e2 => by
    rw [← e2]
    exact F_journey_Messages_run (a0 := .lst 5 b (l.map encL)) (a1 := I mv) rfl e1 h
  have fr := F_journey_right_val l b (by omega)
  unfold msgS
  cases hr : okS l with
  | false =>
    rw [hr] at fr
    refine base (.tup [nilS, I 1]) _ ?_ rfl
    generalize l.map encL = L at *
    simp [f_journey_Messages, fr]
  | true =>
    rw [hr] at fr
    rw [if_neg (by simp)]
    cases hw : win mv 1 1073741824 with
    | false =>
      refine base (.tup [nilS, I 2]) _ ?_ rfl
      generalize l.map encL = L at *
      simp [f_journey_Messages, fr, F_journey_in_val, hw]
    | true =>
      rw [if_neg (by simp)]
      have ln : ∀ k : Go.AM.K AV, lenK (.lst 5 b (l.map encL)) k = k (I l.length) := fun k => by simp
      obtain ⟨v, h', k1, G⟩ := Messages_L2 (P := Tryz.prog) (T := t_journey_Messages) (D := d_journey_Messages) (N := NN) (x1 := fun w92_6 h => f_journey_Messages_j1 Tryz.prog t_journey_Messages d_journey_Messages NN (fun v g => cvt false g v) w92_6 h) l b mv hl NN [] l nilS 0 [] [] rfl (by have := NN_ge; omega) .nil (by simp) (by simp)
      rw [List.nil_append] at G
      have gl := fun k => G.len (β := AV) k
      have red : f_journey_Messages Tryz.prog t_journey_Messages d_journey_Messages NN (fun v g => cvt false g v) (.lst 5 b (l.map encL)) (I mv) [] = f_journey_Messages_j1 Tryz.prog t_journey_Messages d_journey_Messages NN (fun v g => cvt false g v) v h' := by
        rw [← k1]
        clear base k1
        generalize l.map encL = L at *
        simp [f_journey_Messages, fr, F_journey_in_val, hw, ln]
      by_cases h64 : 64 < (msgL mv 0 l).length
      · have h64' : (64 : Int) < ((msgL mv 0 l).length : Int) := by omega
        rw [if_pos h64]
        refine base (.tup [nilS, I 8]) _ (red.trans ?_) rfl
        simp [f_journey_Messages_j1, gl, h64']
      · have h64' : ¬ (64 : Int) < ((msgL mv 0 l).length : Int) := by omega
        rw [if_neg h64]
        obtain ⟨w, p1, p2⟩ := G.cvts (fun x st => by cases st <;> simp [encM, isS])
        refine base (.tup [w, I 0]) _ (red.trans ?_) (by
          show AV.tup [nrm (.l 7) w, I 0] = _
          rw [p2])
        simp [f_journey_Messages_j1, gl, h64', p1]
end Go.AM


namespace Go.AM
open Go.Proofs
set_option linter.unusedVariables false
set_option linter.unusedSimpArgs false
set_option linter.constructorNameAsVariable false
set_option maxRecDepth 20000
attribute [local congr] arithK_cg eqK_cg notK_cg convK_cg pickK_cg buildK_cg ldK_cg nilK_cg sliceK_cg faK_cg fldK_cg iaK_cg iaA_cg lookK_cg capK_cg exK_cg lenK_cg minK_cg maxK_cg effK_cg callK_cg callVK_cg effD_cg gopD_cg grpK_cg condK_cg cond_cg
def isNode (n : Int) : Bool := decide (1 ≤ n) && decide (n ≤ 99)
def formM (m : Msg) : Bool :=
  if m.kind = 1 then m.num == 0 && isNode m.frm && isNode m.to && m.frm != m.to && decide (1 ≤ m.alc) && decide (m.alc ≤ 10737418240000)
  else if m.kind = 2 then decide (1 ≤ m.num) && decide (m.num ≤ 64) && m.frm == 0 && isNode m.to && m.alc == 0
  else if m.kind = 3 then m.num == 0 && m.frm == 0 && m.to == 0 && decide (0 ≤ m.alc) && decide (m.alc ≤ 10737418240000)
  else m.num == 0 && m.frm == 0 && m.to == 0 && m.alc == 0
def rangeM (m : Msg) : Bool := decide (m.mv < 1) || decide (1073741824 < m.mv) || decide (m.kind < 1) || decide (5 < m.kind) || decide (m.day < 0) || decide (100000 < m.day)
def checkM (m : Msg) : Int := if rangeM m = true then 2 else if formM m = true then 0 else 1
theorem F_document_node_val (n : Int) (h : Hp) : F_document_node [I n] h = some (B (isNode n), h) := F_document_node_run rfl (by simp [f_document_node, isNode]) h
theorem F_document_Check_val (m : Msg) (h : Hp) : F_document_Check [.agg (encM m)] h = some (I (checkM m), h) := by
  refine F_document_Check_run (by simp [encM]) ?_ h
  obtain ⟨mv, kind, num, day, frm, to, alc⟩ := m
  obtain ⟨r, hr⟩ : ∃ r, rangeM ⟨mv, kind, num, day, frm, to, alc⟩ = r := ⟨_, rfl⟩
  have hr' := hr
  simp only [rangeM] at hr'
  simp only [checkM, hr]
  have b0 : ∀ k : Go.AM.K AV, buildK [I 0, I 0, I 0, I 0, I 0, I 0, I 0] [(some (0, 1), I mv), (some (1, 1), I kind), (some (3, 1), I day)] k = k (.agg [I mv, I kind, I 0, I day, I 0, I 0, I 0]) := fun k => rfl
  simp only [f_document_Check, encM, encDo, faK_ptr, faK_ep, Nat.zero_add, Nat.add_zero, Nat.reduceAdd, ld7_0_0, es7_0_0, ed7_0_0, ld7_0_1, es7_0_1, ed7_0_1, ld7_0_2, es7_0_2, ed7_0_2, ld7_0_3, es7_0_3, ed7_0_3, ld7_0_4, es7_0_4, ed7_0_4, ld7_0_5, es7_0_5, ed7_0_5, ld7_0_6, es7_0_6, ed7_0_6, lw7_0, ew7_0, bx7_0, ld7_1_0, es7_1_0, ed7_1_0, ld7_1_1, es7_1_1, ed7_1_1, ld7_1_2, es7_1_2, ed7_1_2, ld7_1_3, es7_1_3, ed7_1_3, ld7_1_4, es7_1_4, ed7_1_4, ld7_1_5, es7_1_5, ed7_1_5, ld7_1_6, es7_1_6, ed7_1_6, lw7_1, ew7_1, bx7_1, ld7_2_0, es7_2_0, ed7_2_0, ld7_2_1, es7_2_1, ed7_2_1, ld7_2_2, es7_2_2, ed7_2_2, ld7_2_3, es7_2_3, ed7_2_3, ld7_2_4, es7_2_4, ed7_2_4, ld7_2_5, es7_2_5, ed7_2_5, ld7_2_6, es7_2_6, ed7_2_6, lw7_2, ew7_2, bx7_2, ld7_3_0, es7_3_0, ed7_3_0, ld7_3_1, es7_3_1, ed7_3_1, ld7_3_2, es7_3_2, ed7_3_2, ld7_3_3, es7_3_3, ed7_3_3, ld7_3_4, es7_3_4, ed7_3_4, ld7_3_5, es7_3_5, ed7_3_5, ld7_3_6, es7_3_6, ed7_3_6, lw7_3, ew7_3, bx7_3, ldK_ep, arithK_lss, arithK_leq, arithK_gtr, arithK_geq, grpK_or, grpK_and, condK_bool, eqK_int, notK_bool, Bool.false_xor, Bool.true_xor, callK_F, exK_tup, lenK_lst, lenK_sl, lenK_nil, List.length_map, hr', b0]
  have n1 := F_document_node_val frm
  have n2 := F_document_node_val to
  clear hr hr'
  cases r with
  | true => rfl
  | false =>
    by_cases k1 : kind = 1
    · subst k1
      simp only [if_true, Bool.false_eq_true, if_false, beq_self_eq_true, t_document_Check_88, callK_F, f_document_Check_j2, f_document_Check_j1, n1, n2, encM, encDo, faK_ptr, faK_ep, Nat.zero_add, Nat.add_zero, Nat.reduceAdd, ld7_0_0, es7_0_0, ed7_0_0, ld7_0_1, es7_0_1, ed7_0_1, ld7_0_2, es7_0_2, ed7_0_2, ld7_0_3, es7_0_3, ed7_0_3, ld7_0_4, es7_0_4, ed7_0_4, ld7_0_5, es7_0_5, ed7_0_5, ld7_0_6, es7_0_6, ed7_0_6, lw7_0, ew7_0, bx7_0, ld7_1_0, es7_1_0, ed7_1_0, ld7_1_1, es7_1_1, ed7_1_1, ld7_1_2, es7_1_2, ed7_1_2, ld7_1_3, es7_1_3, ed7_1_3, ld7_1_4, es7_1_4, ed7_1_4, ld7_1_5, es7_1_5, ed7_1_5, ld7_1_6, es7_1_6, ed7_1_6, lw7_1, ew7_1, bx7_1, ld7_2_0, es7_2_0, ed7_2_0, ld7_2_1, es7_2_1, ed7_2_1, ld7_2_2, es7_2_2, ed7_2_2, ld7_2_3, es7_2_3, ed7_2_3, ld7_2_4, es7_2_4, ed7_2_4, ld7_2_5, es7_2_5, ed7_2_5, ld7_2_6, es7_2_6, ed7_2_6, lw7_2, ew7_2, bx7_2, ld7_3_0, es7_3_0, ed7_3_0, ld7_3_1, es7_3_1, ed7_3_1, ld7_3_2, es7_3_2, ed7_3_2, ld7_3_3, es7_3_3, ed7_3_3, ld7_3_4, es7_3_4, ed7_3_4, ld7_3_5, es7_3_5, ed7_3_5, ld7_3_6, es7_3_6, ed7_3_6, lw7_3, ew7_3, bx7_3, ldK_ep, arithK_lss, arithK_leq, arithK_gtr, arithK_geq, grpK_or, grpK_and, condK_bool, eqK_int, notK_bool, Bool.false_xor, Bool.true_xor, callK_F, exK_tup, lenK_lst, lenK_sl, lenK_nil, List.length_map, formM, show (disjAll [(3, 7), (5, 7), (5, 9)] [([], []), (idsOf (AV.ptr 0 0 4 1), []), ([], []), (idsOf (AV.ptr 0 0 5 1), []), ([], []), (idsOf (AV.ptr 0 0 6 1), []), ([], []), ([1], [1]), ([], []), ([1], [1]), ([], []), ([1], [1])]) = true from rfl, cond_true, eqs_67]
      clear n1 n2 b0
      by_cases h1 : num = 0
      · subst h1
        simp only [beq_self_eq_true, Bool.true_and, Bool.and_self, Bool.not_true, Bool.or_false, show (frm != to) = !(frm == to) from rfl]
        generalize (isNode frm && isNode to && !(frm == to) && decide (1 ≤ alc) && decide (alc ≤ 10737418240000)) = e
        cases e <;> rfl
      · simp [h1]
    by_cases k2 : kind = 2
    · subst k2
      simp only [if_true, Bool.false_eq_true, if_false, beq_self_eq_true, t_document_Check_88, callK_F, f_document_Check_j2, f_document_Check_j1, n1, n2, encM, encDo, faK_ptr, faK_ep, Nat.zero_add, Nat.add_zero, Nat.reduceAdd, ld7_0_0, es7_0_0, ed7_0_0, ld7_0_1, es7_0_1, ed7_0_1, ld7_0_2, es7_0_2, ed7_0_2, ld7_0_3, es7_0_3, ed7_0_3, ld7_0_4, es7_0_4, ed7_0_4, ld7_0_5, es7_0_5, ed7_0_5, ld7_0_6, es7_0_6, ed7_0_6, lw7_0, ew7_0, bx7_0, ld7_1_0, es7_1_0, ed7_1_0, ld7_1_1, es7_1_1, ed7_1_1, ld7_1_2, es7_1_2, ed7_1_2, ld7_1_3, es7_1_3, ed7_1_3, ld7_1_4, es7_1_4, ed7_1_4, ld7_1_5, es7_1_5, ed7_1_5, ld7_1_6, es7_1_6, ed7_1_6, lw7_1, ew7_1, bx7_1, ld7_2_0, es7_2_0, ed7_2_0, ld7_2_1, es7_2_1, ed7_2_1, ld7_2_2, es7_2_2, ed7_2_2, ld7_2_3, es7_2_3, ed7_2_3, ld7_2_4, es7_2_4, ed7_2_4, ld7_2_5, es7_2_5, ed7_2_5, ld7_2_6, es7_2_6, ed7_2_6, lw7_2, ew7_2, bx7_2, ld7_3_0, es7_3_0, ed7_3_0, ld7_3_1, es7_3_1, ed7_3_1, ld7_3_2, es7_3_2, ed7_3_2, ld7_3_3, es7_3_3, ed7_3_3, ld7_3_4, es7_3_4, ed7_3_4, ld7_3_5, es7_3_5, ed7_3_5, ld7_3_6, es7_3_6, ed7_3_6, lw7_3, ew7_3, bx7_3, ldK_ep, arithK_lss, arithK_leq, arithK_gtr, arithK_geq, grpK_or, grpK_and, condK_bool, eqK_int, notK_bool, Bool.false_xor, Bool.true_xor, callK_F, exK_tup, lenK_lst, lenK_sl, lenK_nil, List.length_map, formM, show (disjAll [(3, 5)] [([], []), (idsOf (AV.ptr 0 0 2 1), []), ([], []), (idsOf (AV.ptr 0 0 5 1), []), ([], []), ([1], [1]), ([], []), ([1], [1])]) = true from rfl, cond_true, eqs_67, show ((2 : Int) == 1) = false from rfl, show ¬ ((2 : Int) = 1) by decide]
      clear n1 n2 b0
      by_cases h1 : frm = 0
      · by_cases h2 : alc = 0
        · subst h1 h2
          simp only [beq_self_eq_true, Bool.true_and, Bool.and_true, Bool.not_true, Bool.or_false]
          generalize (decide (1 ≤ num) && decide (num ≤ 64) && isNode to) = e
          cases e <;> rfl
        · simp [h1, h2]
      · simp [h1]
    by_cases k3 : kind = 3
    · subst k3
      simp only [if_true, Bool.false_eq_true, if_false, beq_self_eq_true, t_document_Check_88, callK_F, f_document_Check_j2, f_document_Check_j1, n1, n2, encM, encDo, faK_ptr, faK_ep, Nat.zero_add, Nat.add_zero, Nat.reduceAdd, ld7_0_0, es7_0_0, ed7_0_0, ld7_0_1, es7_0_1, ed7_0_1, ld7_0_2, es7_0_2, ed7_0_2, ld7_0_3, es7_0_3, ed7_0_3, ld7_0_4, es7_0_4, ed7_0_4, ld7_0_5, es7_0_5, ed7_0_5, ld7_0_6, es7_0_6, ed7_0_6, lw7_0, ew7_0, bx7_0, ld7_1_0, es7_1_0, ed7_1_0, ld7_1_1, es7_1_1, ed7_1_1, ld7_1_2, es7_1_2, ed7_1_2, ld7_1_3, es7_1_3, ed7_1_3, ld7_1_4, es7_1_4, ed7_1_4, ld7_1_5, es7_1_5, ed7_1_5, ld7_1_6, es7_1_6, ed7_1_6, lw7_1, ew7_1, bx7_1, ld7_2_0, es7_2_0, ed7_2_0, ld7_2_1, es7_2_1, ed7_2_1, ld7_2_2, es7_2_2, ed7_2_2, ld7_2_3, es7_2_3, ed7_2_3, ld7_2_4, es7_2_4, ed7_2_4, ld7_2_5, es7_2_5, ed7_2_5, ld7_2_6, es7_2_6, ed7_2_6, lw7_2, ew7_2, bx7_2, ld7_3_0, es7_3_0, ed7_3_0, ld7_3_1, es7_3_1, ed7_3_1, ld7_3_2, es7_3_2, ed7_3_2, ld7_3_3, es7_3_3, ed7_3_3, ld7_3_4, es7_3_4, ed7_3_4, ld7_3_5, es7_3_5, ed7_3_5, ld7_3_6, es7_3_6, ed7_3_6, lw7_3, ew7_3, bx7_3, ldK_ep, arithK_lss, arithK_leq, arithK_gtr, arithK_geq, grpK_or, grpK_and, condK_bool, eqK_int, notK_bool, Bool.false_xor, Bool.true_xor, callK_F, exK_tup, lenK_lst, lenK_sl, lenK_nil, List.length_map, formM, eqs_67, show ((3 : Int) == 1) = false from rfl, show ((3 : Int) == 2) = false from rfl, show ¬ ((3 : Int) = 1) by decide, show ¬ ((3 : Int) = 2) by decide]
      clear n1 n2 b0
      generalize hE : (decide (0 ≤ alc) && decide (alc ≤ 10737418240000)) = e
      have hA : ∀ x : Bool, (x && decide (0 ≤ alc) && decide (alc ≤ 10737418240000)) = (x && e) := fun x => by rw [Bool.and_assoc, hE]
      rw [hA]
      by_cases h1 : num = 0 <;> by_cases h2 : frm = 0 <;> by_cases h3 : to = 0 <;> simp [h1, h2, h3] <;> cases e <;> simp
    · have e1 : (kind == 1) = false := by simpa using k1
      have e2 : (kind == 2) = false := by simpa using k2
      have e3 : (kind == 3) = false := by simpa using k3
      simp only [if_true, Bool.false_eq_true, if_false, beq_self_eq_true, f_document_Check_j2, f_document_Check_j1, encM, encDo, faK_ptr, faK_ep, Nat.zero_add, Nat.add_zero, Nat.reduceAdd, ld7_0_0, es7_0_0, ed7_0_0, ld7_0_1, es7_0_1, ed7_0_1, ld7_0_2, es7_0_2, ed7_0_2, ld7_0_3, es7_0_3, ed7_0_3, ld7_0_4, es7_0_4, ed7_0_4, ld7_0_5, es7_0_5, ed7_0_5, ld7_0_6, es7_0_6, ed7_0_6, lw7_0, ew7_0, bx7_0, ld7_1_0, es7_1_0, ed7_1_0, ld7_1_1, es7_1_1, ed7_1_1, ld7_1_2, es7_1_2, ed7_1_2, ld7_1_3, es7_1_3, ed7_1_3, ld7_1_4, es7_1_4, ed7_1_4, ld7_1_5, es7_1_5, ed7_1_5, ld7_1_6, es7_1_6, ed7_1_6, lw7_1, ew7_1, bx7_1, ld7_2_0, es7_2_0, ed7_2_0, ld7_2_1, es7_2_1, ed7_2_1, ld7_2_2, es7_2_2, ed7_2_2, ld7_2_3, es7_2_3, ed7_2_3, ld7_2_4, es7_2_4, ed7_2_4, ld7_2_5, es7_2_5, ed7_2_5, ld7_2_6, es7_2_6, ed7_2_6, lw7_2, ew7_2, bx7_2, ld7_3_0, es7_3_0, ed7_3_0, ld7_3_1, es7_3_1, ed7_3_1, ld7_3_2, es7_3_2, ed7_3_2, ld7_3_3, es7_3_3, ed7_3_3, ld7_3_4, es7_3_4, ed7_3_4, ld7_3_5, es7_3_5, ed7_3_5, ld7_3_6, es7_3_6, ed7_3_6, lw7_3, ew7_3, bx7_3, ldK_ep, arithK_lss, arithK_leq, arithK_gtr, arithK_geq, grpK_or, grpK_and, condK_bool, eqK_int, notK_bool, Bool.false_xor, Bool.true_xor, callK_F, exK_tup, lenK_lst, lenK_sl, lenK_nil, List.length_map, formM, eqs_67, e1, e2, e3, k1, k2, k3]
      clear n1 n2 b0
      by_cases h1 : num = 0 <;> by_cases h2 : frm = 0 <;> by_cases h3 : to = 0 <;> by_cases h4 : alc = 0 <;> simp [h1, h2, h3, h4]
def cellsM (m : Msg) : List Int := [m.mv, m.kind, m.num, m.day, m.frm, m.to, m.alc]
def cmpZ (a b : Int) : Int := if a < b then -1 else if b < a then 1 else 0
theorem F_cmp_isNaN_int_val (a : Int) (h : Hp) : F_cmp_isNaN_int [I a] h = some (B false, h) := F_cmp_isNaN_int_run rfl (by simp [f_cmp_isNaN_int]) h
theorem F_cmp_Compare_int_val (a b : Int) (h : Hp) : F_cmp_Compare_int [I a, I b] h = some (I (cmpZ a b), h) := by
  refine F_cmp_Compare_int_run rfl ?_ h
  have n1 := F_cmp_isNaN_int_val
  by_cases h1 : a < b
  · simp [f_cmp_Compare_int, n1, h1, cmpZ]
  · by_cases h2 : b < a <;> simp [f_cmp_Compare_int, n1, h1, h2, cmpZ]
theorem G_cmp_Compare_int_val (a b : Int) (h : Hp) (base : Nat) : G_cmp_Compare_int [I a, I b] h base = some (I (cmpZ a b), EF []) := (closedXD_val (F_cmp_Compare_int_val a b h) base).trans (by simp [idss, ids])
def orZ : List Int → Int
  | [] => 0
  | a :: l => if a ≠ 0 then a else orZ l
theorem Or_L2 {T : Tab} {D : DTab} {N : Nat} {x0 : AV → Hp → Option AV} {xr : AV → Hp → Option AV} {h : Hp} (l : List Int) (b : Bool) (hx : ∀ z, x0 (I z) h = xr (I z) h) (hl : l.length < 1000) : ∀ (n : Nat) (pre post : List Int), l = pre ++ post → post.length < n →
    f_cmp_Or_int_L2 Tryz.prog T D N x0 xr n (I 0) (.lst 1 b (l.map fun z => [I z])) (I l.length) (I pre.length) h = xr (I (orZ post)) h := by
  intro n
  induction n with
  | zero => intro pre post _ h2; omega
  | succ n ih =>
    intro pre post hc hn
    show f_cmp_Or_int_b2 Tryz.prog T D N (f_cmp_Or_int_L2 Tryz.prog T D N x0 xr n) x0 xr _ _ _ _ h = _
    cases post with
    | nil =>
      have : l = pre := by simpa using hc
      subst this
      simp only [f_cmp_Or_int_b2, encM, encDo, faK_ptr, faK_ep, Nat.zero_add, Nat.add_zero, Nat.reduceAdd, ld7_0_0, es7_0_0, ed7_0_0, ld7_0_1, es7_0_1, ed7_0_1, ld7_0_2, es7_0_2, ed7_0_2, ld7_0_3, es7_0_3, ed7_0_3, ld7_0_4, es7_0_4, ed7_0_4, ld7_0_5, es7_0_5, ed7_0_5, ld7_0_6, es7_0_6, ed7_0_6, lw7_0, ew7_0, bx7_0, ld7_1_0, es7_1_0, ed7_1_0, ld7_1_1, es7_1_1, ed7_1_1, ld7_1_2, es7_1_2, ed7_1_2, ld7_1_3, es7_1_3, ed7_1_3, ld7_1_4, es7_1_4, ed7_1_4, ld7_1_5, es7_1_5, ed7_1_5, ld7_1_6, es7_1_6, ed7_1_6, lw7_1, ew7_1, bx7_1, ld7_2_0, es7_2_0, ed7_2_0, ld7_2_1, es7_2_1, ed7_2_1, ld7_2_2, es7_2_2, ed7_2_2, ld7_2_3, es7_2_3, ed7_2_3, ld7_2_4, es7_2_4, ed7_2_4, ld7_2_5, es7_2_5, ed7_2_5, ld7_2_6, es7_2_6, ed7_2_6, lw7_2, ew7_2, bx7_2, ld7_3_0, es7_3_0, ed7_3_0, ld7_3_1, es7_3_1, ed7_3_1, ld7_3_2, es7_3_2, ed7_3_2, ld7_3_3, es7_3_3, ed7_3_3, ld7_3_4, es7_3_4, ed7_3_4, ld7_3_5, es7_3_5, ed7_3_5, ld7_3_6, es7_3_6, ed7_3_6, lw7_3, ew7_3, bx7_3, ldK_ep, arithK_lss, arithK_leq, arithK_gtr, arithK_geq, grpK_or, grpK_and, condK_bool, eqK_int, notK_bool, Bool.false_xor, Bool.true_xor, callK_F, exK_tup, lenK_lst, lenK_sl, lenK_nil, List.length_map]
      simp [orZ, hx]
    | cons c post =>
      have hi : pre.length < l.length := by rw [hc]; simp
      have hci : l[pre.length]? = some c := by rw [hc]; simp
      have hlt : ((pre.length : Int) < (l.length : Int)) := by omega
      have hw : IntKind.i64.wrap ((pre.length : Int) + 1) = (((pre ++ [c]).length : Nat) : Int) := by rw [wrap64 (by omega) (by omega)]; simp
      have ic : ∀ k : Go.AM.K AV, iaK 1 (.lst 1 b (l.map fun z => [I z])) (I pre.length) k = k (.ep [I c] 0) := fun k => iaK_at pre.length rfl hci k
      have step := ih (pre ++ [c]) post (by simpa using hc) (by simpa using hn)
      by_cases h0 : c = 0
      · simp [f_cmp_Or_int_b2, hlt, ic, h0, hw, orZ] at step ⊢
        exact step
      · simp [f_cmp_Or_int_b2, hlt, ic, h0, orZ]
theorem or_lex : ∀ {n : Nat} {a b : List Int}, a.length = n → b.length = n → orZ (List.zipWith cmpZ a b) = lexZ a b
  | 0, a, b, ha, hb => by rw [List.eq_nil_of_length_eq_zero ha, List.eq_nil_of_length_eq_zero hb]; rfl
  | n + 1, [], b, ha, hb => by simp at ha
  | n + 1, a :: l, [], ha, hb => by simp at hb
  | n + 1, a :: l, b :: r, ha, hb => by
    have ih := or_lex (n := n) (a := l) (b := r) (by simpa using ha) (by simpa using hb)
    simp only [List.zipWith_cons_cons, orZ, lexZ, ih, cmpZ]
    by_cases h1 : a < b
    · simp [h1]
    · by_cases h2 : b < a <;> simp [h1, h2]
end Go.AM


namespace Go.AM
open Go.Proofs
set_option linter.unusedVariables false
set_option linter.unusedSimpArgs false
set_option linter.constructorNameAsVariable false
set_option maxRecDepth 20000
attribute [local congr] arithK_cg eqK_cg notK_cg convK_cg pickK_cg buildK_cg ldK_cg nilK_cg sliceK_cg faK_cg fldK_cg iaK_cg iaA_cg lookK_cg capK_cg exK_cg lenK_cg minK_cg maxK_cg effK_cg callK_cg callVK_cg effD_cg gopD_cg grpK_cg condK_cg cond_cg
theorem effD_ro {β : Type} (v : AV) (ft : List Nat) (h : Hp) (k : AV → Hp → Ent → Option β) : effD (some (v, EF ft)) h k = k v h (ft, []) := by simp [effD, ap, wrOf]
theorem effD_nw {β : Type} (v : AV) (o : AObj) (h : Hp) (k : AV → Hp → Ent → Option β) : effD (some (v, EN o)) h k = k v (h ++ [o]) ([], [h.length]) := by simp [effD, ap, wrOf]
theorem F_cmp_Or_int_at (c : List Int) (hl : c.length < 1000) {h : Hp} {id n : Nat} {b : Bool} (hid : h[id]? = some (.arr 1 (c.map fun z => [I z]) true false)) (hn : c.length = n) : F_cmp_Or_int [.sl 1 id 0 n n b] h = some (I (orZ c), h) := by
  subst hn
  refine (F_cmp_Or_int_own (a0 := .lst 1 false (c.map fun z => [I z])) ?_ fun st => ?_)
  · rw [cvts_cons, cvt_whole hid (by simp) (by simp) (okE_map fun x => rfl), cvts_nil]
  · have := Or_L2 (T := t_cmp_Or_int) (D := d_cmp_Or_int) (N := NN) (x0 := fun w7_3 h => f_cmp_Or_int_j1 Tryz.prog t_cmp_Or_int d_cmp_Or_int NN (fun v g => cvt st g v) w7_3 h) (xr := fun w8_2 h => cvt st h w8_2) (h := []) c false (fun z => rfl) hl NN [] c rfl (by have := NN_ge; omega)
    simp only [nrm, nrmC, f_cmp_Or_int, lenK_lst, List.length_map]
    exact this.trans rfl
theorem F_document_compare_val (a b : Msg) (h : Hp) : F_document_compare [.agg (encM a), .agg (encM b)] h = some (I (lexZ (cellsM a) (cellsM b)), h) := by
  refine F_document_compare_run (by simp [encM]) ?_ h
  obtain ⟨a0, a1, a2, a3, a4, a5, a6⟩ := a
  obtain ⟨b0, b1, b2, b3, b4, b5, b6⟩ := b
  have g := G_cmp_Compare_int_val
  have bs : ∀ (c0 c1 c2 c3 c4 c5 c6 : Int), bsE 1 [.s (.int .i64 0)] 7 [(0, I c0), (1, I c1), (2, I c2), (3, I c3), (4, I c4), (5, I c5), (6, I c6)] ([AObj.arr 7 [[I a0, I a1, I a2, I a3, I a4, I a5, I a6]] true false, .arr 7 [[I b0, I b1, I b2, I b3, I b4, I b5, I b6]] true false] : Hp).length = some (.sl 1 2 0 7 7 true, EN (.arr 1 [[I c0], [I c1], [I c2], [I c3], [I c4], [I c5], [I c6]] true false)) := fun _ _ _ _ _ _ _ => rfl
  have go : ∀ (c0 c1 c2 c3 c4 c5 c6 : Int) (o0 o1 : AObj) (base : Nat), G_cmp_Or_int [.sl 1 2 0 7 7 true] [o0, o1, .arr 1 [[I c0], [I c1], [I c2], [I c3], [I c4], [I c5], [I c6]] true false] base = some (I (orZ [c0, c1, c2, c3, c4, c5, c6]), EF [2]) := fun c0 c1 c2 c3 c4 c5 c6 o0 o1 base =>
    (closedXD_val (F_cmp_Or_int_at [c0, c1, c2, c3, c4, c5, c6] (by simp) rfl rfl) base).trans rfl
  simp -implicitDefEqProofs only [f_document_compare, encM, encDo, faK_ptr, faK_ep, Nat.zero_add, Nat.add_zero, Nat.reduceAdd, ld7_0_0, es7_0_0, ed7_0_0, ld7_0_1, es7_0_1, ed7_0_1, ld7_0_2, es7_0_2, ed7_0_2, ld7_0_3, es7_0_3, ed7_0_3, ld7_0_4, es7_0_4, ed7_0_4, ld7_0_5, es7_0_5, ed7_0_5, ld7_0_6, es7_0_6, ed7_0_6, lw7_0, ew7_0, bx7_0, ld7_1_0, es7_1_0, ed7_1_0, ld7_1_1, es7_1_1, ed7_1_1, ld7_1_2, es7_1_2, ed7_1_2, ld7_1_3, es7_1_3, ed7_1_3, ld7_1_4, es7_1_4, ed7_1_4, ld7_1_5, es7_1_5, ed7_1_5, ld7_1_6, es7_1_6, ed7_1_6, lw7_1, ew7_1, bx7_1, ld7_2_0, es7_2_0, ed7_2_0, ld7_2_1, es7_2_1, ed7_2_1, ld7_2_2, es7_2_2, ed7_2_2, ld7_2_3, es7_2_3, ed7_2_3, ld7_2_4, es7_2_4, ed7_2_4, ld7_2_5, es7_2_5, ed7_2_5, ld7_2_6, es7_2_6, ed7_2_6, lw7_2, ew7_2, bx7_2, ld7_3_0, es7_3_0, ed7_3_0, ld7_3_1, es7_3_1, ed7_3_1, ld7_3_2, es7_3_2, ed7_3_2, ld7_3_3, es7_3_3, ed7_3_3, ld7_3_4, es7_3_4, ed7_3_4, ld7_3_5, es7_3_5, ed7_3_5, ld7_3_6, es7_3_6, ed7_3_6, lw7_3, ew7_3, bx7_3, ldK_ep, arithK_lss, arithK_leq, arithK_gtr, arithK_geq, grpK_or, grpK_and, condK_bool, eqK_int, notK_bool, Bool.false_xor, Bool.true_xor, callK_F, exK_tup, lenK_lst, lenK_sl, lenK_nil, List.length_map, d_document_compare_92, d_document_compare_91, callE_F, g, effD_ro, bs, effD_nw, List.cons_append, List.nil_append, go]
  have := or_lex (n := 7) (a := [a0, a1, a2, a3, a4, a5, a6]) (b := [b0, b1, b2, b3, b4, b5, b6]) rfl rfl
  simp only [List.zipWith_cons_cons, List.zipWith_nil_left] at this
  rw [this]
  rfl
theorem eqs_Do (x y : Docu) (n : Bool) (h : Hp) {β : Type} (k : Go.AM.K β) : eqK Tryz.prog n 51 (.agg (encDo x)) (.agg (encDo y)) h k = k (B (xor n (x == y))) := by
  obtain ⟨a0, a1, a2, a3, a4, a5, a6⟩ := x
  obtain ⟨b0, b1, b2, b3, b4, b5, b6⟩ := y
  have : ((⟨a0, a1, a2, a3, a4, a5, a6⟩ : Docu) == ⟨b0, b1, b2, b3, b4, b5, b6⟩) = ((a0 == b0) && ((a1 == b1) && ((a2 == b2) && ((a3 == b3) && ((a4 == b4) && ((a5 == b5) && ((a6 == b6) && true))))))) := by
    rw [Bool.eq_iff_iff]; simp
  simp only [encDo, eqs_51, this]
theorem eqs_Me (x y : Msg) (n : Bool) (h : Hp) {β : Type} (k : Go.AM.K β) : eqK Tryz.prog n 67 (.agg (encM x)) (.agg (encM y)) h k = k (B (xor n (x == y))) := by
  obtain ⟨a0, a1, a2, a3, a4, a5, a6⟩ := x
  obtain ⟨b0, b1, b2, b3, b4, b5, b6⟩ := y
  have : ((⟨a0, a1, a2, a3, a4, a5, a6⟩ : Msg) == ⟨b0, b1, b2, b3, b4, b5, b6⟩) = ((a0 == b0) && ((a1 == b1) && ((a2 == b2) && ((a3 == b3) && ((a4 == b4) && ((a5 == b5) && ((a6 == b6) && true))))))) := by
    rw [Bool.eq_iff_iff]; simp
  simp only [encM, eqs_67, this]
end Go.AM


namespace Go.AM
open Go.Proofs
set_option linter.unusedVariables false
set_option linter.unusedSimpArgs false
set_option linter.constructorNameAsVariable false
set_option maxRecDepth 20000
attribute [local congr] arithK_cg eqK_cg notK_cg convK_cg pickK_cg buildK_cg ldK_cg nilK_cg sliceK_cg faK_cg fldK_cg iaK_cg iaA_cg lookK_cg capK_cg exK_cg lenK_cg minK_cg maxK_cg effK_cg callK_cg callVK_cg effD_cg gopD_cg grpK_cg condK_cg cond_cg
def compL : List Msg → List Msg
  | [] => []
  | [a] => [a]
  | a :: b :: l => if a = b then compL (b :: l) else a :: compL (b :: l)
theorem compL_snoc (y x : Msg) : ∀ q : List Msg, compL (q ++ [y] ++ [x]) = if y = x then compL (q ++ [y]) else compL (q ++ [y]) ++ [x]
  | [] => by
    simp only [List.nil_append, List.cons_append, compL]
    split
    · rename_i e; rw [e]
    · rfl
  | [a] => by
    have ih := compL_snoc y x []
    simp only [List.nil_append, List.cons_append, compL] at ih ⊢
    split <;> split <;> simp_all
  | a :: b :: q => by
    have ih := compL_snoc y x (b :: q)
    simp only [List.cons_append, compL] at ih ⊢
    rw [ih]
    split <;> split <;> simp_all
theorem compL_length : ∀ l : List Msg, (compL l).length ≤ l.length
  | [] => by simp [compL]
  | [a] => by simp [compL]
  | a :: b :: l => by
    have := compL_length (b :: l)
    simp only [compL, List.length_cons] at this ⊢
    split <;> simp at * <;> omega
theorem take_succ_get {l : List Msg} {i : Nat} {x : Msg} (hx : l[i]? = some x) : l.take (i + 1) = l.take i ++ [x] := by
  rw [List.take_add_one, hx]; rfl
theorem compL_next {l : List Msg} {i : Nat} {x y : Msg} (hi : 1 ≤ i) (hx : l[i]? = some x) (hy : l[i - 1]? = some y) : compL (l.take (i + 1)) = if y = x then compL (l.take i) else compL (l.take i) ++ [x] := by
  obtain ⟨j, rfl⟩ : ∃ j, i = j + 1 := ⟨i - 1, by omega⟩
  rw [take_succ_get hx, take_succ_get (by simpa using hy), compL_snoc]
theorem ld_el {β : Type} {W : List Msg} {id i n : Nat} {h : Hp} {b : Bool} {x : Msg} (hid : h[id]? = some (.arr 7 (W.map encM) true b)) (hn : W.length = n) (hx : W[i]? = some x) (k : Go.AM.K β) : ldK 7 true (.ptr id i 0 n) h k = k (.agg (encM x)) := by
  simp [hid, hn, hx, encM]
theorem st_el {β : Type} {W : List Msg} {id i n : Nat} {h : Hp} {b : Bool} {x : Msg} (hid : h[id]? = some (.arr 7 (W.map encM) true b)) (hn : W.length = n) (hi : i < W.length) (k : AV → Hp → Option β) : effK (stE 7 (.ptr id i 0 n) (.agg (encM x)) h) h k = k .u (h.set id (.arr 7 ((W.set i x).map encM) true b)) := by
  have hx : W[i]? = some W[i] := List.getElem?_eq_getElem hi
  have : stE 7 (.ptr id i 0 n) (.agg (encM x)) h = some (.u, ⟨[(id, .arr 7 ((W.map encM).set i (encM x)) true b)], [], [id]⟩) := by
    simp [hid, hn, hx, encM]
  rw [this, effK_put rfl, List.map_set]
theorem ia_sl {β : Type} {id off len fr : Nat} {b : Bool} {m : Int} (i : Nat) (hm : m = i) (hi : i < len) (k : Go.AM.K β) : iaK 7 (.sl 7 id off len fr b) (I m) k = k (.ptr id (off + i) 0 fr) := by
  subst hm
  rw [iaK_sl (by omega) (by omega)]
  simp
theorem sl_lo {β : Type} {id n k : Nat} (hk : k ≤ n) (K : Go.AM.K β) : sliceK 7 (.sl 7 id 0 n n false) (some (I k)) none none K = K (.sl 7 id k (n - k) n false) := by
  have : (0 : Int) ≤ (k : Int) := by omega
  simp [sliceK, boundOr, hk]
theorem sl_hi {β : Type} {id n k : Nat} (hk : k ≤ n) (K : Go.AM.K β) : sliceK 7 (.sl 7 id 0 n n false) none (some (I k)) none K = K (.sl 7 id 0 k n false) := by
  have : (0 : Int) ≤ (k : Int) := by omega
  simp [sliceK, boundOr, hk]
abbrev zM : List AV := [.s (.int .i64 0), .s (.int .i64 0), .s (.int .i64 0), .s (.int .i64 0), .s (.int .i64 0), .s (.int .i64 0), .s (.int .i64 0)]
theorem Compact_L5 {β : Type} {T : Tab} {D : DTab} {N : Nat} {x2 : AV → AV → Hp → Option β} {l : List Msg} {id k : Nat} {h0 : Hp} (hid : id < h0.length) (hl : l.length < 1000000) : ∀ (n i : Nat) (W : List Msg) (w : Nat), 1 ≤ i → k + i ≤ l.length → l.length < k + i + n →
    W.length = l.length → w = (compL (l.take (k + i))).length → w + 1 ≤ k + i → W.take w = compL (l.take (k + i)) → W.drop (k + i - 1) = l.drop (k + i - 1) →
    ∃ W' : List Msg, W'.length = l.length ∧ W'.take (compL l).length = compL l ∧
      f_slices_Compact_Message_L5 Tryz.prog T D N x2 n (.sl 7 id 0 l.length l.length false) (I w) (.sl 7 id k (l.length - k) l.length false) (I i) (h0.set id (.arr 7 (W.map encM) true false)) =
        x2 (.sl 7 id 0 l.length l.length false) (I (compL l).length) (h0.set id (.arr 7 (W'.map encM) true false)) := by
  intro n
  induction n with
  | zero => intro i W w _ h2 h3; omega
  | succ n ih =>
    intro i W w hi h2 h3 hW hw hwi ht hd
    have hget : (h0.set id (.arr 7 (W.map encM) true false))[id]? = some (.arr 7 (W.map encM) true false) := by simp [hid]
    rcases Nat.lt_or_ge (k + i) l.length with hlt | hge
    · have hx : l[k + i]? = some l[k + i] := List.getElem?_eq_getElem hlt
      have hy : l[k + i - 1]? = some l[k + i - 1] := List.getElem?_eq_getElem (by omega)
      have hWx : W[k + i]? = some l[k + i] := by
        have := congrArg (fun q => q[1]?) hd
        simp only [List.getElem?_drop] at this
        rw [show k + i - 1 + 1 = k + i by omega] at this
        rw [this, hx]
      have hWy : W[k + i - 1]? = some l[k + i - 1] := by
        have := congrArg (fun q => q[0]?) hd
        simp only [List.getElem?_drop, Nat.add_zero] at this
        rw [this, hy]
      have hnx := compL_next (by omega) hx hy
      generalize hxx : l[k + i] = x at *
      generalize hyy : l[k + i - 1] = y at *
      have c1 : ((i : Int) < ((l.length - k : Nat) : Int)) := by omega
      have w1 : IntKind.i64.wrap ((i : Int) - 1) = ((i - 1 : Nat) : Int) := by rw [wrap64 (by omega) (by omega)]; omega
      have w2 : IntKind.i64.wrap ((i : Int) + 1) = ((i + 1 : Nat) : Int) := by rw [wrap64 (by omega) (by omega)]; omega
      have w3 : IntKind.i64.wrap ((w : Int) + 1) = ((w + 1 : Nat) : Int) := by rw [wrap64 (by omega) (by omega)]; omega
      have i1 : ∀ K : Go.AM.K β, iaK 7 (.sl 7 id k (l.length - k) l.length false) (I i) K = K (.ptr id (k + i) 0 l.length) := fun K => ia_sl i rfl (by omega) K
      have i2 : ∀ K : Go.AM.K β, iaK 7 (.sl 7 id k (l.length - k) l.length false) (I ((i - 1 : Nat) : Int)) K = K (.ptr id (k + (i - 1)) 0 l.length) := fun K => ia_sl (i - 1) rfl (by omega) K
      have i3 : ∀ K : Go.AM.K β, iaK 7 (.sl 7 id 0 l.length l.length false) (I w) K = K (.ptr id (0 + w) 0 l.length) := fun K => ia_sl w rfl (by omega) K
      have l1 := fun K : Go.AM.K β => ld_el hget hW hWx K
      have l2 := fun K : Go.AM.K β => ld_el (i := k + (i - 1)) hget hW (by rw [show k + (i - 1) = k + i - 1 by omega]; exact hWy) K
      have s1 := fun K : AV → Hp → Option β => st_el (i := 0 + w) (x := x) hget hW (by omega) K
      show ∃ W', _ ∧ _ ∧ f_slices_Compact_Message_b5 Tryz.prog T D N (f_slices_Compact_Message_L5 Tryz.prog T D N x2 n) x2 _ _ _ _ _ = _
      simp -implicitDefEqProofs only [f_slices_Compact_Message_b5, lenK_sl, arithK_lss, c1, decide_true, condK_bool, if_true, i1, l1, arithK_sub, w1, i2, l2, eqs_Me, Bool.true_xor, i3, s1, arithK_add, w3, f_slices_Compact_Message_j7, f_slices_Compact_Message_j6, w2, List.set_set]
      by_cases hxy : y = x
      · have e : (x == y) = true := by simp [hxy]
        rw [if_pos hxy] at hnx
        simp only [e, Bool.not_true, Bool.false_eq_true, if_false]
        have hkk : k + (i + 1) = k + i + 1 := by omega
        obtain ⟨W', g1, g2, g3⟩ := ih (i + 1) W w (by omega) (by omega) (by omega) hW (by rw [hkk, hnx]; exact hw) (by omega) (by rw [hkk, hnx]; exact ht) (by
          have := congrArg (List.drop 1) hd
          simp only [List.drop_drop] at this
          rw [show k + (i + 1) - 1 = k + i - 1 + 1 by omega]
          exact this)
        exact ⟨W', g1, g2, g3⟩
      · have e : (x == y) = false := by simpa using Ne.symm hxy
        rw [if_neg hxy] at hnx
        simp only [e, Bool.not_false, if_true]
        have hkk : k + (i + 1) = k + i + 1 := by omega
        rw [Nat.zero_add]
        obtain ⟨W', g1, g2, g3⟩ := ih (i + 1) (W.set w x) (w + 1) (by omega) (by omega) (by omega) (by simpa using hW) (by rw [hkk, hnx, List.length_append, ← hw]; rfl) (by omega) (by
          rw [hkk, hnx, ← ht]
          rw [List.take_add_one, List.take_set_of_le (Nat.le_refl _), List.getElem?_set_self (by omega)]
          rfl) (by
          have := congrArg (List.drop 1) hd
          simp only [List.drop_drop] at this
          rw [show k + (i + 1) - 1 = k + i - 1 + 1 by omega, List.drop_set_of_lt (by omega)]
          exact this)
        exact ⟨W', g1, g2, g3⟩
    · have hN : k + i = l.length := by omega
      have c1 : ¬ ((i : Int) < ((l.length - k : Nat) : Int)) := by omega
      refine ⟨W, hW, ?_, ?_⟩
      · rw [hN, List.take_length] at ht hw
        rw [← hw]; exact ht
      · show f_slices_Compact_Message_b5 Tryz.prog T D N (f_slices_Compact_Message_L5 Tryz.prog T D N x2 n) x2 _ _ _ _ _ = _
        rw [hN, List.take_length] at hw
        simp only [f_slices_Compact_Message_b5, lenK_sl, arithK_lss, c1, decide_false, condK_bool, Bool.false_eq_true, if_false]
        rw [hw]
theorem Compact_j4 {β : Type} {T : Tab} {D : DTab} {N : Nat} {xn : AV → AV → Hp → Option β} {x0 : AV → Hp → Option β} {xr : AV → Hp → Option β} {W : List Msg} {id w n : Nat} {h : Hp} (hid : h[id]? = some (.arr 7 (W.map encM) true false)) (hW : W.length = n) (hw : w ≤ n) :
    f_slices_Compact_Message_j4 Tryz.prog T D N xn x0 xr (.sl 7 id 0 n n false) (I w) h = xr (.sl 7 id 0 w n false) (h.set id (.arr 7 ((W.take w).map encM ++ List.replicate (n - w) zM) true false)) := by
  have hc : clrE 7 zM (.sl 7 id w (n - w) n false) h = some (.tup [], ⟨[(id, .arr 7 ((W.map encM).take w ++ List.replicate (n - w) zM ++ (W.map encM).drop (w + (n - w))) true false)], [], [id]⟩) := by
    simp only [clrE, hid]
    rw [if_pos (by simp [hW]; omega)]
  simp only [f_slices_Compact_Message_j4, sl_lo hw, sl_hi hw]
  rw [hc, effK_put rfl]
  rw [show (W.map encM).drop (w + (n - w)) = [] from List.drop_eq_nil_of_le (by simp; omega), List.append_nil, List.map_take]
theorem Compact_L2 {β : Type} {T : Tab} {D : DTab} {N : Nat} {x0 : AV → Hp → Option β} {xr : AV → Hp → Option β} {l : List Msg} {id : Nat} {h : Hp} (hid : h[id]? = some (.arr 7 (l.map encM) true false)) (hl : l.length < 1000000) (hN : 1000000 ≤ N) (hx : ∀ v h, x0 v h = xr v h) : ∀ (n i : Nat), 1 ≤ i → i ≤ l.length → l.length < i + n → compL (l.take i) = l.take i →
    f_slices_Compact_Message_L2 Tryz.prog T D N x0 xr n (.sl 7 id 0 l.length l.length false) (I i) h = xr (.sl 7 id 0 (compL l).length l.length false) (h.set id (.arr 7 ((compL l).map encM ++ List.replicate (l.length - (compL l).length) zM) true false)) := by
  intro n
  have hlt0 : id < h.length := (List.getElem?_eq_some_iff.1 hid).1
  induction n with
  | zero => intro i h1 h2 h3; omega
  | succ n ih =>
    intro i h1 h2 h3 hc
    show f_slices_Compact_Message_b2 Tryz.prog T D N (f_slices_Compact_Message_L2 Tryz.prog T D N x0 xr n) x0 xr _ _ _ = _
    rcases Nat.lt_or_ge i l.length with hlt | hge
    · have hx' : l[i]? = some l[i] := List.getElem?_eq_getElem hlt
      have hy : l[i - 1]? = some l[i - 1] := List.getElem?_eq_getElem (by omega)
      have hnx := compL_next h1 hx' hy
      generalize hxx : l[i] = x at *
      generalize hyy : l[i - 1] = y at *
      have c1 : ((i : Int) < (l.length : Int)) := by omega
      have w1 : IntKind.i64.wrap ((i : Int) - 1) = ((i - 1 : Nat) : Int) := by rw [wrap64 (by omega) (by omega)]; omega
      have w2 : IntKind.i64.wrap ((i : Int) + 1) = ((i + 1 : Nat) : Int) := by rw [wrap64 (by omega) (by omega)]; omega
      have i1 : ∀ K : Go.AM.K β, iaK 7 (.sl 7 id 0 l.length l.length false) (I i) K = K (.ptr id (0 + i) 0 l.length) := fun K => ia_sl i rfl (by omega) K
      have i2 : ∀ K : Go.AM.K β, iaK 7 (.sl 7 id 0 l.length l.length false) (I ((i - 1 : Nat) : Int)) K = K (.ptr id (0 + (i - 1)) 0 l.length) := fun K => ia_sl (i - 1) rfl (by omega) K
      have l1 := fun K : Go.AM.K β => ld_el (i := 0 + i) hid rfl (by simpa using hx') K
      have l2 := fun K : Go.AM.K β => ld_el (i := 0 + (i - 1)) hid rfl (by simpa using hy) K
      simp -implicitDefEqProofs only [f_slices_Compact_Message_b2, lenK_sl, arithK_lss, c1, decide_true, condK_bool, if_true, i1, l1, arithK_sub, w1, i2, l2, eqs_Me, Bool.false_xor, f_slices_Compact_Message_j3, arithK_add, w2, sl_lo (Nat.le_of_lt hlt)]
      by_cases hxy : y = x
      · have e : (x == y) = true := by simp [hxy]
        rw [if_pos hxy] at hnx
        simp only [e, if_true]
        have hs : h = h.set id (.arr 7 (l.map encM) true false) := (set_same hid).symm
        obtain ⟨W', g1, g2, g3⟩ := Compact_L5 (T := T) (D := D) (N := N) (x2 := fun w32_0 w32_3 h => f_slices_Compact_Message_j4 Tryz.prog T D N (f_slices_Compact_Message_L2 Tryz.prog T D N x0 xr n) x0 xr w32_0 w32_3 h) (l := l) (id := id) (k := i) (h0 := h) hlt0 hl N 1 l i (by omega) (by omega) (by omega) rfl (by rw [hnx, hc]; simp; omega) (by omega) (by rw [hnx, hc]) rfl
        rw [← hs] at g3
        refine g3.trans ?_
        rw [Compact_j4 (W := W') (by simp [hlt0]) g1 (compL_length l), List.set_set, g2]
      · have e : (x == y) = false := by simpa using Ne.symm hxy
        rw [if_neg hxy] at hnx
        simp only [e, Bool.false_eq_true, if_false]
        exact ih (i + 1) (by omega) (by omega) (by omega) (by rw [hnx, hc, take_succ_get hx'])
    · have hN : i = l.length := by omega
      subst hN
      have c1 : ¬ ((l.length : Int) < (l.length : Int)) := by omega
      rw [List.take_length] at hc
      simp only [f_slices_Compact_Message_b2, lenK_sl, arithK_lss, c1, decide_false, condK_bool, Bool.false_eq_true, if_false, hx, hc, Nat.sub_self, List.replicate_zero, List.append_nil]
      rw [set_same hid]
theorem R_Compact_val {l : List Msg} {id : Nat} {h : Hp} (hid : h[id]? = some (.arr 7 (l.map encM) true false)) (hl : l.length < 1000000) : R_slices_Compact_Message [.sl 7 id 0 l.length l.length false] h = some (.sl 7 id 0 (compL l).length l.length false, h.set id (.arr 7 ((compL l).map encM ++ List.replicate (l.length - (compL l).length) zM) true false)) := by
  rw [R_slices_Compact_Message_raw]
  by_cases h2 : l.length < 2
  · have hc : compL l = l := by
      match l, h2 with
      | [], _ => rfl
      | [a], _ => rfl
    have c1 : ((l.length : Int) < 2) := by omega
    simp only [f_slices_Compact_Message, lenK_sl, arithK_lss, c1, decide_true, condK_bool, if_true, hc, Nat.sub_self, List.replicate_zero, List.append_nil]
    rw [set_same hid]
  · have c1 : ¬ ((l.length : Int) < 2) := by omega
    simp only [f_slices_Compact_Message, lenK_sl, arithK_lss, c1, decide_false, condK_bool, Bool.false_eq_true, if_false]
    have := Compact_L2 (T := t_slices_Compact_Message) (D := d_slices_Compact_Message) (N := NN) (x0 := fun w33_0 h => f_slices_Compact_Message_j1 Tryz.prog t_slices_Compact_Message d_slices_Compact_Message NN (fun v h => some (v, h)) w33_0 h) (xr := fun w34_2 h => some (w34_2, h)) hid hl NN_ge (fun v h => rfl) NN 1 (by omega) (by omega) (by have := NN_ge; omega) (by
      match l, h2 with
      | a :: l, _ => rfl)
    exact this
theorem R_Compact_nil (h : Hp) : R_slices_Compact_Message [nilS] h = some (nilS, h) := by
  rw [R_slices_Compact_Message_raw]
  simp [f_slices_Compact_Message]
theorem R_Clone_Msg (l : List Msg) (b : Bool) (hl : l.length < 1000000) (h : Hp) : R_slices_Clone_Message [SLm b l] h = if (b && l.isEmpty) = true then some (nilS, h) else some (.sl 7 (h.length + 1) 0 l.length l.length false, h ++ [.arr 7 [] true false, .arr 7 (l.map encM) true false]) := by
  rw [R_slices_Clone_Message_raw]
  by_cases hb : (b && l.isEmpty) = true
  · simp [f_slices_Clone_Message, hb]
  · have hb' : (b && l.isEmpty) = false := by simpa using hb
    have hle : l.length * 56 ≤ 140737488355328 := by omega
    have h2 : ((l.map encM).all fun e => e.length == 7) = true := by simp [encM]
    simp [f_slices_Clone_Message, hb', bsE, fillS, appE, readSl, hle, h2, ap]
def ltM (a b : Msg) : Bool := ltZ (cellsM a) (cellsM b)
def sortM (l : List Msg) : List Msg := l.mergeSort fun x y => !ltM y x
theorem cmp_rows (x y : List Int) (hx : x.length = 7) (hy : y.length = 7) : F_document_compare [.agg (encZ x), .agg (encZ y)] [] = some (.s (.int .i64 (lexZ x y)), []) := by
  match x, hx, y, hy with
  | [a0, a1, a2, a3, a4, a5, a6], _, [b0, b1, b2, b3, b4, b5, b6], _ => exact F_document_compare_val ⟨a0, a1, a2, a3, a4, a5, a6⟩ ⟨b0, b1, b2, b3, b4, b5, b6⟩ []
theorem F_Sort_val {l : List Msg} {id : Nat} {h : Hp} {b : Bool} (hid : h[id]? = some (.arr 7 (l.map encM) true b)) (hl : l.length < 1000000) : F_slices_SortFunc_Message__document_compare [.sl 7 id 0 l.length l.length false, .fn 76 []] h = some (.tup [], h.set id (.arr 7 ((sortM l).map encM) true b)) := by
  have e1 : ((l.map encM).drop 0).take l.length = (l.map cellsM).map encZ := by
    rw [List.drop_zero, List.map_map, List.take_of_length_le (by simp)]
    rfl
  refine (sortZ_val (g := 76) cmp_rows hid (by simp) (by simp) (by omega) (l := l.map cellsM) (by simp [cellsM]) e1).trans ?_
  have e2 : (l.map cellsM).mergeSort (fun x y => !ltZ y x) = (sortM l).map cellsM := by
    unfold sortM
    rw [List.map_mergeSort]
    intro a _ b _
    rfl
  rw [e2, List.map_map, show encZ ∘ cellsM = encM from rfl, List.take_zero, List.nil_append, List.drop_eq_nil_of_le (by simp), List.append_nil]
theorem F_Sort_nil (h : Hp) : F_slices_SortFunc_Message__document_compare [nilS, .fn 76 []] h = some (.tup [], h) := rfl
def normL (l : List Msg) : List Msg := compL (sortM l)
section
variable {β : Type} {P : Program} {T : Tab} {D : DTab} {N : Nat} {K : AV → Hp → Option β}
theorem IndexFunc_Message_L2 {x0 : Hp → Option β} {xr : AV → Hp → Option β} {l : List Msg} {b : Bool} {fv : AV} {h : Hp} {p : Msg → Bool} (hl : l.length < 4611686018427387904) (hp : ∀ x ∈ l, ∀ k : AV → Hp → Option β, callVK T fv [.agg (encM x)] h k = k (B (p x)) h) :
    ∀ (n i : Nat), i ≤ l.length → l.length < i + n → f_slices_IndexFunc_Message_L2 P T D N x0 xr n (.lst 7 b (l.map encM)) fv (I l.length) (I i) h = match (l.drop i).findIdx? p with | some j => xr (I ((i + j : Nat) : Int)) h | none => x0 h := by
  intro n
  induction n with
  | zero => intro i h1 h2; omega
  | succ n ih =>
    intro i h1 h2
    show f_slices_IndexFunc_Message_b2 P T D N (f_slices_IndexFunc_Message_L2 P T D N x0 xr n) x0 xr _ _ _ _ h = _
    unfold f_slices_IndexFunc_Message_b2
    rcases Nat.lt_or_ge i l.length with hi | hi
    · have hx : l[i]? = some l[i] := List.getElem?_eq_getElem hi
      have hlt : ((i : Int) < (l.length : Int)) := by omega
      have hw : IntKind.i64.wrap ((i : Int) + 1) = ((i + 1 : Nat) : Int) := by rw [wrap64 (by omega) (by omega)]; omega
      have hpx := hp l[i] (List.getElem_mem hi)
      rw [List.drop_eq_getElem_cons hi, List.findIdx?_cons]
      simp [hlt, hx, hw, encM] at hpx ⊢
      rw [hpx]
      cases hc : p l[i] with
      | true => simp
      | false =>
        have h3 := ih (i + 1) hi (by omega)
        rw [show ((i : Int) + 1) = ((i + 1 : Nat) : Int) by omega]
        simp only [Bool.false_eq_true, if_false]
        refine h3.trans ?_
        cases (List.drop (i + 1) l).findIdx? p with
        | none => rfl
        | some j =>
          show xr (I ((i + 1 + j : Nat) : Int)) h = xr (I ((i + (j + 1) : Nat) : Int)) h
          rw [show i + 1 + j = i + (j + 1) by omega]
    · have : i = l.length := by omega
      subst this
      simp
theorem IndexFunc_Message_K {l : List Msg} {b : Bool} {fv : AV} {h : Hp} {p : Msg → Bool} {K : AV → Hp → Option β} (hl : l.length < N) (hN : N < 4611686018427387904) (hp : ∀ x ∈ l, ∀ k : AV → Hp → Option β, callVK T fv [.agg (encM x)] h k = k (B (p x)) h) :
    f_slices_IndexFunc_Message P T D N K (.lst 7 b (l.map encM)) fv h = K (I (match l.findIdx? p with | some j => (j : Int) | none => -1)) h := by
  unfold f_slices_IndexFunc_Message
  simp only [lenK_lst, List.length_map]
  have := IndexFunc_Message_L2 (P := P) (D := D) (N := N) (b := b) (x0 := fun h => f_slices_IndexFunc_Message_j1 P T D N K h) (xr := fun a h => K a h) (by omega) hp N 0 (Nat.zero_le _) (by omega)
  simp only [List.drop_zero] at this
  refine this.trans ?_
  cases l.findIdx? p with
  | none => rfl
  | some j => simp
end
theorem F_document_Normal_1_val (m : Msg) (h : Hp) : F_document_Normal_1 [.agg (encM m)] h = some (B (checkM m != 0), h) := by
  refine F_document_Normal_1_run (by simp [encM]) ?_ h
  have f := F_document_Check_val m
  obtain ⟨a0, a1, a2, a3, a4, a5, a6⟩ := m
  simp only [encM] at f
  simp -implicitDefEqProofs only [f_document_Normal_1, encM, encDo, faK_ptr, faK_ep, Nat.zero_add, Nat.add_zero, Nat.reduceAdd, ld7_0_0, es7_0_0, ed7_0_0, ld7_0_1, es7_0_1, ed7_0_1, ld7_0_2, es7_0_2, ed7_0_2, ld7_0_3, es7_0_3, ed7_0_3, ld7_0_4, es7_0_4, ed7_0_4, ld7_0_5, es7_0_5, ed7_0_5, ld7_0_6, es7_0_6, ed7_0_6, lw7_0, ew7_0, bx7_0, ld7_1_0, es7_1_0, ed7_1_0, ld7_1_1, es7_1_1, ed7_1_1, ld7_1_2, es7_1_2, ed7_1_2, ld7_1_3, es7_1_3, ed7_1_3, ld7_1_4, es7_1_4, ed7_1_4, ld7_1_5, es7_1_5, ed7_1_5, ld7_1_6, es7_1_6, ed7_1_6, lw7_1, ew7_1, bx7_1, ld7_2_0, es7_2_0, ed7_2_0, ld7_2_1, es7_2_1, ed7_2_1, ld7_2_2, es7_2_2, ed7_2_2, ld7_2_3, es7_2_3, ed7_2_3, ld7_2_4, es7_2_4, ed7_2_4, ld7_2_5, es7_2_5, ed7_2_5, ld7_2_6, es7_2_6, ed7_2_6, lw7_2, ew7_2, bx7_2, ld7_3_0, es7_3_0, ed7_3_0, ld7_3_1, es7_3_1, ed7_3_1, ld7_3_2, es7_3_2, ed7_3_2, ld7_3_3, es7_3_3, ed7_3_3, ld7_3_4, es7_3_4, ed7_3_4, ld7_3_5, es7_3_5, ed7_3_5, ld7_3_6, es7_3_6, ed7_3_6, lw7_3, ew7_3, bx7_3, ldK_ep, arithK_lss, arithK_leq, arithK_gtr, arithK_geq, grpK_or, grpK_and, condK_bool, eqK_int, notK_bool, Bool.false_xor, Bool.true_xor, callK_F, exK_tup, lenK_lst, lenK_sl, lenK_nil, List.length_map, t_document_Normal_1_73, f]
  rfl
theorem F_Contains_check (l : List Msg) (hl : l.length < 1000000) (b : Bool) (h : Hp) : F_slices_ContainsFunc_Message__document_Normal_1 [SLm b l, .fn 72 []] h = some (B (l.any fun m => checkM m != 0), h) := by
  have e : ∀ h, F_slices_IndexFunc_Message__document_Normal_1 [SLm b l, .fn 72 []] h = some (I (match l.findIdx? (fun m => checkM m != 0) with | some j => (j : Int) | none => -1), h) :=
    F_slices_IndexFunc_Message__document_Normal_1_run rfl (by
      simp only [nrm, nrmC]
      rw [IndexFunc_Message_K (p := fun m => checkM m != 0) (by have := NN_ge; omega) NN_lt (fun x hx k => by simp [F_document_Normal_1_val])]
      rfl)
  refine F_slices_ContainsFunc_Message__document_Normal_1_run rfl ?_ h
  simp only [nrm, nrmC, f_slices_ContainsFunc_Message, t_slices_ContainsFunc_Message__document_Normal_1_87, callK_F, e]
  have : (l.any fun m => checkM m != 0) = (l.findIdx? fun m => checkM m != 0).isSome := by rw [List.findIdx?_isSome]
  rw [this]
  cases l.findIdx? (fun m => checkM m != 0) <;> simp
def errM (l : List Msg) : Int := if 64 < l.length then 8 else if (l.any fun m => checkM m != 0) = true then 1 else 0
theorem normL_length (l : List Msg) : (normL l).length ≤ l.length := by
  have := compL_length (sortM l)
  unfold normL
  unfold sortM at this ⊢
  rwa [List.length_mergeSort] at this
theorem compL_nil {l : List Msg} : compL l = [] ↔ l = [] := by
  match l with
  | [] => simp [compL]
  | [a] => simp [compL]
  | a :: b :: l =>
    have ih := @compL_nil (b :: l)
    simp only [compL]
    split <;> simp_all
theorem sortM_length (l : List Msg) : (sortM l).length = l.length := by unfold sortM; rw [List.length_mergeSort]
theorem normL_empty (l : List Msg) : (normL l).isEmpty = l.isEmpty := by
  rw [Bool.eq_iff_iff, List.isEmpty_iff, List.isEmpty_iff]
  unfold normL
  rw [compL_nil, ← List.length_eq_zero_iff, sortM_length, List.length_eq_zero_iff]
def normR (b : Bool) (l : List Msg) : AV := .tup [if errM l = 0 then SLm b (normL l) else .lst 7 true [], I (errM l)]
theorem F_document_Normal_val (l : List Msg) (b : Bool) (hl : l.length < 1000000) (h : Hp) : F_document_Normal [SLm b l] h = some (normR b l, h) := by
  have key : ∀ st, (f_document_Normal Tryz.prog t_document_Normal d_document_Normal NN (fun v g => cvt st g v) (SLm b l) []) = some (.tup [if errM l = 0 then (if (b && l.isEmpty) = true then nilS else SLm b (normL l)) else nilS, I (errM l)]) := by
    intro st
    have f1 := F_Contains_check l hl b
    have f2 := R_Clone_Msg l b hl
    by_cases h1 : 64 < l.length
    · have c1 : ((64 : Int) < (l.length : Int)) := by omega
      simp [f_document_Normal, c1, errM, h1]
    · have c1 : ¬ ((64 : Int) < (l.length : Int)) := by omega
      cases h2 : (l.any fun m => checkM m != 0) with
      | true =>
        rw [h2] at f1
        simp only [f_document_Normal, lenK_lst, List.length_map, arithK_gtr, c1, decide_false, condK_bool, Bool.false_eq_true, if_false, t_document_Normal_71, callK_F, f1, if_true, errM, h1, h2]
        rfl
      | false =>
        rw [h2] at f1
        simp only [f_document_Normal, lenK_lst, List.length_map, arithK_gtr, c1, decide_false, condK_bool, Bool.false_eq_true, if_false, t_document_Normal_71, t_document_Normal_74, t_document_Normal_75, t_document_Normal_77, callK_F, f1, errM, h1, h2, f2, if_true]
        by_cases hb : (b && l.isEmpty) = true
        · simp only [hb, if_true, F_Sort_nil, R_Compact_nil]
          rfl
        · have hb' : (b && l.isEmpty) = false := by simpa using hb
          simp only [hb', Bool.false_eq_true, if_false, List.length_nil, Nat.zero_add, List.nil_append]
          rw [F_Sort_val (l := l) (b := false) rfl hl]
          simp only [List.set_cons_succ, List.set_cons_zero]
          have hs := sortM_length l
          have := R_Compact_val (l := sortM l) (id := 1) (h := [.arr 7 [] true false, .arr 7 ((sortM l).map encM) true false]) rfl (by omega)
          rw [hs] at this
          rw [this]
          simp only [List.set_cons_succ, List.set_cons_zero, cvt_tup, cvts_cons, cvts_nil, cvt_s]
          have hn : (compL (sortM l)).length ≤ l.length := by have := compL_length (sortM l); omega
          have : cvt st [.arr 7 [] true false, .arr 7 ((compL (sortM l)).map encM ++ List.replicate (l.length - (compL (sortM l)).length) zM) true false] (.sl 7 1 0 (compL (sortM l)).length l.length false) = some (.lst 7 false ((compL (sortM l)).map encM)) := by
            have ok : okE st ((compL (sortM l)).map encM) = true := okE_map fun x => by cases st <;> simp [encM, isS]
            have tk : (((compL (sortM l)).map encM ++ List.replicate (l.length - (compL (sortM l)).length) zM).drop 0).take (compL (sortM l)).length = (compL (sortM l)).map encM := by
              rw [List.drop_zero, List.take_append_of_le_length (by simp), List.take_of_length_le (by simp)]
            have hg : ([.arr 7 [] true false, .arr 7 ((compL (sortM l)).map encM ++ List.replicate (l.length - (compL (sortM l)).length) zM) true false] : Hp)[1]? = some (.arr 7 ((compL (sortM l)).map encM ++ List.replicate (l.length - (compL (sortM l)).length) zM) true false) := rfl
            unfold cvt
            rw [hg]
            simp only []
            rw [if_pos (by simp; omega), tk, if_pos ok]
          rw [this]
          show some (AV.tup [AV.lst 7 false ((normL l).map encM), I 0]) = some (.tup [.lst 7 (b && (normL l).isEmpty) ((normL l).map encM), I 0])
          rw [normL_empty, hb']
  refine (F_document_Normal_run (a0 := SLm b l) rfl (key false) h).trans ?_
  unfold normR
  by_cases h0 : errM l = 0
  · simp only [h0, if_true]
    by_cases hb : (b && l.isEmpty) = true
    · have hb2 : (b && (normL l).isEmpty) = true := by rw [normL_empty]; exact hb
      have hn : normL l = [] := by simpa using (Bool.and_eq_true_iff.1 hb2).2
      have hb1 := (Bool.and_eq_true_iff.1 hb).1
      subst hb1
      simp only [hb, if_true, SLm, hn, List.map_nil]
      rfl
    · rw [if_neg hb]
      rfl
  · simp only [h0, if_false]
    rfl
end Go.AM


namespace Go.AM
open Go.Proofs
set_option linter.unusedVariables false
set_option linter.unusedSimpArgs false
set_option linter.constructorNameAsVariable false
theorem ltM_irrefl (a : Msg) : ltM a a = false := ltZ_irrefl _
theorem ltM_trans {a b c : Msg} (h1 : ltM a b = true) (h2 : ltM b c = true) : ltM a c = true := ltZ_trans (n := 7) rfl rfl rfl h1 h2
theorem ltM_total {a b : Msg} (h1 : ltM a b = false) (h2 : ltM b a = false) : a = b := by
  have := ltZ_total (n := 7) (a := cellsM a) (b := cellsM b) rfl rfl h1 h2
  obtain ⟨a0, a1, a2, a3, a4, a5, a6⟩ := a
  obtain ⟨b0, b1, b2, b3, b4, b5, b6⟩ := b
  simpa [cellsM] using this
theorem ltM_asymm {a b : Msg} (h : ltM a b = true) : ltM b a = false := by
  cases h2 : ltM b a with
  | false => rfl
  | true => have := ltM_trans h h2; rw [ltM_irrefl] at this; cases this
abbrev Srt (l : List Msg) : Prop := l.Pairwise fun a b => ltM a b = true
theorem srt_unique : ∀ {a b : List Msg}, Srt a → Srt b → (∀ x, x ∈ a ↔ x ∈ b) → a = b
  | [], [], _, _, _ => rfl
  | [], y :: b, _, _, h => by have := (h y).2 (by simp); simp at this
  | x :: a, [], _, _, h => by have := (h x).1 (by simp); simp at this
  | x :: a, y :: b, ha, hb, h => by
    rw [Srt, List.pairwise_cons] at ha hb
    have e : x = y := by
      rcases List.mem_cons.1 ((h x).1 (by simp)) with e | h1
      · exact e
      · rcases List.mem_cons.1 ((h y).2 (by simp)) with e | h2
        · exact e.symm
        · have h3 := hb.1 x h1
          have h4 := ha.1 y h2
          have := ltM_asymm h3
          rw [h4] at this
          cases this
    subst e
    rw [srt_unique ha.2 hb.2 fun z => ?_]
    have hz := h z
    simp only [List.mem_cons] at hz
    constructor
    · intro hm
      rcases hz.1 (.inr hm) with rfl | h1
      · have := ha.1 z hm; rw [ltM_irrefl] at this; cases this
      · exact h1
    · intro hm
      rcases hz.2 (.inr hm) with rfl | h1
      · have := hb.1 z hm; rw [ltM_irrefl] at this; cases this
      · exact h1
theorem mem_compL : ∀ {l : List Msg} {x : Msg}, x ∈ compL l ↔ x ∈ l
  | [], x => by simp [compL]
  | [a], x => by simp [compL]
  | a :: b :: l, x => by
    have ih := @mem_compL (b :: l) x
    simp only [compL]
    split
    · rename_i e
      subst e
      rw [ih]; simp
    · rw [List.mem_cons, ih, List.mem_cons (a := x) (b := a)]
theorem srt_compL : ∀ {l : List Msg}, l.Pairwise (fun a b => ltM b a = false) → Srt (compL l)
  | [], _ => by simp [compL]
  | [a], _ => by simp [compL]
  | a :: b :: l, h => by
    rw [List.pairwise_cons] at h
    have ih := srt_compL h.2
    simp only [compL]
    split
    · exact ih
    · rename_i hne
      rw [Srt, List.pairwise_cons]
      refine ⟨fun x hx => ?_, ih⟩
      rw [mem_compL] at hx
      cases h1 : ltM a x with
      | true => rfl
      | false =>
        have e := ltM_total h1 (h.1 x hx)
        subst e
        rcases List.mem_cons.1 hx with e | hx
        · exact absurd e hne
        · rw [List.pairwise_cons] at h
          exact absurd (ltM_total (h.2.1 a hx) (h.1 b (by simp))) hne
theorem sortM_pw (l : List Msg) : (sortM l).Pairwise fun a b => ltM b a = false := by
  have := List.pairwise_mergeSort (le := fun x y : Msg => !ltM y x) (fun a b c h1 h2 => ?_) (fun a b => ?_) l
  · exact this.imp fun h => by simpa using h
  · simp only [Bool.not_eq_true'] at h1 h2 ⊢
    cases h3 : ltM c a with
    | false => rfl
    | true =>
      cases h4 : ltM a b with
      | true => rw [ltM_trans h3 h4] at h2; cases h2
      | false =>
        have := ltM_total h4 h1
        subst this
        rw [h3] at h2; cases h2
  · cases h1 : ltM b a with
    | false => rfl
    | true => simp [ltM_asymm h1]
theorem mem_sortM {l : List Msg} {x : Msg} : x ∈ sortM l ↔ x ∈ l := by
  unfold sortM
  exact (List.mergeSort_perm l _).mem_iff
theorem normL_srt (l : List Msg) : Srt (normL l) := srt_compL (sortM_pw l)
theorem mem_normL {l : List Msg} {x : Msg} : x ∈ normL l ↔ x ∈ l := by unfold normL; rw [mem_compL, mem_sortM]
theorem normL_eq {l o : List Msg} (h1 : Srt o) (h2 : ∀ x, x ∈ o ↔ x ∈ l) : o = normL l := srt_unique h1 (normL_srt l) fun x => by rw [h2, mem_normL]
theorem errM_zero {l : List Msg} : errM l = 0 ↔ l.length ≤ 64 ∧ ∀ m ∈ l, checkM m = 0 := by
  unfold errM
  constructor
  · intro h
    split at h
    · simp at h
    · split at h
      · simp at h
      · rename_i h1 h2
        refine ⟨by omega, fun m hm => ?_⟩
        simp only [Bool.not_eq_true, List.any_eq_false] at h2
        simpa using h2 m hm
  · rintro ⟨h1, h2⟩
    rw [if_neg (by omega), if_neg]
    simp only [Bool.not_eq_true, List.any_eq_false]
    intro m hm
    simpa using h2 m hm
end Go.AM


namespace Go.AM
open Go.Proofs
set_option linter.unusedVariables false
set_option linter.unusedSimpArgs false
set_option linter.constructorNameAsVariable false
set_option maxRecDepth 20000
attribute [local congr] arithK_cg eqK_cg notK_cg convK_cg pickK_cg buildK_cg ldK_cg nilK_cg sliceK_cg faK_cg fldK_cg iaK_cg iaA_cg lookK_cg capK_cg exK_cg lenK_cg minK_cg maxK_cg effK_cg callK_cg callVK_cg effD_cg gopD_cg grpK_cg condK_cg cond_cg
end Go.AM


namespace Go.AM
set_option linter.unusedVariables false
set_option linter.unusedSimpArgs false
set_option linter.constructorNameAsVariable false
set_option maxRecDepth 30000
variable {β : Type} {P : Program} {kt : TypeId} {kk : IntKind}
structure TwoInts (P : Program) (kt : TypeId) (t : TypeId) : Prop where
  st : ∃ fs : Array Field, P.underlying kt = some (.struct fs) ∧ ∃ f0 f1 : Field, fs = #[f0, f1] ∧ f0.type = t ∧ f1.type = t ∧ f0.offset = 0 ∧ f1.offset = 1 ∧ (f0.name = "_") = False ∧ (f1.name = "_") = False
  it : P.underlying t = some (.int .i64)
  held : P.stoodInHeld kt = false
theorem part_at {t : TypeId} (it : P.underlying t = some (.int .i64)) (cs : Array Value) (i : Nat) {v : Value} (hv : cs[i]? = some v) : pureVal P (part t cs i) = some v := by
  unfold part
  rw [pureVal_bnd]
  have : pureVal P (isAgg t) = some false := by
    unfold isAgg
    rw [pureVal_bnd, pureVal_underlying it]
    rfl
  rw [this, Option.bind_some]
  simp [hv]
  rfl
theorem equal_int {t : TypeId} (it : P.underlying t = some (.int .i64)) (d : Nat) (a b : Int) : pureVal P (Op.equalIn (d + 1) t (.int .i64 a) (.int .i64 b)) = some (a == b) := by
  unfold Op.equalIn
  rw [pureVal_bnd, pureVal_underlying it]
  rfl
theorem equal_two {t : TypeId} (H : TwoInts P kt t) (a b c e : Int) : pureVal P (Op.equal kt (.agg #[.int .i64 a, .int .i64 b]) (.agg #[.int .i64 c, .int .i64 e])) = some (a == c && b == e) := by
  obtain ⟨⟨fs, hu, f0, f1, rfl, t0, t1, o0, o1, q0, q1⟩, it, hh⟩ := H
  unfold Op.equal
  rw [show Op.maxDepth = (Op.maxDepth - 2) + 1 + 1 from rfl]
  unfold Op.equalIn
  rw [pureVal_bnd, pureVal_underlying hu]
  simp only [Option.bind_some]
  have pp : pureVal P program = some P := rfl
  have e0 := part_at it #[.int .i64 a, .int .i64 b] 0 (v := .int .i64 a) rfl
  have e1 := part_at it #[.int .i64 a, .int .i64 b] 1 (v := .int .i64 b) rfl
  have e2 := part_at it #[.int .i64 c, .int .i64 e] 0 (v := .int .i64 c) rfl
  have e3 := part_at it #[.int .i64 c, .int .i64 e] 1 (v := .int .i64 e) rfl
  have g0 := equal_int it (Op.maxDepth - 2) a c
  have g1 := equal_int it (Op.maxDepth - 2) b e
  rw [pureVal_bnd, pp, Option.bind_some, hh]
  simp only [Bool.false_eq_true, if_false, ← Array.forIn_toList, List.forIn_cons, List.forIn_nil, pureVal_bnd, t0, t1, o0, o1, q0, q1, e0, e1, e2, e3, g0, g1, Option.bind_some, ne_eq, not_false_eq_true, if_true]
  cases h1 : (a == c) <;> cases h2 : (b == e) <;> simp [h1, h2, pureVal_bnd, pureVal_pure, e1, e3, g1]
theorem keyEq_two {t : TypeId} (H : TwoInts P kt t) (a b c e : Int) : keyEq P kt (.agg #[.int .i64 a, .int .i64 b]) (.agg #[.int .i64 c, .int .i64 e]) = some (decide ((a, b) = (c, e))) := by
  unfold keyEq
  rw [equal_two H]
  by_cases h1 : a = c
  · by_cases h2 : b = e
    · subst h1 h2
      have : Instr.sameBits 10000 (.agg #[.int .i64 a, .int .i64 b]) (.agg #[.int .i64 a, .int .i64 b]) = true := by simp [Instr.sameBits]
      simp [this]
    · have : (b == e) = false := by simpa using h2
      rw [this]
      simp [h2]
  · have : (a == c) = false := by simpa using h1
    rw [this]
    simp [h1]
theorem keyOk_two {t : TypeId} (H : TwoInts P kt t) (a b : Int) : keyOk P kt (.agg #[.int .i64 a, .int .i64 b]) = true := by
  obtain ⟨⟨fs, hu, f0, f1, rfl, t0, t1, o0, o1, q0, q1⟩, it, hh⟩ := H
  have ck : ∀ (m : Bool) (n : Nat) (v : Int), pureVal P (Instr.checkKey m (n + 1) t (.int .i64 v)) = some () := by
    intro m n v
    unfold Instr.checkKey
    rw [pureVal_bnd, pureVal_underlying it]
    rfl
  have e0 := part_at it #[.int .i64 a, .int .i64 b] 0 (v := .int .i64 a) rfl
  have e1 := part_at it #[.int .i64 a, .int .i64 b] 1 (v := .int .i64 b) rfl
  have key : ∀ m, pureVal P (Instr.checkKey m 10000 kt (.agg #[.int .i64 a, .int .i64 b])) = some () := by
    intro m
    rw [show (10000 : Nat) = 9998 + 1 + 1 from rfl]
    unfold Instr.checkKey
    rw [pureVal_bnd, pureVal_underlying hu]
    simp only [Option.bind_some]
    simp only [← Array.forIn_toList, List.forIn_cons, List.forIn_nil, pureVal_bnd, t0, t1, o0, o1, q0, q1, e0, e1, ck, Option.bind_some, ne_eq, not_false_eq_true, if_true, pureVal_pure]
  unfold keyOk
  rw [key, key]
  rfl
abbrev keyT (p : Int × Int) : Value := .agg #[.int .i64 p.1, .int .i64 p.2]
abbrev keyA (p : Int × Int) : AV := .agg [.s (.int .i64 p.1), .s (.int .i64 p.2)]
section
variable {α : Type}
def kvT (f : α → AV) (c : List ((Int × Int) × α)) : List (Value × AV) := c.map fun e => (keyT e.1, f e.2)
def fndT : List ((Int × Int) × α) → Int × Int → Option (Nat × α)
  | [], _ => none
  | (q, x) :: r, p => if p = q then some (0, x) else (fndT r p).map fun y => (y.1 + 1, y.2)
def updT : List ((Int × Int) × α) → Int × Int → α → List ((Int × Int) × α)
  | [], p, x => [(p, x)]
  | (q, y) :: r, p, x => if p = q then (p, x) :: r else (q, y) :: updT r p x
theorem fndT_get : ∀ {c : List ((Int × Int) × α)} {p : Int × Int} {j : Nat} {x : α}, fndT c p = some (j, x) → c[j]? = some (p, x) ∧ ∀ y, updT c p y = c.set j (p, y)
  | [], p, j, x, h => by simp [fndT] at h
  | (q, y) :: r, p, j, x, h => by
    simp only [fndT] at h
    by_cases e : p = q
    · rw [if_pos e] at h
      simp only [Option.some.injEq, Prod.mk.injEq] at h
      obtain ⟨rfl, rfl⟩ := h
      subst e
      exact ⟨rfl, fun z => by simp [updT]⟩
    · rw [if_neg e] at h
      simp only [Option.map_eq_some_iff, Prod.mk.injEq] at h
      obtain ⟨⟨i, z⟩, h1, rfl, rfl⟩ := h
      obtain ⟨h2, h3⟩ := fndT_get h1
      exact ⟨by simpa using h2, fun w => by simp only [updT, if_neg e, h3]; rfl⟩
theorem fndT_none : ∀ {c : List ((Int × Int) × α)} {p : Int × Int}, fndT c p = none → (∀ y, updT c p y = c ++ [(p, y)]) ∧ ∀ y, fndT (c ++ [(p, y)]) p = some (c.length, y)
  | [], p, _ => ⟨fun _ => rfl, fun _ => by simp [fndT]⟩
  | (q, z) :: r, p, h => by
    simp only [fndT] at h
    by_cases e : p = q
    · rw [if_pos e] at h; cases h
    · rw [if_neg e, Option.map_eq_none_iff] at h
      obtain ⟨h1, h2⟩ := fndT_none h
      exact ⟨fun y => by simp only [updT, if_neg e, h1]; rfl, fun y => by simp only [List.cons_append, fndT, if_neg e, h2]; rfl⟩
theorem fndT_upd : ∀ (c : List ((Int × Int) × α)) (p q : Int × Int) (x : α), (fndT (updT c p x) q).map (·.2) = if q = p then some x else (fndT c q).map (·.2)
  | [], p, q, x => by simp only [updT, fndT]; by_cases e : q = p <;> simp [e]
  | (r, y) :: c, p, q, x => by
    have ih := fndT_upd c p q x
    simp only [updT]
    by_cases e : p = r
    · subst e
      simp only [if_true, fndT]
      by_cases e2 : q = p <;> simp [e2]
    · simp only [if_neg e, fndT]
      by_cases e2 : q = r
      · subst e2
        simp [Ne.symm e]
      · simp only [if_neg e2, Option.map_map]
        rw [show ((fun x : Nat × α => x.2) ∘ fun y : Nat × α => (y.1 + 1, y.2)) = fun x => x.2 from rfl]
        exact ih
variable {f : α → AV} {t : TypeId}
theorem findKV_two (H : TwoInts P kt t) (p : Int × Int) : ∀ c : List ((Int × Int) × α), findKV (kvT f c) (keyEq P kt) (keyT p) = some ((fndT c p).map fun r => (r.1, f r.2))
  | [] => rfl
  | (q, x) :: c => by
    have ih := findKV_two H p c
    simp only [kvT, List.map_cons, findKV, keyEq_two H, fndT] at ih ⊢
    by_cases e : p = q
    · subst e; simp
    · have hd : decide ((p.1, p.2) = (q.1, q.2)) = false := decide_eq_false e
      simp only [hd, if_neg e, ih, Option.map_some, Option.map_map]
      rfl
theorem lookupKV_two (H : TwoInts P kt t) (p : Int × Int) : ∀ c : List ((Int × Int) × α), lookupKV (kvT f c) (keyEq P kt) (keyT p) = some ((fndT c p).map fun r => f r.2)
  | [] => rfl
  | (q, x) :: c => by
    have ih := lookupKV_two H p c
    simp only [kvT, List.map_cons, lookupKV, keyEq_two H, fndT] at ih ⊢
    by_cases e : p = q
    · subst e; simp
    · have hd : decide ((p.1, p.2) = (q.1, q.2)) = false := decide_eq_false e
      simp only [hd, if_neg e, ih, Option.map_map]
      rfl
theorem lookK_two {h : Hp} {id : Nat} {c : List ((Int × Int) × α)} {z : AV} {ok : Bool} {p : Int × Int} (H : TwoInts P kt t) (hid : h[id]? = some (.map (kvT f c))) (k : K β) :
    lookK P kt z ok (.mp id) (keyA p) h k = match fndT c p with
      | some r => k (if ok then .tup [f r.2, .s (.bool true)] else f r.2)
      | none => k (if ok then .tup [z, .s (.bool false)] else z) := by
  unfold lookK
  have e : toV (keyA p) = some (keyT p) := rfl
  simp only [e, hid, keyOk_two H, lookupKV_two H p c, if_true]
  cases fndT c p <;> rfl
theorem bump_two {h : Hp} {id : Nat} {c : List ((Int × Int) × α)} {p : Int × Int} {z x : α} (H : TwoInts P kt t) (hid : h[id]? = some (.map (kvT f c))) :
    ∃ (b : AV) (j : Nat) (c1 : List ((Int × Int) × α)), mentE P kt (f z) (.mp id) (keyA p) h = some (.tup [b, .s (.int .i64 j)], ⟨[(id, .map (kvT f c1))], [], [id]⟩) ∧
      ∀ h1 : Hp, h1[id]? = some (.map (kvT f c1)) → estE (.mp id) (.s (.int .i64 j)) (f x) h1 = some (.u, ⟨[(id, .map (kvT f (updT c p x)))], [], [id]⟩) := by
  have e : toV (keyA p) = some (keyT p) := rfl
  cases hf : fndT c p with
  | some r =>
    obtain ⟨j, y⟩ := r
    obtain ⟨g1, g2⟩ := fndT_get hf
    have gk : (kvT f c)[j]? = some (keyT p, f y) := by simp [kvT, g1]
    have gs : (kvT f c).set j (keyT p, f y) = kvT f c := set_same gk
    refine ⟨f y, j, c, ?_, fun h1 hh => ?_⟩
    · unfold mentE
      simp only [e, hid, keyOk_two H, findKV_two H p c, hf, Option.map_some, if_true, gs]
    · unfold estE
      simp only [hh]
      rw [if_pos (by omega), Int.toNat_natCast, gk]
      simp only [kvT, g2, List.map_set]
  | none =>
    obtain ⟨g1, g2⟩ := fndT_none hf
    have ga : kvT f c ++ [(keyT p, f z)] = kvT f (c ++ [(p, z)]) := by simp [kvT]
    have gl : (kvT f c).length = c.length := by simp [kvT]
    refine ⟨f z, c.length, c ++ [(p, z)], ?_, fun h1 hh => ?_⟩
    · unfold mentE
      simp only [e, hid, keyOk_two H, findKV_two H p c, hf, Option.map_none, if_true, ga, findKV_two H p (c ++ [(p, z)]), g2, Option.map_some, gl]
    · unfold estE
      simp only [hh]
      rw [if_pos (by omega), Int.toNat_natCast]
      have : (kvT f (c ++ [(p, z)]))[c.length]? = some (keyT p, f z) := by simp [kvT]
      rw [this]
      simp [kvT, g1]
end
theorem leftIt_mem {n j : Nat} {seen : List Nat} : j ∈ leftIt n seen ↔ j < n ∧ j ∉ seen := by
  unfold leftIt
  rw [List.mem_filter, List.mem_range]
  simp
theorem leftIt_snoc {n j : Nat} {seen : List Nat} (hj : j ∈ leftIt n seen) : (leftIt n (seen ++ [j])).length < (leftIt n seen).length := by
  obtain ⟨h1, h2⟩ := leftIt_mem.1 hj
  unfold leftIt
  have : (List.range n).filter (fun i => !(seen ++ [j]).contains i) = ((List.range n).filter fun i => !seen.contains i).filter fun i => i != j := by
    rw [List.filter_filter]
    congr 1
    funext i
    simp [List.contains_append]
    by_cases e : i = j <;> simp [e]
  rw [this]
  exact List.length_filter_lt_length_iff_exists.2 ⟨j, hj, by simp⟩
theorem allSame_of {d x : Option β} {l : List (Option β)} (h0 : l = [] → d = x) (h : ∀ y ∈ l, y = x) : allSame d l = x := by
  cases l with
  | nil => exact h0 rfl
  | cons y ys =>
    simp only [allSame]
    rw [if_pos fun z hz => by rw [h z (by simp [hz]), h y (by simp)]]
    exact h y (by simp)
theorem nextK_of {h : Hp} {id m n : Nat} {seen : List Nat} {kvs : List (Value × AV)} {X : Option β} (hid : h[id]? = some (.iter m n seen)) (hm : h[m]? = some (.map kvs)) (hn : kvs.length = n) (k : AV → Hp → Option β)
    (h0 : leftIt n seen = [] → k (.tup [.s (.bool false)]) h = X) (h1 : ∀ j ∈ leftIt n seen, k (.tup [.s (.bool true), .u, .u]) (h.set id (.iter m n (seen ++ [j]))) = X) : nextK (.it id) h k = X := by
  unfold nextK
  simp only [hid, hm, hn, if_true]
  refine allSame_of (fun e => h0 (by simpa using e)) fun y hy => ?_
  obtain ⟨j, hj, rfl⟩ := List.mem_map.1 hy
  exact h1 j hj
theorem entryK_at {h : Hp} {id m n j : Nat} {seen : List Nat} {kvs : List (Value × AV)} {ky : Value} {v : AV} (hid : h[id]? = some (.iter m n (seen ++ [j]))) (hm : h[m]? = some (.map kvs)) (hn : kvs.length = n) (hj : kvs[j]? = some (ky, v)) (k : K β) : entryK (.it id) h k = k (.tup [keyAV ky, v]) := by
  unfold entryK
  simp only [hid, hm, List.getLast?_append, List.getLast?_singleton, Option.some_or, hn, if_true, hj]
end Go.AM


namespace Go.AM
open Go.Proofs
set_option linter.unusedVariables false
set_option linter.unusedSimpArgs false
set_option linter.constructorNameAsVariable false
set_option maxRecDepth 20000
attribute [local congr] arithK_cg eqK_cg notK_cg convK_cg pickK_cg buildK_cg ldK_cg nilK_cg sliceK_cg faK_cg fldK_cg iaK_cg iaA_cg lookK_cg capK_cg exK_cg lenK_cg minK_cg maxK_cg effK_cg callK_cg callVK_cg effD_cg gopD_cg grpK_cg condK_cg cond_cg
structure Fol where
  d : Docu
  en : Bool
  an : Int
  cnt : List ((Int × Int) × Int)
def cntP (c : List ((Int × Int) × Int)) (p : Int × Int) : Int := ((fndT c p).map (·.2)).getD 0
def bumpP (c : List ((Int × Int) × Int)) (p : Int × Int) : List ((Int × Int) × Int) := updT c p (IntKind.i64.wrap (cntP c p + 1))
def stepF (mv : Int) (s : Fol) (m : Msg) : Fol :=
  if m.mv ≠ mv then s
  else if m.kind = 1 then { s with d := { s.d with stage := 1, frm := m.frm, to := m.to, sent := m.alc }, cnt := bumpP s.cnt (m.kind, m.num) }
  else if m.kind = 2 then { s with d := { s.d with to := m.to, chg := IntKind.i64.wrap (s.d.chg + 1) }, cnt := bumpP s.cnt (m.kind, m.num) }
  else if m.kind = 3 then { s with d := { s.d with got := m.alc }, an := 2, cnt := bumpP s.cnt (m.kind, m.num) }
  else if m.kind = 4 then { s with an := 3, cnt := bumpP s.cnt (3, m.num) }
  else if m.kind = 5 then { s with en := true }
  else { s with cnt := bumpP s.cnt (m.kind, m.num) }
def begF (mv : Int) : Fol := ⟨⟨mv, 0, 0, 0, 0, 0, 0⟩, false, 0, []⟩
def folF (mv : Int) (l : List Msg) : Fol := l.foldl (stepF mv) (begF mv)
def noneD (mv : Int) : Docu := ⟨mv, 0, 0, 0, 0, 0, 0⟩
def confD (mv : Int) : Docu := ⟨mv, 5, 0, 0, 0, 0, 0⟩
def endF (mv : Int) (s : Fol) : Docu :=
  if s.d.stage = 0 then noneD mv
  else if (s.cnt.any fun e => decide (1 < e.2)) = true then confD mv
  else if s.an = 0 then s.d else if s.en = true then { s.d with stage := 4 } else { s.d with stage := s.an }
def docF (mv : Int) (l : List Msg) : Docu := endF mv (folF mv l)
abbrev fI : Int → AV := fun n => .s (.int .i64 n)
theorem twoP : TwoInts Tryz.prog 98 3 := ⟨⟨_, Tryz.underlying98, _, _, rfl, rfl, rfl, rfl, rfl, eq_false (by decide), eq_false (by decide)⟩, Tryz.underlying3, by kernel_rfl⟩
section
variable {β : Type}
theorem get3 {o0 o1 o2 x : AObj} {g t : Hp} : (o0 :: o1 :: o2 :: (g ++ x :: t))[g.length + 3]? = some x := by
  simp [List.getElem?_append_right]
theorem get4 {o0 o1 o2 x y : AObj} {g t : Hp} : (o0 :: o1 :: o2 :: (g ++ x :: y :: t))[g.length + 4]? = some y := by
  simp [List.getElem?_append_right]
theorem set3 {o0 o1 o2 x z : AObj} {g t : Hp} : (o0 :: o1 :: o2 :: (g ++ x :: t)).set (g.length + 3) z = o0 :: o1 :: o2 :: (g ++ z :: t) := by
  simp [List.set_append_right]
theorem set4 {o0 o1 o2 x y z : AObj} {g t : Hp} : (o0 :: o1 :: o2 :: (g ++ x :: y :: t)).set (g.length + 4) z = o0 :: o1 :: o2 :: (g ++ x :: z :: t) := by
  simp [List.set_append_right]
variable {o0 o1 o2 : AObj} {g t : Hp} {m : Msg}
theorem lq (j : Nat) (k : Go.AM.K β) {x : AV} (hx : (encM m)[j]? = some x) : ldK 1 false (.ptr (g.length + 3) 0 j 1) (o0 :: o1 :: o2 :: (g ++ .arr 7 [encM m] true false :: t)) k = k x := by
  rw [ldK_ptr, get3]
  simp [hx]
theorem lq0 (k : Go.AM.K β) : ldK 1 false (.ptr (g.length + 3) 0 0 1) (o0 :: o1 :: o2 :: (g ++ .arr 7 [encM m] true false :: t)) k = k (I m.mv) := lq 0 k rfl
theorem lq1 (k : Go.AM.K β) : ldK 1 false (.ptr (g.length + 3) 0 1 1) (o0 :: o1 :: o2 :: (g ++ .arr 7 [encM m] true false :: t)) k = k (I m.kind) := lq 1 k rfl
theorem lq2 (k : Go.AM.K β) : ldK 1 false (.ptr (g.length + 3) 0 2 1) (o0 :: o1 :: o2 :: (g ++ .arr 7 [encM m] true false :: t)) k = k (I m.num) := lq 2 k rfl
theorem lq4 (k : Go.AM.K β) : ldK 1 false (.ptr (g.length + 3) 0 4 1) (o0 :: o1 :: o2 :: (g ++ .arr 7 [encM m] true false :: t)) k = k (I m.frm) := lq 4 k rfl
theorem lq5 (k : Go.AM.K β) : ldK 1 false (.ptr (g.length + 3) 0 5 1) (o0 :: o1 :: o2 :: (g ++ .arr 7 [encM m] true false :: t)) k = k (I m.to) := lq 5 k rfl
theorem lq6 (k : Go.AM.K β) : ldK 1 false (.ptr (g.length + 3) 0 6 1) (o0 :: o1 :: o2 :: (g ++ .arr 7 [encM m] true false :: t)) k = k (I m.alc) := lq 6 k rfl
theorem bq7 (k : AV → Hp → Option β) : effK (boxE 7 (.agg zM) (o0 :: o1 :: o2 :: g).length) (o0 :: o1 :: o2 :: g) k = k (.ptr (g.length + 3) 0 0 1) (o0 :: o1 :: o2 :: (g ++ [.arr 7 [zM] true false])) := by
  exact (effK_box 7 (o0 :: o1 :: o2 :: g).length (.agg zM) _ k rfl rfl rfl).trans rfl
theorem sq7 (k : AV → Hp → Option β) : effK (stE 7 (.ptr (g.length + 3) 0 0 1) (.agg (encM m)) (o0 :: o1 :: o2 :: (g ++ [.arr 7 [zM] true false]))) (o0 :: o1 :: o2 :: (g ++ [.arr 7 [zM] true false])) k = k .u (o0 :: o1 :: o2 :: (g ++ [.arr 7 [encM m] true false])) := by
  rw [effK_put (v := .u) (id := g.length + 3) (o := .arr 7 [encM m] true false) (ft := [g.length + 3]) (by rw [stE_ptr, get3]; simp [encM]), set3]
theorem bq2 {x : AObj} (k : AV → Hp → Option β) : effK (boxE 2 (.agg [.s (.int .i64 0), .s (.int .i64 0)]) (o0 :: o1 :: o2 :: (g ++ [x])).length) (o0 :: o1 :: o2 :: (g ++ [x])) k = k (.ptr (g.length + 4) 0 0 1) (o0 :: o1 :: o2 :: (g ++ [x, .arr 2 [[I 0, I 0]] true false])) := by
  rw [effK_box 2 _ _ _ k rfl rfl rfl]; simp
theorem sq2 {x : AObj} {a b : Int} (k : AV → Hp → Option β) : effK (stE 2 (.ptr (g.length + 4) 0 0 1) (.agg [I a, I b]) (o0 :: o1 :: o2 :: (g ++ [x, .arr 2 [[I 0, I 0]] true false]))) (o0 :: o1 :: o2 :: (g ++ [x, .arr 2 [[I 0, I 0]] true false])) k = k .u (o0 :: o1 :: o2 :: (g ++ [x, .arr 2 [[I a, I b]] true false])) := by
  rw [effK_put (v := .u) (id := g.length + 4) (o := .arr 2 [[I a, I b]] true false) (ft := [g.length + 4]) (by rw [stE_ptr, get4]; simp), set4]
theorem sq20 {x : AObj} {a b c : Int} (k : AV → Hp → Option β) : effK (stE 1 (.ptr (g.length + 4) 0 0 1) (I c) (o0 :: o1 :: o2 :: (g ++ [x, .arr 2 [[I a, I b]] true false]))) (o0 :: o1 :: o2 :: (g ++ [x, .arr 2 [[I a, I b]] true false])) k = k .u (o0 :: o1 :: o2 :: (g ++ [x, .arr 2 [[I c, I b]] true false])) := by
  rw [effK_put (v := .u) (id := g.length + 4) (o := .arr 2 [[I c, I b]] true false) (ft := [g.length + 4]) (by rw [stE_ptr, get4]; simp), set4]
theorem lw2 {x : AObj} {a b : AV} (k : Go.AM.K β) : ldK 2 true (.ptr (g.length + 4) 0 0 1) (o0 :: o1 :: o2 :: (g ++ [x, .arr 2 [[a, b]] true false])) k = k (.agg [a, b]) := by
  rw [ldK_ptr, get4]
  simp
end
theorem of_j9 {β : Type} {T : Tab} {D : DTab} {N : Nat} {xn : AV → AV → AV → AV → AV → AV → AV → AV → AV → Hp → Option β} {x0 : AV → AV → AV → AV → AV → AV → Hp → Option β} {v1 v4 v6 v7 v8 v17 v18 v19 : AV} {o0 o2 x : AObj} {g : Hp} {c : List ((Int × Int) × Int)} {a b : Int} :
    f_document_of_j10 Tryz.prog T D N xn x0 v1 v4 (.mp 1) v6 v7 v8 (.ptr (g.length + 4) 0 0 1) v17 v18 v19 (o0 :: .map (kvT fI c) :: o2 :: (g ++ [x, .arr 2 [[I a, I b]] true false])) =
      f_document_of_j8 Tryz.prog T D N xn x0 v1 v4 (.mp 1) v6 v7 v8 v17 v18 v19 (o0 :: .map (kvT fI (bumpP c (a, b))) :: o2 :: (g ++ [x, .arr 2 [[I a, I b]] true false])) := by
  obtain ⟨bv, j, c1, h1, h2⟩ := bump_two (f := fI) (h := o0 :: .map (kvT fI c) :: o2 :: (g ++ [x, .arr 2 [[I a, I b]] true false])) (id := 1) (c := c) (p := (a, b)) (z := (0 : Int)) (x := IntKind.i64.wrap (cntP c (a, b) + 1)) twoP rfl
  have hl : ∀ k : Go.AM.K β, lookK Tryz.prog 98 (.s (.int .i64 0)) false (.mp 1) (.agg [I a, I b]) (o0 :: .map (kvT fI c) :: o2 :: (g ++ [x, .arr 2 [[I a, I b]] true false])) k = k (I (cntP c (a, b))) := fun k => by
    rw [lookK_two (p := (a, b)) (f := fI) (c := c) twoP rfl]
    unfold cntP
    cases fndT c (a, b) <;> rfl
  have e1 : ∀ k : AV → Hp → Ent → Option β, effD (mentE Tryz.prog 98 (.s (.int .i64 0)) (.mp 1) (.agg [I a, I b]) (o0 :: .map (kvT fI c) :: o2 :: (g ++ [x, .arr 2 [[I a, I b]] true false]))) (o0 :: .map (kvT fI c) :: o2 :: (g ++ [x, .arr 2 [[I a, I b]] true false])) k = k (.tup [bv, .s (.int .i64 j)]) (o0 :: .map (kvT fI c1) :: o2 :: (g ++ [x, .arr 2 [[I a, I b]] true false])) ([1], [1]) := fun k => effD_put h1 k
  have e2 : ∀ k : AV → Hp → Ent → Option β, effD (estE (.mp 1) (.s (.int .i64 j)) (I (IntKind.i64.wrap (cntP c (a, b) + 1))) (o0 :: .map (kvT fI c1) :: o2 :: (g ++ [x, .arr 2 [[I a, I b]] true false]))) (o0 :: .map (kvT fI c1) :: o2 :: (g ++ [x, .arr 2 [[I a, I b]] true false])) k = k .u (o0 :: .map (kvT fI (bumpP c (a, b))) :: o2 :: (g ++ [x, .arr 2 [[I a, I b]] true false])) ([1], [1]) := fun k => effD_put (h2 _ rfl) k
  have x1 : ∀ k : Go.AM.K β, exK (.tup [bv, .s (.int .i64 j)]) 1 k = k (.s (.int .i64 j)) := fun k => rfl
  simp -implicitDefEqProofs only [f_document_of_j10, f_document_of_j9, lw2, hl, arithK_add, e1, x1, e2, disjAll_nil, cond_true]
theorem of_b6 {β : Type} {T : Tab} {D : DTab} {N : Nat} {xn : AV → AV → AV → AV → AV → AV → AV → AV → AV → Hp → Option β} {x0 : AV → AV → AV → AV → AV → AV → Hp → Option β} {l : List Msg} {b : Bool} {i : Nat} {m : Msg} {mv : Int} {s : Fol} {o0 : AObj} {g : Hp} (hl : l.length < 1000000) (hi : l[i]? = some m) :
    ∃ g', f_document_of_b6 Tryz.prog T D N xn x0 (I mv) (.ptr 0 0 0 1) (.mp 1) (.ptr 2 0 0 1) (B s.en) (I s.an) (.lst 7 b (l.map encM)) (I l.length) (I i) (o0 :: .map (kvT fI s.cnt) :: .arr 7 [encDo s.d] true false :: g) =
      xn (I mv) (.ptr 0 0 0 1) (.mp 1) (.ptr 2 0 0 1) (B (stepF mv s m).en) (I (stepF mv s m).an) (.lst 7 b (l.map encM)) (I l.length) (I ((i + 1 : Nat) : Int)) (o0 :: .map (kvT fI (stepF mv s m).cnt) :: .arr 7 [encDo (stepF mv s m).d] true false :: g') := by
  have hil : i < l.length := (List.getElem?_eq_some_iff.1 hi).1
  have c1 : ((i : Int) < (l.length : Int)) := by omega
  have hw : IntKind.i64.wrap ((i : Int) + 1) = ((i + 1 : Nat) : Int) := by rw [wrap64 (by omega) (by omega)]; omega
  have ic : ∀ k : Go.AM.K β, iaK 7 (.lst 7 b (l.map encM)) (I i) k = k (.ep (encM m) 0) := fun k => iaK_at i rfl hi k
  have ld : ∀ (h : Hp) (k : Go.AM.K β), ldK 7 true (.ep (encM m) 0) h k = k (.agg (encM m)) := fun h k => rfl
  have bd : ∀ k : Go.AM.K β, buildK [.s (.int .i64 0), .s (.int .i64 0)] [(some (0, 1), I m.kind), (some (1, 1), I m.num)] k = k (.agg [I m.kind, I m.num]) := fun k => rfl
  obtain ⟨⟨d0, d1, d2, d3, d4, d5, d6⟩, en, an, cnt⟩ := s
  simp only [encDo]
  have dj4 : disjAll [(1, 7), (3, 7), (5, 7), (3, 9), (5, 9), (5, 11)] [([], []), (idsOf (AV.ptr (g.length + 3) 0 4 1), []), ([], []), (idsOf (AV.ptr (g.length + 3) 0 5 1), []), ([], []), (idsOf (AV.ptr (g.length + 3) 0 6 1), []), ([], []), ([2], [2]), ([], []), ([2], [2]), ([], []), ([2], [2]), ([], []), ([2], [2])] = true := by simp [disjAll, disj2, idsOf]
  by_cases hm : m.mv = mv
  · have em : (m.mv == mv) = true := by simpa using hm
    have en' : ¬ (m.mv ≠ mv) := by simpa using hm
    refine ⟨g ++ [.arr 7 [encM m] true false, .arr 2 [[I (if m.kind = 4 then 3 else m.kind), I m.num]] true false], ?_⟩
    simp -implicitDefEqProofs only [f_document_of_b6, arithK_lss, c1, decide_true, condK_bool, if_true, ic, ld, bq7, sq7, faK_ptr, Nat.zero_add, lq0, eqK_int, em, Bool.true_xor, Bool.false_xor, Bool.not_true, Bool.false_eq_true, if_false, lq1, lq2, bd, bq2, sq2]
    by_cases k1 : m.kind = 1
    · have q1 : (m.kind == 1) = true := by simpa using k1
      simp -implicitDefEqProofs only [q1, if_true, lq4, lq5, lq6, faK_ptr, Nat.zero_add, ld7_2_0, es7_2_0, ed7_2_0, ld7_2_1, es7_2_1, ed7_2_1, ld7_2_2, es7_2_2, ed7_2_2, ld7_2_3, es7_2_3, ed7_2_3, ld7_2_4, es7_2_4, ed7_2_4, ld7_2_5, es7_2_5, ed7_2_5, ld7_2_6, es7_2_6, ed7_2_6, of_j9, dj4, cond_true, f_document_of_j8, f_document_of_j7, arithK_add, hw]
      simp [stepF, hm, k1]
    have q1 : (m.kind == 1) = false := by simpa using k1
    by_cases k2 : m.kind = 2
    · have q2 : (m.kind == 2) = true := by simpa using k2
      simp -implicitDefEqProofs only [q1, q2, Bool.false_eq_true, if_false, if_true, lq5, faK_ptr, Nat.zero_add, ld7_2_0, es7_2_0, ed7_2_0, ld7_2_1, es7_2_1, ed7_2_1, ld7_2_2, es7_2_2, ed7_2_2, ld7_2_3, es7_2_3, ed7_2_3, ld7_2_4, es7_2_4, ed7_2_4, ld7_2_5, es7_2_5, ed7_2_5, ld7_2_6, es7_2_6, ed7_2_6, of_j9, f_document_of_j8, f_document_of_j7, arithK_add, hw]
      simp [stepF, hm, k1, k2]
    have q2 : (m.kind == 2) = false := by simpa using k2
    by_cases k3 : m.kind = 3
    · have q3 : (m.kind == 3) = true := by simpa using k3
      have dj : disjAll [(1, 4)] [([], []), (idsOf (AV.ptr (g.length + 3) 0 6 1), []), ([], []), ([], []), ([2], [2])] = true := by simp [disjAll, disj2, idsOf]
      simp -implicitDefEqProofs only [q1, q2, q3, Bool.false_eq_true, if_false, if_true, lq6, faK_ptr, Nat.zero_add, ld7_2_0, es7_2_0, ed7_2_0, ld7_2_1, es7_2_1, ed7_2_1, ld7_2_2, es7_2_2, ed7_2_2, ld7_2_3, es7_2_3, ed7_2_3, ld7_2_4, es7_2_4, ed7_2_4, ld7_2_5, es7_2_5, ed7_2_5, ld7_2_6, es7_2_6, ed7_2_6, of_j9, dj, cond_true, f_document_of_j8, f_document_of_j7, arithK_add, hw]
      simp [stepF, hm, k1, k2, k3]
    have q3 : (m.kind == 3) = false := by simpa using k3
    by_cases k4 : m.kind = 4
    · have q4 : (m.kind == 4) = true := by simpa using k4
      simp -implicitDefEqProofs only [q1, q2, q3, q4, Bool.false_eq_true, if_false, if_true, faK_ptr, Nat.zero_add, sq20, of_j9, f_document_of_j8, f_document_of_j7, arithK_add, hw]
      simp [stepF, hm, k1, k2, k3, k4]
    have q4 : (m.kind == 4) = false := by simpa using k4
    by_cases k5 : m.kind = 5
    · have q5 : (m.kind == 5) = true := by simpa using k5
      simp -implicitDefEqProofs only [q1, q2, q3, q4, q5, Bool.false_eq_true, if_false, if_true, f_document_of_j8, f_document_of_j7, arithK_add, hw]
      simp [stepF, hm, k1, k2, k3, k4, k5]
    have q5 : (m.kind == 5) = false := by simpa using k5
    simp only [k4, if_false]
    simp -implicitDefEqProofs only [q1, q2, q3, q4, q5, Bool.false_eq_true, if_false, if_true, of_j9, f_document_of_j8, f_document_of_j7, arithK_add, hw]
    simp [stepF, hm, k1, k2, k3, k4, k5]
  · have em : (m.mv == mv) = false := by simpa using hm
    have en' : m.mv ≠ mv := hm
    refine ⟨g ++ [.arr 7 [encM m] true false], ?_⟩
    simp -implicitDefEqProofs only [f_document_of_b6, arithK_lss, c1, decide_true, condK_bool, if_true, ic, ld, bq7, sq7, faK_ptr, Nat.zero_add, lq0, eqK_int, em, Bool.true_xor, Bool.not_false, f_document_of_j8, f_document_of_j7, arithK_add, hw, stepF, en', ne_eq, not_false_eq_true]
theorem of_L6 {β : Type} {T : Tab} {D : DTab} {N : Nat} {x0 : AV → AV → AV → AV → AV → AV → Hp → Option β} {X : Option β} {l : List Msg} {b : Bool} {mv : Int} {o0 : AObj} (hl : l.length < 1000000) (hx : ∀ g, x0 (I mv) (.ptr 0 0 0 1) (.mp 1) (.ptr 2 0 0 1) (B (folF mv l).en) (I (folF mv l).an) (o0 :: .map (kvT fI (folF mv l).cnt) :: .arr 7 [encDo (folF mv l).d] true false :: g) = X) : ∀ (n i : Nat) (g : Hp), i ≤ l.length → l.length < i + n →
    f_document_of_L6 Tryz.prog T D N x0 n (I mv) (.ptr 0 0 0 1) (.mp 1) (.ptr 2 0 0 1) (B (folF mv (l.take i)).en) (I (folF mv (l.take i)).an) (.lst 7 b (l.map encM)) (I l.length) (I i) (o0 :: .map (kvT fI (folF mv (l.take i)).cnt) :: .arr 7 [encDo (folF mv (l.take i)).d] true false :: g) = X := by
  intro n
  induction n with
  | zero => intro i g h1 h2; omega
  | succ n ih =>
    intro i g h1 h2
    show f_document_of_b6 Tryz.prog T D N (f_document_of_L6 Tryz.prog T D N x0 n) x0 _ _ _ _ _ _ _ _ _ _ = _
    rcases Nat.lt_or_ge i l.length with hi | hi
    · have hm : l[i]? = some l[i] := List.getElem?_eq_getElem hi
      obtain ⟨g', e⟩ := of_b6 (T := T) (D := D) (N := N) (xn := f_document_of_L6 Tryz.prog T D N x0 n) (x0 := x0) (b := b) (mv := mv) (s := folF mv (l.take i)) (o0 := o0) (g := g) hl hm
      rw [e]
      have hs : stepF mv (folF mv (l.take i)) l[i] = folF mv (l.take (i + 1)) := by
        unfold folF
        rw [take_succ_get hm, List.foldl_append]
        rfl
      rw [hs]
      exact ih (i + 1) g' (by omega) (by omega)
    · have : i = l.length := by omega
      subst this
      have c1 : ¬ ((l.length : Int) < (l.length : Int)) := by omega
      rw [List.take_length]
      simp -implicitDefEqProofs only [f_document_of_b6, arithK_lss, c1, decide_false, condK_bool, Bool.false_eq_true, if_false]
      exact hx g
theorem of_L5 {T : Tab} {D : DTab} {N : Nat} {x3 : AV → AV → AV → AV → Hp → Option AV} {xr : AV → Hp → Option AV} {X : Option AV} {mv : Int} {en an : AV} {c : List ((Int × Int) × Int)} {d : Docu} {id : Nat}
    (h3 : (c.any fun e => decide (1 < e.2)) = false → ∀ z t, x3 (.ptr 0 0 0 1) (.ptr 2 0 0 1) en an (.arr 7 [zM] true false :: z :: .arr 7 [encDo d] true false :: t) = X) (hr : (c.any fun e => decide (1 < e.2)) = true → ∀ z z2 t, xr (.ptr 0 0 0 1) (.arr 7 [encDo (confD mv)] true false :: z :: z2 :: t) = X) :
    ∀ (n : Nat) (seen : List Nat) (t : Hp), (leftIt c.length seen).length < n → (∀ j ∈ seen, ∀ e, c[j]? = some e → ¬ 1 < e.2) → (.arr 7 [zM] true false :: .map (kvT fI c) :: .arr 7 [encDo d] true false :: t : Hp)[id]? = some (.iter 1 c.length seen) →
    f_document_of_L5 Tryz.prog T D N x3 xr n (I mv) (.ptr 0 0 0 1) (.ptr 2 0 0 1) en an (.it id) (.arr 7 [zM] true false :: .map (kvT fI c) :: .arr 7 [encDo d] true false :: t) = X := by
  intro n
  induction n with
  | zero => intro seen t h1; omega
  | succ n ih =>
    intro seen t h1 hseen hid
    have hn : (kvT fI c).length = c.length := by simp [kvT]
    have hid3 : ∃ q, id = q + 3 := by
      match id, hid with
      | 0, hid => simp at hid
      | 1, hid => simp at hid
      | 2, hid => simp at hid
      | q + 3, _ => exact ⟨q, rfl⟩
    obtain ⟨q, rfl⟩ := hid3
    have hset : ∀ o, (.arr 7 [zM] true false :: .map (kvT fI c) :: .arr 7 [encDo d] true false :: t : Hp).set (q + 3) o = .arr 7 [zM] true false :: .map (kvT fI c) :: .arr 7 [encDo d] true false :: t.set q o := fun o => rfl
    have hql : q < t.length := by simpa using (List.getElem?_eq_some_iff.1 hid).1
    show f_document_of_b5 Tryz.prog T D N (f_document_of_L5 Tryz.prog T D N x3 xr n) x3 xr _ _ _ _ _ _ _ = _
    refine nextK_of hid rfl hn _ (fun h0 => ?_) fun j hj => ?_
    · simp -implicitDefEqProofs only [exK_tup, List.getElem?_cons_zero, condK_bool, Bool.false_eq_true, if_false]
      refine h3 ?_ _ _
      rw [List.any_eq_false]
      intro e he
      obtain ⟨j, hj, rfl⟩ := List.getElem_of_mem he
      have : j ∉ leftIt c.length seen := by rw [h0]; simp
      rw [leftIt_mem] at this
      have hs : j ∈ seen := by
        rcases Decidable.em (j ∈ seen) with h | h
        · exact h
        · exact absurd ⟨hj, h⟩ this
      simpa using hseen j hs _ (List.getElem?_eq_getElem hj)
    · obtain ⟨hjl, hjs⟩ := leftIt_mem.1 hj
      have hcj : c[j]? = some c[j] := List.getElem?_eq_getElem hjl
      have hkj : (kvT fI c)[j]? = some (keyT c[j].1, fI c[j].2) := by simp [kvT, hjl]
      rw [hset]
      have en1 : ∀ k : Go.AM.K AV, entryK (.it (q + 3)) (.arr 7 [zM] true false :: .map (kvT fI c) :: .arr 7 [encDo d] true false :: t.set q (.iter 1 c.length (seen ++ [j]))) k = k (.tup [keyAV (keyT c[j].1), I c[j].2]) := fun k => entryK_at (seen := seen) (n := c.length) (j := j) (h := .arr 7 [zM] true false :: .map (kvT fI c) :: .arr 7 [encDo d] true false :: t.set q (.iter 1 c.length (seen ++ [j]))) (id := q + 3) (m := 1) (by simp [hql]) rfl hn hkj k
      have bc : ∀ k : Go.AM.K AV, buildK [.s (.int .i64 0), .s (.int .i64 0), .s (.int .i64 0), .s (.int .i64 0), .s (.int .i64 0), .s (.int .i64 0), .s (.int .i64 0)] [(some (0, 1), I mv), (some (1, 1), .s (.int .i64 5))] k = k (.agg [I mv, I 5, I 0, I 0, I 0, I 0, I 0]) := fun k => rfl
      simp -implicitDefEqProofs only [exK_tup, List.getElem?_cons_zero, condK_bool, if_true]
      rw [en1]
      simp -implicitDefEqProofs only [exK_tup, List.getElem?_cons_zero, List.getElem?_cons_succ, condK_bool, arithK_gtr, bc, ew7_0]
      by_cases h2 : 1 < c[j].2
      · rw [if_pos (by simpa using h2)]
        exact hr (List.any_eq_true.2 ⟨c[j], List.getElem_mem hjl, by simpa using h2⟩) _ _ _
      · rw [if_neg (by simpa using h2)]
        refine ih (seen ++ [j]) _ (by have := leftIt_snoc hj; omega) (fun i hi e he => ?_) (by simp [hql])
        rcases List.mem_append.1 hi with hi | hi
        · exact hseen i hi e he
        · simp only [List.mem_singleton] at hi
          subst hi
          rw [hcj] at he
          injection he with he
          rw [← he]; exact h2
theorem updT_len {α : Type} : ∀ (c : List ((Int × Int) × α)) (p : Int × Int) (x : α), (updT c p x).length ≤ c.length + 1
  | [], p, x => by simp [updT]
  | (q, y) :: c, p, x => by
    have := updT_len c p x
    simp only [updT]
    split <;> simp <;> omega
theorem stepF_cnt (mv : Int) (s : Fol) (m : Msg) : (stepF mv s m).cnt.length ≤ s.cnt.length + 1 := by
  unfold stepF
  repeat' split
  all_goals first | exact updT_len _ _ _ | (simp; done)
theorem folF_cnt (mv : Int) : ∀ (l : List Msg) (s : Fol), (l.foldl (stepF mv) s).cnt.length ≤ s.cnt.length + l.length
  | [], s => by simp
  | m :: l, s => by
    have h1 := folF_cnt mv l (stepF mv s m)
    have h2 := stepF_cnt mv s m
    simp only [List.foldl_cons, List.length_cons]
    omega
theorem F_document_of_val (l : List Msg) (b : Bool) (mv : Int) (hl : l.length < 1000000) (h : Hp) : F_document_of [.lst 7 b (l.map encM), I mv] h = some (.agg (encDo (docF mv l)), h) := by
  refine F_document_of_run (v := .agg (encDo (docF mv l))) rfl ?_ h
  simp only [nrm, nrmC]
  have b0 : ∀ k : Go.AM.K AV, buildK [.s (.int .i64 0), .s (.int .i64 0), .s (.int .i64 0), .s (.int .i64 0), .s (.int .i64 0), .s (.int .i64 0), .s (.int .i64 0)] [(some (0, 1), I mv)] k = k (.agg (encDo (noneD mv))) := fun k => rfl
  have mk : ∀ (o : AObj) (k : AV → Hp → Option AV), effK (some (.mp (List.length [o]), EN (.map []))) [o] k = k (.mp 1) [o, .map []] := fun o k => rfl
  simp -implicitDefEqProofs only [f_document_of, bx7_0, mk, b0, bx7_2, encDo, noneD, ew7_2, lenK_lst, List.length_map]
  have key := of_L6 (T := t_document_of) (D := d_document_of) (N := NN) (x0 := fun w121_1 w121_4 w121_5 w121_6 w121_7 w121_8 h => f_document_of_j1 Tryz.prog t_document_of d_document_of NN (fun v g => cvt false g v) w121_1 w121_4 w121_5 w121_6 w121_7 w121_8 h) (X := some (AV.agg (encDo (docF mv l)))) (l := l) (b := b) (mv := mv) (o0 := .arr 7 [zM] true false) hl ?_ NN 0 [] (by omega) (by have := NN_ge; omega)
  · exact key
  · intro g
    have b1 : ∀ k : Go.AM.K AV, buildK zM [(some (0, 1), I mv)] k = k (.agg (encDo (noneD mv))) := fun k => rfl
    unfold docF
    have hcl : (folF mv l).cnt.length ≤ l.length := by have := folF_cnt mv l (begF mv); simpa [begF, folF] using this
    generalize folF mv l = s at *
    obtain ⟨⟨d0, d1, d2, d3, d4, d5, d6⟩, en, an, c⟩ := s
    simp -implicitDefEqProofs only [f_document_of_j1, faK_ptr, Nat.zero_add, encDo, ld7_2_1, eqK_int, Bool.false_xor, condK_bool, b1]
    by_cases h1 : d1 = 0
    · subst h1
      simp -implicitDefEqProofs only [beq_self_eq_true, if_true, encDo, noneD, ew7_0, lw7_0, endF]
      rfl
    · have e1 : (d1 == 0) = false := by simpa using h1
      have rg : ∀ (o2 : AObj) (k : AV → Hp → Option AV), effK (rngE (.mp 1) (.arr 7 [zM] true false :: .map (kvT fI c) :: o2 :: g) (.arr 7 [zM] true false :: .map (kvT fI c) :: o2 :: g : Hp).length) (.arr 7 [zM] true false :: .map (kvT fI c) :: o2 :: g) k = k (.it (g.length + 3)) (.arr 7 [zM] true false :: .map (kvT fI c) :: o2 :: (g ++ [.iter 1 c.length []])) := fun o2 k => by
        have : (kvT fI c).length = c.length := by simp [kvT]
        simp [rngE, effK, ap, this]
      simp -implicitDefEqProofs only [e1, Bool.false_eq_true, if_false, rg]
      refine of_L5 (d := ⟨d0, d1, d2, d3, d4, d5, d6⟩) (c := c) (fun hc z t => ?_) (fun hc z z2 t => ?_) NN [] _ ?_ (by simp) ?_
      · simp -implicitDefEqProofs only [f_document_of_j2, eqK_int, Bool.false_xor, condK_bool, encDo, faK_ptr, Nat.zero_add, es7_2_1, f_document_of_j4, f_document_of_j3, lw7_2, ew7_0, lw7_0, endF, h1, if_false, hc, Bool.false_eq_true]
        by_cases h2 : an = 0
        · subst h2; rfl
        · have e2 : (an == 0) = false := by simpa using h2
          simp only [e2, h2, if_false, Bool.false_eq_true]
          cases en <;> rfl
      · simp -implicitDefEqProofs only [encDo, confD, lw7_0, endF, h1, if_false, hc, if_true]
        rfl
      · have := List.length_filter_le (fun j => !([] : List Nat).contains j) (List.range c.length)
        rw [List.length_range] at this
        have hN := NN_ge
        unfold leftIt
        simp only at hcl
        omega
      · exact get3
end Go.AM


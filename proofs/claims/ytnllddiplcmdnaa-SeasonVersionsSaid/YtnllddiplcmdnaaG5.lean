import Derived.Test.YtnllddiplcmdnaaG4
import Derived.Below
import Derived.ChangeOld
import Derived.Carry
import Derived.OpenShut
/- Slices put one behind the other. -/
namespace Go.AM
set_option linter.unusedVariables false
variable {α β : Type} {sz : Nat} {enc : α → List AV} {h : Hp}
/-- A slice that holds a list. -/
structure Part (enc : α → List AV) (h : Hp) (p : AV × List α) : Prop where
  read : readSl h p.1 = some (p.2.map enc)
  len : lenK p.1 some = some (I p.2.length)
theorem Part.lenK {p : AV × List α} (q : Part enc h p) (k : K β) : Go.AM.lenK p.1 k = k (I p.2.length) := by rw [lenK_nat, q.len]; rfl
theorem Part.app {p : AV × List α} (q : Part enc h p) (g : List AObj) : Part enc (h ++ g) p := ⟨readSl_local q.read fun id _ o ho => get_app ho, q.len⟩
theorem Part.nil : Part enc h (nilS, []) := ⟨rfl, rfl⟩
theorem Part.lst (sz : Nat) (b : Bool) (l : List α) : Part enc h (.lst sz b (l.map enc), l) := ⟨rfl, by simp⟩
theorem Part.lst' (sz : Nat) (b : Bool) (l : List α) {es : List (List AV)} (he : es = l.map enc) : Part enc h (.lst sz b es, l) := by subst he; exact Part.lst sz b l
theorem Part.sl {sz id n : Nat} {b nl : Bool} {l : List α} (hid : h[id]? = some (.arr sz (l.map enc) true nl)) (hn : l.length = n) : Part enc h (.sl sz id 0 n n b, l) := by
  subst hn
  have ht : (l.map enc).take l.length = l.map enc := List.take_of_length_le (by simp)
  exact ⟨by simp [readSl, hid, ht], by simp⟩
def total (ps : List (AV × List α)) : Nat := (ps.map (·.2.length)).sum
def flat (ps : List (AV × List α)) : List α := ps.flatMap (·.2)
theorem total_snoc (ps : List (AV × List α)) (p : AV × List α) : total (ps ++ [p]) = total ps + p.2.length := by simp [total]
theorem total_app (ps qs : List (AV × List α)) : total (ps ++ qs) = total ps + total qs := by simp [total]
theorem total_cons (p : AV × List α) (ps : List (AV × List α)) : total (p :: ps) = p.2.length + total ps := by simp [total]
theorem flat_length' (ps : List (AV × List α)) : (flat ps).length = total ps := by
  induction ps with
  | nil => rfl
  | cons p ps ih => simp only [flat, List.flatMap_cons, List.length_append, total_cons] at ih ⊢; rw [ih]
theorem flat_snoc (ps : List (AV × List α)) (p : AV × List α) : flat (ps ++ [p]) = flat ps ++ p.2 := by simp [flat]
theorem sliceK_take {n : Nat} {b : Bool} {l : List α} (hn : n ≤ l.length) (k : K β) : sliceK sz (.lst sz b (l.map enc)) none (some (I n)) none k = k (.lst sz b ((l.take n).map enc)) := by
  simp only [sliceK, boundOr, List.length_map, Int.toNat_natCast]
  rw [if_pos (by omega)]
  simp only []
  rw [if_pos ⟨trivial, by omega, hn, by omega, by simp⟩]
  rw [List.drop_zero, Nat.sub_zero, List.map_take]
theorem sliceK_drop {n : Nat} {b : Bool} {l : List α} (hn : n ≤ l.length) (k : K β) : sliceK sz (.lst sz b (l.map enc)) (some (I n)) none none k = k (.lst sz b ((l.drop n).map enc)) := by
  simp only [sliceK, boundOr, List.length_map, Int.toNat_natCast]
  rw [if_pos (by omega)]
  simp only []
  rw [if_pos ⟨trivial, by omega, by omega, by omega, by simp⟩]
  rw [List.take_of_length_le (by simp), List.map_drop]
/-- An array that is filled from its beginning on. -/
theorem appE_fill {sz by_ n id base : Nat} {h : Hp} {A B news : List (List AV)} {x : AV} (hr : readSl h x = some news) (hid : h[id]? = some (.arr sz (A ++ B) true false)) (hn : A.length + B.length = n) (hl : news.length ≤ B.length) (hs : (news.all fun e => e.length == sz) = true) (hb : n * by_ ≤ 140737488355328) :
    appE sz by_ (.sl sz id 0 A.length n false) x h base = some (.sl sz id 0 (A.length + news.length) n false, ⟨[(id, .arr sz (A ++ news ++ B.drop news.length) true false)], [], id :: idsOf x⟩) := by
  have hb2 : (A.length + news.length) * by_ ≤ 140737488355328 := Nat.le_trans (Nat.mul_le_mul_right _ (by omega)) hb
  have hl2 : (A ++ B).length = n := by simpa using hn
  by_cases he : A.length = n
  · have hB : B = [] := List.eq_nil_of_length_eq_zero (by omega)
    subst hB
    have hN : news = [] := List.eq_nil_of_length_eq_zero (by simpa using hl)
    subst hN
    simp [appE, hr, hid, he, hb]
  · have h1 : (A ++ B).take A.length = A := by simp
    have h2 : (A ++ B).drop (A.length + news.length) = B.drop news.length := by rw [List.drop_append, List.drop_of_length_le (by omega)]; simp
    unfold appE
    simp only [hr, hid]
    rw [if_pos ⟨hl2, trivial, hb2, hs⟩, if_neg (by simp), if_neg (by omega), if_pos ⟨trivial, trivial, by omega⟩]
    simp only [Nat.zero_add, h1, h2]
end Go.AM
namespace Go.AM
def notBehind {α : Type} (bef : α → α → Bool) : Option α → α → Bool
  | some q, p => !bef q p
  | none, _ => false
@[simp] theorem notBehind_some {α : Type} (bef : α → α → Bool) (q p : α) : notBehind bef (some q) p = !bef q p := rfl
@[simp] theorem notBehind_none {α : Type} (bef : α → α → Bool) (p : α) : notBehind bef none p = false := rfl
/-- The first fault of a list: an element that is bad, or one that is not behind the one before it. -/
def checkG {α : Type} (bad : α → Bool) (bef : α → α → Bool) : Option α → List α → Int → Option (Int × Int)
  | _, [], _ => none
  | prev, p :: l, i => if bad p then some (i, 2) else if notBehind bef prev p then some (i, 5) else checkG bad bef (some p) l (i + 1)
theorem checkG_ne {α : Type} {bad : α → Bool} {bef : α → α → Bool} : ∀ (l : List α) (prev : Option α) (i : Int) (x : Int × Int), checkG bad bef prev l i = some x → x.2 ≠ 0
  | [], prev, i, x, h => by simp [checkG] at h
  | p :: l, prev, i, x, h => by
    simp only [checkG] at h
    split at h
    · simp at h; subst h; simp
    · split at h
      · simp at h; subst h; simp
      · exact checkG_ne l _ _ x h
theorem checkG_none {α : Type} {bad : α → Bool} {bef : α → α → Bool} (tr : ∀ a b c, bef a b = true → bef b c = true → bef a c = true) : ∀ (l : List α) (prev : Option α) (i : Int), checkG bad bef prev l i = none → (∀ p ∈ l, bad p = false) ∧ l.Pairwise (fun a b => bef a b = true) ∧ ∀ q, prev = some q → ∀ p ∈ l, bef q p = true
  | [], prev, i, h => by simp
  | p :: l, prev, i, h => by
    simp only [checkG] at h
    split at h
    · simp at h
    · rename_i hb
      split at h
      · simp at h
      · rename_i ho
        obtain ⟨h1, h2, h3⟩ := checkG_none tr l (some p) (i + 1) h
        have h4 := h3 p rfl
        have hq : ∀ q, prev = some q → bef q p = true := by
          rintro q rfl
          simpa using ho
        refine ⟨by simpa using ⟨by simpa using hb, h1⟩, by simpa using ⟨h4, h2⟩, ?_⟩
        rintro q hq' r hr
        rcases List.mem_cons.1 hr with rfl | hr
        · exact hq q hq'
        · exact tr q p r (hq q hq') (h4 r hr)
theorem checkG_good {α : Type} {bad : α → Bool} {bef : α → α → Bool} : ∀ (l : List α) (prev : Option α) (i : Int), (∀ p ∈ l, bad p = false) → l.Pairwise (fun a b => bef a b = true) → (∀ q, prev = some q → ∀ p ∈ l, bef q p = true) → checkG bad bef prev l i = none
  | [], prev, i, _, _, _ => rfl
  | p :: l, prev, i, h1, h2, h3 => by
    simp only [checkG]
    rw [if_neg (by simp [h1 p (by simp)])]
    have : notBehind bef prev p = false := by
      cases prev with
      | none => rfl
      | some q => simp [h3 q rfl p (by simp)]
    rw [if_neg (by rw [this]; simp)]
    obtain ⟨g1, g2⟩ := List.pairwise_cons.1 h2
    exact checkG_good l (some p) (i + 1) (fun q hq => h1 q (by simp [hq])) g2 (by rintro q ⟨⟩ r hr; exact g1 r hr)
/-- What holds of a beginning of an ordered list. -/
theorem tw_get {α : Type} {R : α → α → Prop} {p : α → Bool} (hp : ∀ a b, R a b → p b = true → p a = true) : ∀ {l : List α}, l.Pairwise R → ∀ (j : Nat) (hj : j < l.length), p l[j] = decide (j < (l.takeWhile p).length)
  | [], _, j, hj => by simp at hj
  | a :: l, hl, j, hj => by
    obtain ⟨h1, h2⟩ := List.pairwise_cons.1 hl
    by_cases ha : p a = true
    · rw [List.takeWhile_cons_of_pos ha]
      cases j with
      | zero => simp [ha]
      | succ j => simp [tw_get hp h2 j (by simpa using hj)]
    · rw [List.takeWhile_cons_of_neg ha]
      have : p (a :: l)[j] = false := by
        cases j with
        | zero => simpa using ha
        | succ j =>
          have hm : (a :: l)[j + 1] ∈ l := by simp
          cases hq : p (a :: l)[j + 1] with
          | false => rfl
          | true => exact absurd (hp a _ (h1 _ hm) hq) ha
      simpa using this
theorem tw_le {α : Type} (p : α → Bool) (l : List α) : (l.takeWhile p).length ≤ l.length := by
  have := List.takeWhile_sublist p (l := l)
  exact this.length_le
end Go.AM

/- Days and months of the Gregorian calendar, in plain form. -/
namespace Go.AM
set_option linter.unusedVariables false
set_option linter.unusedSimpArgs false
variable {β : Type} {P : Program} {ty : TypeId}
theorem reck_remZ (a b : Int) (ha : 0 ≤ a) (hb : 0 < b) (k : K β) : reckK P .rem ty (I a) (I b) k = k (I (a % b)) := by
  obtain ⟨x, rfl⟩ := Int.eq_ofNat_of_zero_le ha
  obtain ⟨y, rfl⟩ := Int.eq_ofNat_of_zero_le (Int.le_of_lt hb)
  rw [reck_remI x y (by omega)]; rfl
theorem reck_quoZ (a b : Int) (ha : 0 ≤ a) (ha2 : a < 9223372036854775808) (hb : 0 < b) (k : K β) : reckK P .quo ty (I a) (I b) k = k (I (a / b)) := by
  obtain ⟨x, rfl⟩ := Int.eq_ofNat_of_zero_le ha
  obtain ⟨y, rfl⟩ := Int.eq_ofNat_of_zero_le (Int.le_of_lt hb)
  rw [reck_quoI x y (by omega) (by omega)]; rfl
namespace Cal
def leapB (y : Int) : Bool := y % 4 == 0 && (y % 100 != 0 || y % 400 == 0)
def len (y m : Int) : Int := if m = 2 then (if leapB y then 29 else 28) else if m = 4 ∨ m = 6 ∨ m = 9 ∨ m = 11 then 30 else 31
def leaps (n : Int) : Int := n / 4 - n / 100 + n / 400
def bef (y : Int) : Int := 365 * (y - 1900) + leaps (y - 1) - 460
def yl (y : Int) : Int := if leapB y then 366 else 365
/-- The days of a year ahead of a month. -/
def pre (y m : Int) : Int := (if m ≤ 1 then 0 else if m = 2 then 31 else if m = 3 then 59 else if m = 4 then 90 else if m = 5 then 120 else if m = 6 then 151 else if m = 7 then 181 else if m = 8 then 212 else if m = 9 then 243 else if m = 10 then 273 else if m = 11 then 304 else if m = 12 then 334 else 365) + (if 3 ≤ m ∧ leapB y = true then 1 else 0)
def dn (y m : Int) : Int := bef y + pre y m
theorem leap_iff (y : Int) : leapB y = true ↔ y % 4 = 0 ∧ (y % 100 ≠ 0 ∨ y % 400 = 0) := by
  simp [leapB]
theorem bef_succ (y : Int) : bef (y + 1) = bef y + yl y := by
  unfold bef leaps yl
  by_cases h : leapB y = true
  · rw [if_pos h]; rw [leap_iff] at h; omega
  · rw [if_neg h]; rw [leap_iff] at h; omega
theorem yl_pos (y : Int) : 365 ≤ yl y ∧ yl y ≤ 366 := by unfold yl; split <;> omega
theorem bef_0 : bef 1900 = 0 := by decide
theorem bef_le (k : Int) (h : 0 ≤ k) : bef (1900 + k) ≤ 366 * k ∧ 365 * k ≤ bef (1900 + k) := by unfold bef leaps; omega
theorem bef_mono {y z : Int} (h : y ≤ z) : bef y ≤ bef z := by unfold bef leaps; omega
theorem len_pos (y m : Int) : 28 ≤ len y m ∧ len y m ≤ 31 := by unfold len; split <;> (try split) <;> omega
theorem pre_1 (y : Int) : pre y 1 = 0 := by simp [pre]
theorem months {m : Int} (h1 : 1 ≤ m) (h2 : m ≤ 12) : m = 1 ∨ m = 2 ∨ m = 3 ∨ m = 4 ∨ m = 5 ∨ m = 6 ∨ m = 7 ∨ m = 8 ∨ m = 9 ∨ m = 10 ∨ m = 11 ∨ m = 12 := by omega
theorem pre_succ (y : Int) {m : Int} (h1 : 1 ≤ m) (h2 : m ≤ 12) : pre y (m + 1) = pre y m + len y m := by
  rcases months h1 h2 with rfl | rfl | rfl | rfl | rfl | rfl | rfl | rfl | rfl | rfl | rfl | rfl <;> cases h : leapB y <;> simp [pre, len, h]
theorem pre_13 (y : Int) : pre y 13 = yl y := by
  cases h : leapB y <;> simp [pre, yl, h]
theorem pre_bd (y : Int) {m : Int} (h1 : 1 ≤ m) (h2 : m ≤ 12) : 0 ≤ pre y m ∧ pre y m + len y m ≤ yl y := by
  rcases months h1 h2 with rfl | rfl | rfl | rfl | rfl | rfl | rfl | rfl | rfl | rfl | rfl | rfl <;> cases h : leapB y <;> simp [pre, len, yl, h]
theorem pre_mono (y : Int) {m n : Int} (h1 : 1 ≤ m) (h2 : m < n) (h3 : n ≤ 12) : pre y m + len y m ≤ pre y n := by
  rcases months h1 (by omega) with rfl | rfl | rfl | rfl | rfl | rfl | rfl | rfl | rfl | rfl | rfl | rfl <;>
    rcases months (m := n) (by omega) h3 with rfl | rfl | rfl | rfl | rfl | rfl | rfl | rfl | rfl | rfl | rfl | rfl <;> first | omega | (cases h : leapB y <;> simp [pre, len, h])
/-- A day's date. -/
structure Is (day y m d : Int) : Prop where
  year : 1900 ≤ y
  month : 1 ≤ m ∧ m ≤ 12
  dy : 1 ≤ d ∧ d ≤ len y m
  at_ : dn y m + (d - 1) = day
theorem Is.lo {day y m d : Int} (h : Is day y m d) : bef y ≤ day ∧ day < bef (y + 1) := by
  have h1 := h.at_; have h2 := pre_bd y h.month.1 h.month.2; have h3 := h.dy; have h4 := bef_succ y
  unfold dn at h1
  omega
theorem Is.unique {day y m d y' m' d' : Int} (h : Is day y m d) (h' : Is day y' m' d') : y = y' ∧ m = m' ∧ d = d' := by
  have a := h.lo; have b := h'.lo
  have e : y = y' := by
    rcases Int.lt_trichotomy y y' with q | q | q
    · have := bef_mono (show y + 1 ≤ y' by omega); omega
    · exact q
    · have := bef_mono (show y' + 1 ≤ y by omega); omega
  subst e
  have h1 := h.at_; have h2 := h'.at_; have h3 := h.dy; have h4 := h'.dy
  unfold dn at h1 h2
  have e : m = m' := by
    rcases Int.lt_trichotomy m m' with q | q | q
    · have := pre_mono y h.month.1 q h'.month.2; omega
    · exact q
    · have := pre_mono y h'.month.1 q h.month.2; omega
  subst e
  exact ⟨rfl, rfl, by omega⟩
/-- The month behind. -/
def ny (y m : Int) : Int := if m = 12 then y + 1 else y
def nm (m : Int) : Int := if m = 12 then 1 else m + 1
theorem dn_next {y m : Int} (h1 : 1 ≤ m) (h2 : m ≤ 12) : dn (ny y m) (nm m) = dn y m + len y m := by
  unfold dn ny nm
  have := pre_succ y h1 h2
  by_cases h : m = 12
  · subst h
    have e := pre_13 y
    have f := bef_succ y
    simp only [if_pos] at *
    rw [pre_1]; simp at this; omega
  · rw [if_neg h, if_neg h]; omega
theorem nm_bd {m : Int} (h1 : 1 ≤ m) (h2 : m ≤ 12) : 1 ≤ nm m ∧ nm m ≤ 12 := by unfold nm; split <;> omega
/-- Where a day lies. -/
theorem exists_ {day : Int} (h : 0 ≤ day) : ∃ y m d, Is day y m d := by
  have yr : ∃ y, 1900 ≤ y ∧ bef y ≤ day ∧ day < bef (y + 1) := by
    have key : ∀ (k : Nat) (y : Int), 1900 ≤ y → bef y ≤ day → day - bef y < k → ∃ y, 1900 ≤ y ∧ bef y ≤ day ∧ day < bef (y + 1) := by
      intro k
      induction k with
      | zero => intro y _ _ _; omega
      | succ k ih =>
        intro y h1 h2 h3
        by_cases h4 : bef (y + 1) ≤ day
        · have := bef_succ y; have := yl_pos y
          exact ih (y + 1) (by omega) h4 (by omega)
        · exact ⟨y, h1, h2, by omega⟩
    exact key (day.toNat + 1) 1900 (by omega) (by rw [bef_0]; exact h) (by rw [bef_0]; omega)
  obtain ⟨y, h1, h2, h3⟩ := yr
  rw [bef_succ, ← pre_13] at h3
  have mo : ∃ m, 1 ≤ m ∧ m ≤ 12 ∧ pre y m ≤ day - bef y ∧ day - bef y < pre y m + len y m := by
    have key : ∀ (k : Nat) (m : Int), 1 ≤ m → m ≤ 12 → (12 - m).toNat < k → pre y m ≤ day - bef y → ∃ m, 1 ≤ m ∧ m ≤ 12 ∧ pre y m ≤ day - bef y ∧ day - bef y < pre y m + len y m := by
      intro k
      induction k with
      | zero => intro m _ _ _; omega
      | succ k ih =>
        intro m h1 h2 h4 h5
        by_cases h6 : day - bef y < pre y m + len y m
        · exact ⟨m, h1, h2, h5, h6⟩
        · rw [← pre_succ y h1 h2] at h6
          have : m ≠ 12 := by rintro rfl; simp at h6; omega
          exact ih (m + 1) (by omega) (by omega) (by omega) (by omega)
    exact key 13 1 (by omega) (by omega) (by omega) (by rw [pre_1]; omega)
  obtain ⟨m, m1, m2, m3, m4⟩ := mo
  exact ⟨y, m, day - bef y - pre y m + 1, h1, ⟨m1, m2⟩, by omega, by unfold dn; omega⟩
open Classical in
noncomputable def monthOf (day : Int) : Int := if h : 0 ≤ day then (exists_ h).choose_spec.choose else 0
theorem Is.month_eq {day y m d : Int} (h : Is day y m d) (h0 : 0 ≤ day) : monthOf day = m := by
  unfold monthOf
  rw [dif_pos h0]
  obtain ⟨d', hd⟩ := (exists_ h0).choose_spec.choose_spec
  exact (hd.unique h).2.1
/-- Days of one month. -/
theorem Is.same {day y m d : Int} (h : Is day y m d) (h0 : 0 ≤ day) {e : Int} (h1 : day ≤ e) (h2 : e < dn (ny y m) (nm m)) : monthOf e = m := by
  rw [dn_next h.month.1 h.month.2] at h2
  have h3 := h.at_; have h4 := h.dy
  exact Is.month_eq (y := y) (d := e - dn y m + 1) ⟨h.year, h.month, by omega, by omega⟩ (by omega)
theorem Is.next_lt {day y m d : Int} (h : Is day y m d) : day < dn (ny y m) (nm m) := by
  rw [dn_next h.month.1 h.month.2]
  have h3 := h.at_; have h4 := h.dy
  omega
theorem Is.year_le {day y m d : Int} (h : Is day y m d) (hd : day ≤ 100000) : y ≤ 2180 := by
  have := h.lo
  by_cases hy : y ≤ 2180
  · exact hy
  · have := bef_mono (show (2181 : Int) ≤ y by omega)
    have e : bef 2181 = 102634 := by decide
    omega
end Cal
end Go.AM

/- calendar: Date, Day. -/
namespace Go.AM
open Go.Proofs
set_option linter.unusedVariables false
set_option linter.unusedSimpArgs false
set_option linter.constructorNameAsVariable false
set_option maxRecDepth 20000
def win (n lo hi : Int) : Bool := decide (lo ≤ n) && decide (n ≤ hi)
section
variable {β : Type} {P : Program} {T : Tab} {D : DTab} {N : Nat} {K : AV → Hp → Option β}
abbrev encD (y m d : Int) : AV := .agg [I y, I m, I d]
theorem F_calendar_is_val (a : Int) (h : Hp) : F_calendar_is [I a] h = some (B (win a 0 100000), h) := F_calendar_is_run rfl (by simp [f_calendar_is, win]) h
theorem F_calendar_leap_val (y : Int) (hy : 0 ≤ y) (h : Hp) : F_calendar_leap [I y] h = some (B (Cal.leapB y), h) := by
  refine F_calendar_leap_run rfl ?_ h
  have r4 := fun k : Go.AM.K AV => reck_remZ (P := Try.prog) (ty := 3) y 4 hy (by omega) k
  have r100 := fun k : Go.AM.K AV => reck_remZ (P := Try.prog) (ty := 3) y 100 hy (by omega) k
  have r400 := fun k : Go.AM.K AV => reck_remZ (P := Try.prog) (ty := 3) y 400 hy (by omega) k
  simp only [f_calendar_leap, r4, eqK_int]
  by_cases h4 : y % 4 = 0
  · simp [r100, r400, h4, Cal.leapB, bne]
  · have : (y % 4 == 0) = false := by simpa using h4
    simp [this, h4, Cal.leapB]
theorem F_calendar_length_val (y m : Int) (hy : 0 ≤ y) (h1 : 1 ≤ m) (h2 : m ≤ 12) (h : Hp) : F_calendar_length [I y, I m] h = some (I (Cal.len y m), h) := by
  refine F_calendar_length_run rfl ?_ h
  have fl := F_calendar_leap_val y hy
  rcases Cal.months h1 h2 with rfl | rfl | rfl | rfl | rfl | rfl | rfl | rfl | rfl | rfl | rfl | rfl
  case inr.inl => cases hl : Cal.leapB y <;> simp [f_calendar_length, buildK, fillA, fl, hl, Cal.len, iaA]
  all_goals simp [f_calendar_length, buildK, fillA, Cal.len, iaA]
theorem G_calendar_length_val (y m : Int) (hy : 0 ≤ y) (h1 : 1 ≤ m) (h2 : m ≤ 12) (h : Hp) (base : Nat) : G_calendar_length [I y, I m] h base = some (I (Cal.len y m), EF []) := (closedXD_val (F_calendar_length_val y m hy h1 h2 h) base).trans (by simp [idss, ids])
theorem F_calendar_before_1_val (n : Int) (h0 : 0 ≤ n) (h1 : n ≤ 100000) (h : Hp) : F_calendar_before_1 [I n] h = some (I (Cal.leaps n), h) := by
  refine F_calendar_before_1_run rfl ?_ h
  have r4 := fun k : Go.AM.K AV => reck_quoZ (P := Try.prog) (ty := 3) n 4 h0 (by omega) (by omega) k
  have r100 := fun k : Go.AM.K AV => reck_quoZ (P := Try.prog) (ty := 3) n 100 h0 (by omega) (by omega) k
  have r400 := fun k : Go.AM.K AV => reck_quoZ (P := Try.prog) (ty := 3) n 400 h0 (by omega) (by omega) k
  have w1 : IntKind.i64.wrap (n / 4 - n / 100) = n / 4 - n / 100 := wrap64 (by omega) (by omega)
  have w2 : IntKind.i64.wrap (n / 4 - n / 100 + n / 400) = n / 4 - n / 100 + n / 400 := wrap64 (by omega) (by omega)
  simp [f_calendar_before_1, r4, r100, r400, w1, w2, Cal.leaps]
theorem F_calendar_before_val (y : Int) (h0 : 1 ≤ y) (h1 : y ≤ 100000) (h : Hp) : F_calendar_before [I y] h = some (I (Cal.bef y), h) := by
  refine F_calendar_before_run rfl ?_ h
  have l1 := F_calendar_before_1_val (y - 1) (by omega) (by omega)
  have l2 := F_calendar_before_1_val 1899 (by omega) (by omega)
  have e2 : Cal.leaps 1899 = 460 := by decide
  rw [e2] at l2
  have w1 : IntKind.i64.wrap (y - 1900) = y - 1900 := wrap64 (by omega) (by omega)
  have w2 : IntKind.i64.wrap (365 * (y - 1900)) = 365 * (y - 1900) := wrap64 (by omega) (by omega)
  have w3 : IntKind.i64.wrap (y - 1) = y - 1 := wrap64 (by omega) (by omega)
  have bd : 0 ≤ Cal.leaps (y - 1) ∧ Cal.leaps (y - 1) ≤ 100000 := by unfold Cal.leaps; omega
  have w4 : IntKind.i64.wrap (365 * (y - 1900) + Cal.leaps (y - 1)) = 365 * (y - 1900) + Cal.leaps (y - 1) := wrap64 (by omega) (by omega)
  have w5 : IntKind.i64.wrap (365 * (y - 1900) + Cal.leaps (y - 1) - 460) = 365 * (y - 1900) + Cal.leaps (y - 1) - 460 := wrap64 (by omega) (by omega)
  simp [f_calendar_before, w1, w2, w3, l1, l2, w4, w5, Cal.bef]
theorem G_calendar_before_val (y : Int) (h0 : 1 ≤ y) (h1 : y ≤ 100000) (h : Hp) (base : Nat) : G_calendar_before [I y] h base = some (I (Cal.bef y), EF []) := (closedXD_val (F_calendar_before_val y h0 h1 h) base).trans (by simp [idss, ids])
abbrev dateH (y m d : Int) : Hp := [.arr 3 [[I 0, I 0, I 0]] true false, .arr 3 [[I y, I m, I d]] true false]
theorem bef_big {y : Int} (h : Cal.bef y ≤ 110000) : y ≤ 2300 := by
  by_cases hy : y ≤ 2300
  · exact hy
  · have := Cal.bef_mono (show (2300 : Int) ≤ y by omega)
    have e : Cal.bef 2300 = 146097 := by decide
    omega
theorem date_L4 (hT : T 76 = some F_calendar_before) {x0 : AV → AV → AV → Hp → Option β} (day : Int) (hd : day ≤ 100000) : ∀ (n : Nat) (y : Int), 1900 ≤ y → Cal.bef y ≤ day → day - Cal.bef y < n →
    ∃ y', 1900 ≤ y' ∧ Cal.bef y' ≤ day ∧ day < Cal.bef (y' + 1) ∧ f_calendar_date_L4 P T D N x0 n (I day) (.ptr 0 0 0 1) (.ptr 1 0 0 1) (dateH y 1 1) = x0 (I day) (.ptr 0 0 0 1) (.ptr 1 0 0 1) (dateH y' 1 1) := by
  intro n
  induction n with
  | zero => intro y _ _ h; omega
  | succ n ih =>
    intro y h1 h2 h3
    have hy := bef_big (y := y) (by omega)
    have e0 : f_calendar_date_L4 P T D N x0 (n + 1) (I day) (.ptr 0 0 0 1) (.ptr 1 0 0 1) (dateH y 1 1) = f_calendar_date_b4 P T D N (f_calendar_date_L4 P T D N x0 n) x0 (I day) (.ptr 0 0 0 1) (.ptr 1 0 0 1) (dateH y 1 1) := rfl
    have w1 : IntKind.i64.wrap (y + 1) = y + 1 := wrap64 (by omega) (by omega)
    have fb := F_calendar_before_val (y + 1) (by omega) (by omega)
    by_cases h4 : Cal.bef (y + 1) ≤ day
    · have := Cal.bef_succ y
      have := Cal.yl_pos y
      obtain ⟨y', q1, q2, q3, q4⟩ := ih (y + 1) (by omega) h4 (by omega)
      refine ⟨y', q1, q2, q3, ?_⟩
      rw [e0, ← q4]
      simp [f_calendar_date_b4, hT, w1, fb, h4]
    · refine ⟨y, h1, h2, by omega, ?_⟩
      rw [e0]
      simp [f_calendar_date_b4, hT, w1, fb, h4]
theorem date_L3 (hT : T 70 = some F_calendar_length) {x2 : AV → AV → AV → Hp → Option β} (day y : Int) (hy : 1900 ≤ y) : ∀ (n : Nat) (m : Int), 1 ≤ m → m ≤ 12 → (12 - m).toNat < n → 0 ≤ day - Cal.dn y m → day - Cal.dn y m < 400 → day < Cal.bef (y + 1) →
    ∃ m' r, 1 ≤ m' ∧ m' ≤ 12 ∧ 0 ≤ r ∧ r < Cal.len y m' ∧ Cal.dn y m' + r = day ∧ f_calendar_date_L3 P T D N x2 n (I (day - Cal.dn y m)) (.ptr 0 0 0 1) (.ptr 1 0 0 1) (dateH y m 1) = x2 (I r) (.ptr 0 0 0 1) (.ptr 1 0 0 1) (dateH y m' 1) := by
  intro n
  induction n with
  | zero => intro m _ _ h; omega
  | succ n ih =>
    intro m h1 h2 h3 h4 h5 h6
    have e0 : f_calendar_date_L3 P T D N x2 (n + 1) (I (day - Cal.dn y m)) (.ptr 0 0 0 1) (.ptr 1 0 0 1) (dateH y m 1) = f_calendar_date_b3 P T D N (f_calendar_date_L3 P T D N x2 n) x2 (I (day - Cal.dn y m)) (.ptr 0 0 0 1) (.ptr 1 0 0 1) (dateH y m 1) := rfl
    have fl := F_calendar_length_val y m (by omega) h1 h2
    have hl := Cal.len_pos y m
    have hd := Cal.pre_succ y h1 h2
    have hdn : Cal.dn y (m + 1) = Cal.dn y m + Cal.len y m := by unfold Cal.dn; omega
    by_cases hc : Cal.len y m ≤ day - Cal.dn y m
    · have hm : m ≠ 12 := by
        rintro rfl
        have := Cal.bef_succ y
        have q := Cal.pre_13 y
        simp [q] at hd
        unfold Cal.dn at hc
        omega
      have w1 : IntKind.i64.wrap (day - Cal.dn y m - Cal.len y m) = day - Cal.dn y (m + 1) := by rw [wrap64 (by omega) (by omega)]; omega
      have w2 : IntKind.i64.wrap (m + 1) = m + 1 := wrap64 (by omega) (by omega)
      obtain ⟨m', r, q1, q2, q3, q4, q5, q6⟩ := ih (m + 1) (by omega) (by omega) (by omega) (by omega) (by omega) h6
      refine ⟨m', r, q1, q2, q3, q4, q5, ?_⟩
      rw [e0, ← q6]
      simp [f_calendar_date_b3, hT, fl, hc, w1, w2]
    · refine ⟨m, day - Cal.dn y m, h1, h2, h4, by omega, by omega, ?_⟩
      rw [e0]
      simp [f_calendar_date_b3, hT, fl, hc]
theorem F_calendar_date_val (day : Int) (h0 : 0 ≤ day) (hd : day ≤ 100000) : ∃ y m d, Cal.Is day y m d ∧ ∀ h, F_calendar_date [I day] h = some (encD y m d, h) := by
  have r1 := fun k : Go.AM.K AV => reck_quoZ (P := Try.prog) (ty := 3) day 366 h0 (by omega) (by omega) k
  have hb := Cal.bef_le (day / 366) (by omega)
  have w1 : IntKind.i64.wrap (1900 + day / 366) = 1900 + day / 366 := wrap64 (by omega) (by omega)
  obtain ⟨y, q1, q2, q3, q4⟩ := date_L4 (P := Try.prog) (T := t_calendar_date) (D := d_calendar_date) (N := NN) rfl (x0 := fun w58_0 w58_2 w58_3 h => f_calendar_date_j1 Try.prog t_calendar_date d_calendar_date NN (fun v g => cvt false g v) w58_0 w58_2 w58_3 h) day hd NN (1900 + day / 366) (by omega) (by omega) (by have := NN_ge; omega)
  have hy := bef_big (y := y) (by omega)
  have hbs := Cal.bef_succ y
  have hyl := Cal.yl_pos y
  have hdn1 : Cal.dn y 1 = Cal.bef y := by unfold Cal.dn; rw [Cal.pre_1]; omega
  obtain ⟨m, r, p1, p2, p3, p4, p5, p6⟩ := date_L3 (P := Try.prog) (T := t_calendar_date) (D := d_calendar_date) (N := NN) rfl (x2 := fun w45_0 w45_2 w45_3 h => f_calendar_date_j2 Try.prog t_calendar_date d_calendar_date NN (fun v g => cvt false g v) w45_0 w45_2 w45_3 h) day y q1 NN 1 (by omega) (by omega) (by have := NN_ge; omega) (by omega) (by omega) q3
  rw [hdn1] at p6
  have hlp := Cal.len_pos y m
  refine ⟨y, m, 1 + r, ⟨q1, ⟨p1, p2⟩, by omega, by omega⟩, fun h => ?_⟩
  refine F_calendar_date_run rfl ?_ h
  have fb := F_calendar_before_val y (by omega) (by omega)
  have w2 : IntKind.i64.wrap (day - Cal.bef y) = day - Cal.bef y := wrap64 (by omega) (by omega)
  have w3 : IntKind.i64.wrap (1 + r) = 1 + r := wrap64 (by omega) (by omega)
  refine Eq.trans ?_ (q4.trans ?_)
  · simp [f_calendar_date, r1, w1, buildK, fillA, boxE]
  · refine Eq.trans ?_ (p6.trans ?_)
    · simp [f_calendar_date_j1, fb, w2]
    · simp [f_calendar_date_j2, w3]
theorem F_calendar_Date_val (day : Int) (h0 : 0 ≤ day) (hd : day ≤ 100000) : ∃ y m d, Cal.Is day y m d ∧ ∀ h, F_calendar_Date [I day] h = some (.tup [encD y m d, I 0], h) := by
  obtain ⟨y, m, d, hi, hf⟩ := F_calendar_date_val day h0 hd
  refine ⟨y, m, d, hi, fun h => F_calendar_Date_run rfl ?_ h⟩
  have hw : win day 0 100000 = true := by simp [win]; omega
  simp [f_calendar_Date, F_calendar_is_val, hw, hf]
theorem number_L2 (hT : T 70 = some F_calendar_length) {x0 : AV → Hp → Option β} (y m d : Int) (hy : 1900 ≤ y) (h12 : m ≤ 12) (a : Int) (ha : 0 ≤ a ∧ a ≤ 200000) : ∀ (n : Nat) (k : Int), 1 ≤ k → k ≤ m → (m - k).toNat < n →
    f_calendar_number_L2 P T D N x0 n (.ptr 0 0 0 1) (I (a + Cal.pre y k)) (I k) [.arr 3 [[I y, I m, I d]] true false] = x0 (I (a + Cal.pre y m)) [.arr 3 [[I y, I m, I d]] true false] := by
  intro n
  induction n with
  | zero => intro k _ _ h; omega
  | succ n ih =>
    intro k h1 h2 h3
    show f_calendar_number_b2 P T D N (f_calendar_number_L2 P T D N x0 n) x0 _ _ _ _ = _
    by_cases hc : k < m
    · have fl := F_calendar_length_val y k (by omega) h1 (by omega)
      have hp := Cal.pre_succ y h1 (show k ≤ 12 by omega)
      have hb := Cal.pre_bd y h1 (show k ≤ 12 by omega)
      have hl := Cal.len_pos y k
      have hyl := Cal.yl_pos y
      have w1 : IntKind.i64.wrap (a + Cal.pre y k + Cal.len y k) = a + Cal.pre y (k + 1) := by rw [wrap64 (by omega) (by omega)]; omega
      have w2 : IntKind.i64.wrap (k + 1) = k + 1 := wrap64 (by omega) (by omega)
      rw [← ih (k + 1) (by omega) (by omega) (by omega)]
      simp [f_calendar_number_b2, hc, hT, fl, w1, w2]
    · have : k = m := by omega
      subst this
      simp [f_calendar_number_b2]
theorem F_calendar_number_val (y m d : Int) (hy : 1900 ≤ y) (hy2 : y ≤ 2200) (h1 : 1 ≤ m) (h12 : m ≤ 12) (d1 : 1 ≤ d) (d2 : d ≤ 31) (h : Hp) : F_calendar_number [encD y m d] h = some (I (Cal.dn y m + (d - 1)), h) := by
  refine F_calendar_number_run rfl ?_ h
  have g1 := G_calendar_before_val y (by omega) (by omega)
  have b0 := Cal.bef_mono hy
  rw [Cal.bef_0] at b0
  have b1 := Cal.bef_mono hy2
  have e : Cal.bef 2200 = 109573 := by decide
  rw [e] at b1
  have w1 : IntKind.i64.wrap (Cal.bef y + d) = Cal.bef y + d := wrap64 (by omega) (by omega)
  have w2 : IntKind.i64.wrap (Cal.bef y + d - 1) = Cal.bef y + d - 1 := wrap64 (by omega) (by omega)
  have L := number_L2 (P := Try.prog) (T := t_calendar_number) (D := d_calendar_number) (N := NN) rfl (x0 := fun w21_3 h => f_calendar_number_j1 Try.prog t_calendar_number d_calendar_number NN (fun v g => cvt false g v) w21_3 h) y m d hy h12 (Cal.bef y + d - 1) ⟨by omega, by omega⟩ NN 1 (by omega) h1 (by have := NN_ge; omega)
  rw [Cal.pre_1] at L
  refine Eq.trans ?_ (L.trans ?_)
  · simp [f_calendar_number, boxE, effD_y, callE_F, g1, w1, w2, disjAll, disj2, wrOf, idsOf]
  · simp [f_calendar_number_j1, Cal.dn]; omega
set_option maxHeartbeats 2000000 in
/-- The first day of the month behind. -/
theorem F_calendar_Day_val (y m : Int) (hy : 1900 ≤ y) (hy2 : y ≤ 2200) (h1 : 1 ≤ m) (h12 : m ≤ 12) (h : Hp) : F_calendar_Day [encD y m 1] h = some (if Cal.dn y m ≤ 100000 then .tup [I (Cal.dn y m), I 0] else .tup [I 0, I 1], h) := by
  refine F_calendar_Day_run rfl ?_ h
  have b0 := Cal.bef_mono hy
  rw [Cal.bef_0] at b0
  have hl := Cal.len_pos y m
  have gl := G_calendar_length_val y m (by omega) h1 h12
  have fn := F_calendar_number_val y m 1 hy hy2 h1 h12 (by omega) (by omega)
  have hp := Cal.pre_bd y h1 h12
  have e0 : Cal.dn y m + (1 - 1) = Cal.dn y m := by omega
  rw [e0] at fn
  have hd0 : 0 ≤ Cal.dn y m := by unfold Cal.dn; omega
  have gi : ∀ (a : Int) (h : Hp) (base : Nat), G_calendar_is [I a] h base = some (B (win a 0 100000), EF []) := fun a h base => (closedXD_val (F_calendar_is_val a h) base).trans (by simp [idss, ids])
  have c1 : ¬ y < 1900 := by omega
  have c2 : ¬ 2200 < y := by omega
  have c3 : ¬ m < 1 := by omega
  have c4 : ¬ 12 < m := by omega
  have c5 : ¬ Cal.len y m < 1 := by omega
  by_cases hd : Cal.dn y m ≤ 100000
  · obtain ⟨y', m', d', hi, hf⟩ := F_calendar_date_val (Cal.dn y m) hd0 hd
    have hu := hi.unique (y' := y) (m' := m) (d' := 1) ⟨hy, ⟨h1, h12⟩, by omega, by omega⟩
    obtain ⟨rfl, rfl, rfl⟩ := hu
    have gd : ∀ (h : Hp) (base : Nat), G_calendar_date [I (Cal.dn y' m')] h base = some (encD y' m' 1, EF []) := fun h base => (closedXD_val (hf h) base).trans (by simp [idss, ids])
    have hw : win (Cal.dn y' m') 0 100000 = true := by simp [win, hd0, hd]
    simp [f_calendar_Day, boxE, c1, c2, c3, c4, c5, gl, fn, gi, gd, hw, hd, disjAll, disj2, wrOf, idsOf]
  · have hw : win (Cal.dn y m) 0 100000 = false := by simp [win]; omega
    simp [f_calendar_Day, boxE, c1, c2, c3, c4, c5, gl, fn, gi, hw, hd, disjAll, disj2, wrOf, idsOf]
end
end Go.AM

/- season: Check, right, version, rate. -/
namespace Go.AM
open Go.Proofs
set_option linter.unusedVariables false
set_option linter.unusedSimpArgs false
set_option linter.constructorNameAsVariable false
set_option maxRecDepth 20000
structure Allow where
  frm : Int
  cls : Int
  mon : Int
  rate : Int
deriving DecidableEq
def encA (a : Allow) : List AV := [I a.frm, I a.cls, I a.mon, I a.rate]
def badA (a : Allow) : Bool := !win a.frm 0 100000 || !win a.cls 1 9 || !win a.mon 1 12 || !win a.rate 0 10000
def ltA (a b : Allow) : Bool := if a.frm ≠ b.frm then decide (a.frm < b.frm) else if a.cls ≠ b.cls then decide (a.cls < b.cls) else decide (a.mon < b.mon)
theorem ltA_iff (a b : Allow) : ltA a b = true ↔ a.frm < b.frm ∨ (a.frm = b.frm ∧ (a.cls < b.cls ∨ (a.cls = b.cls ∧ a.mon < b.mon))) := by
  unfold ltA
  by_cases e1 : a.frm = b.frm
  · by_cases e2 : a.cls = b.cls
    · simp [e1, e2]
    · simp [e1, e2]
  · simp [e1]
theorem ltA_trans (a b c : Allow) (h1 : ltA a b = true) (h2 : ltA b c = true) : ltA a c = true := by
  rw [ltA_iff] at *; omega
theorem ltA_frm {a b : Allow} (h : ltA a b = true) : a.frm ≤ b.frm := by
  rw [ltA_iff] at h; omega
section
variable {β : Type} {P : Program} {T : Tab} {D : DTab} {N : Nat} {K : AV → Hp → Option β}
theorem F_season_in_val (a b c : Int) (h : Hp) : F_season_in [I a, I b, I c] h = some (B (win a b c), h) := F_season_in_run rfl (by simp [f_season_in, win]) h
theorem F_season_before_val (a b : Allow) (h : Hp) : F_season_before [.agg (encA a), .agg (encA b)] h = some (B (ltA a b), h) := by
  refine F_season_before_run (by simp [encA]) ?_ h
  by_cases h1 : a.frm = b.frm
  · by_cases h2 : a.cls = b.cls
    · simp [f_season_before, encA, ltA, h1, h2]
    · have h2' : (a.cls == b.cls) = false := by simpa using h2
      simp [f_season_before, encA, ltA, h1, h2, h2']
  · have h1' : (a.frm == b.frm) = false := by simpa using h1
    simp [f_season_before, encA, ltA, h1, h1']
def checkA (l : List Allow) : Int × Int := if 128 < l.length then (-1, 8) else (checkG badA ltA none l 0).getD (-1, 0)
theorem season_Check_L2 (hT1 : T 34 = some F_season_in) (hT2 : T 43 = some F_season_before) {x0 : Hp → Option β} {xr : AV → AV → Hp → Option β} {X : Option β} {R : Int → Int → Option β} (hx : ∀ h, x0 h = X) (hr : ∀ a b h, xr (I a) (I b) h = R a b) (l : List Allow) (b : Bool) (hl : l.length < 1000000) :
    ∀ (n : Nat) (pre post : List Allow) (h : Hp), l = pre ++ post → post.length < n →
    f_season_Check_L2 P T D N x0 xr n (.lst 4 b (l.map encA)) (.lst 4 b (l.map encA)) (I l.length) (I pre.length) h = match checkG badA ltA pre.getLast? post pre.length with | none => X | some (a, b) => R a b := by
  intro n
  induction n with
  | zero => intro pre post h _ h2; omega
  | succ n ih =>
    intro pre post h hc hn
    show f_season_Check_b2 P T D N (f_season_Check_L2 P T D N x0 xr n) x0 xr _ _ _ _ h = _
    cases post with
    | nil =>
      have : l = pre := by simpa using hc
      subst this
      simp [f_season_Check_b2, hx, checkG]
    | cons c post =>
      have hi : pre.length < l.length := by rw [hc]; simp
      have hci : l[pre.length]? = some c := by rw [hc]; simp
      have hlt : ((pre.length : Int) < (l.length : Int)) := by omega
      have hw : IntKind.i64.wrap ((pre.length : Int) + 1) = (((pre ++ [c]).length : Nat) : Int) := by rw [wrap64 (by omega) (by omega)]; simp
      have step := fun h => ih (pre ++ [c]) post h (by simpa using hc) (by simpa using hn)
      have hgl : (pre ++ [c]).getLast? = some c := by simp
      rw [hgl] at step
      have e1 : (((pre ++ [c]).length : Nat) : Int) = (pre.length : Int) + 1 := by simp
      rw [checkG]
      by_cases hb : badA c = true
      · have hb' := hb
        simp only [badA] at hb'
        simp [f_season_Check_b2, hlt, hci, encA, hT1, F_season_in_val, hb, hb', hr]
      · have hb' : badA c = false := by simpa using hb
        have hb2 := hb'
        simp only [badA] at hb2
        rw [hb', if_neg (by simp)]
        have ic : ∀ k : Go.AM.K β, iaK 4 (.lst 4 b (l.map encA)) (I pre.length) k = k (.ep (encA c) 0) := fun k => iaK_at pre.length rfl hci k
        simp only [encA] at ic
        rw [e1] at step hw
        rcases List.eq_nil_or_concat pre with rfl | ⟨pre', q, hq⟩
        · have w1 : IntKind.i64.wrap 1 = 1 := wrap64 (by omega) (by omega)
          have hlt0 : (0 : Int) < (l.length : Int) := hlt
          have ic0 : ∀ k : Go.AM.K β, iaK 4 (.lst 4 b (l.map fun a => [I a.frm, I a.cls, I a.mon, I a.rate])) (I 0) k = k (.ep [I c.frm, I c.cls, I c.mon, I c.rate] 0) := ic
          have hen : l.map encA = l.map fun a => [I a.frm, I a.cls, I a.mon, I a.rate] := rfl
          simp only [List.length_nil, hen] at step ⊢
          simp only [f_season_Check_b2, Int.natCast_zero, Int.ofNat_zero, Int.ofNat_eq_natCast, arithK_lss, hlt0, decide_true, condK_bool, if_true, ic0]
          simp [hT1, F_season_in_val, hb2, w1]
          simpa using step (h ++ [.arr 4 [[I c.frm, I c.cls, I c.mon, I c.rate]] true false])
        · have hq : pre = pre' ++ [q] := by rw [hq]; simp
          have hgp : pre.getLast? = some q := by rw [hq]; simp
          have hqi : l[pre'.length]? = some q := by rw [hc, hq]; simp
          have hpl : (pre.length : Int) = (pre'.length : Int) + 1 := by rw [hq]; simp
          have iq : ∀ k : Go.AM.K β, iaK 4 (.lst 4 b (l.map encA)) (I pre'.length) k = k (.ep (encA q) 0) := fun k => iaK_at pre'.length rfl hqi k
          simp only [encA] at iq
          rw [hgp]
          clear hgp hq ih hc
          have hlb : (pre.length : Int) < 1000000 := by omega
          generalize (pre.length : Int) = i at *
          have h0 : (0 : Int) < i := by omega
          have w2 : IntKind.i64.wrap (i - 1) = (pre'.length : Int) := by rw [wrap64 (by omega) (by omega)]; omega
          have fb := F_season_before_val q c
          simp only [encA] at fb
          by_cases ho : ltA q c = true
          · simp [f_season_Check_b2, hlt, iq, ic, hT1, hT2, F_season_in_val, hb2, h0, w2, fb, ho, hw, step]
          · have ho' : ltA q c = false := by simpa using ho
            simp [f_season_Check_b2, hlt, iq, ic, hT1, hT2, F_season_in_val, hb2, h0, w2, fb, ho', hr]
end
end Go.AM

/- season: version, rate, on, sum. -/
namespace Go.AM
open Go.Proofs
set_option linter.unusedVariables false
set_option linter.unusedSimpArgs false
set_option linter.constructorNameAsVariable false
set_option maxRecDepth 20000
theorem checkA_ok {l : List Allow} (h : (checkA l).2 = 0) : l.length ≤ 128 ∧ (∀ a ∈ l, badA a = false) ∧ l.Pairwise (fun a b => ltA a b = true) := by
  unfold checkA at h
  split at h
  · simp at h
  · cases hc : checkG badA ltA none l 0 with
    | none =>
      obtain ⟨h1, h2, -⟩ := checkG_none ltA_trans l none 0 hc
      exact ⟨by omega, h1, h2⟩
    | some x => rw [hc] at h; exact absurd h (checkG_ne _ _ _ _ hc)
theorem badA_bd {a : Allow} (h : badA a = false) : (0 ≤ a.frm ∧ a.frm ≤ 100000) ∧ (1 ≤ a.cls ∧ a.cls ≤ 9) ∧ (1 ≤ a.mon ∧ a.mon ≤ 12) ∧ 0 ≤ a.rate ∧ a.rate ≤ 10000 := by
  simp [badA, win] at h; omega
section
variable {β : Type} {P : Program} {T : Tab} {D : DTab} {N : Nat} {K : AV → Hp → Option β}
theorem F_season_Check_val (l : List Allow) (b : Bool) (h : Hp) : F_season_Check [.lst 4 b (l.map encA)] h = some (.tup [I (checkA l).1, I (checkA l).2], h) := by
  refine F_season_Check_run rfl ?_ h
  unfold checkA
  by_cases hl : 128 < l.length
  · have hl' : (128 : Int) < (l.length : Int) := by omega
    simp [f_season_Check, hl, hl']
  · have hl' : ¬ (128 : Int) < (l.length : Int) := by omega
    have h1 := season_Check_L2 (β := AV) (P := Try.prog) (T := t_season_Check) (D := d_season_Check) (N := NN) (x0 := fun h => f_season_Check_j1 Try.prog t_season_Check d_season_Check NN (fun v g => cvt false g v) h) (xr := fun a b h => cvt false h (.tup [a, b])) rfl rfl
      (X := some (.tup [I (-1), I 0])) (R := fun a b => some (.tup [I a, I b])) (fun h => rfl) (fun a b h => rfl) l b (by omega) NN [] l [] rfl (by have := NN_ge; omega)
    simp [f_season_Check, hl, hl'] at h1 ⊢
    refine h1.trans ?_
    cases checkG badA ltA none l 0 <;> rfl
def rightA (l : List Allow) : Bool := decide ((checkA l).2 = 0)
theorem F_season_right_val (l : List Allow) (b : Bool) (h : Hp) : F_season_right [.lst 4 b (l.map encA)] h = some (B (rightA l), h) := by
  refine F_season_right_run rfl ?_ h
  simp [f_season_right, F_season_Check_val, rightA]
  rfl
theorem Search_L2 {x0 : AV → Hp → Option β} {fv : AV} {h : Hp} {n c : Nat} (hn : n < 1000000) (hc : c ≤ n) (hp : ∀ j, j < n → ∀ k : AV → Hp → Option β, callVK T fv [I (j : Nat)] h k = k (B (decide (c ≤ j))) h) : ∀ (m i j : Nat), i ≤ c → c ≤ j → j ≤ n → j - i < m →
    f_sort_Search_L2 Try.prog T D N x0 m fv (I i) (I j) h = x0 (I c) h := by
  intro m
  induction m with
  | zero => intro i j _ _ _ h; omega
  | succ m ih =>
    intro i j h1 h2 h3 h4
    show f_sort_Search_b2 Try.prog T D N (f_sort_Search_L2 Try.prog T D N x0 m) x0 _ _ _ h = _
    by_cases hij : i < j
    · have hij' : (i : Int) < (j : Int) := by omega
      obtain ⟨q, hq⟩ : ∃ q, q = (i + j) / 2 := ⟨_, rfl⟩
      have w1 : IntKind.i64.wrap ((i : Int) + (j : Int)) = ((i + j : Nat) : Int) := by rw [wrap64 (by omega) (by omega)]; omega
      have w2 : IntKind.u64.wrap ((i + j : Nat) : Int) = ((i + j : Nat) : Int) := wrapU (by omega) (by omega)
      have w3 : IntKind.i64.wrap (q : Int) = (q : Int) := wrap64 (by omega) (by omega)
      have w4 : IntKind.i64.wrap ((q : Int) + 1) = ((q + 1 : Nat) : Int) := by rw [wrap64 (by omega) (by omega)]; omega
      have hs : ∀ k : Go.AM.K β, reckK Try.prog .shr 94 (.s (.int .u64 ((i + j : Nat) : Int))) (.s (.int .u64 1)) k = k (.s (.int .u64 (q : Int))) := fun k => by
        have := reck_shr (P := Try.prog) (ty := 94) (i + j) 1 (by omega) k
        rw [hq]; exact this
      have hpq := hp q (by omega)
      have a1 : ∀ k : Go.AM.K β, arithK .add (I i) (I j) k = k (I ((i + j : Nat) : Int)) := fun k => by rw [arithK_add, w1]
      have a2 : ∀ k : Go.AM.K β, convK Try.prog 3 94 (I ((i + j : Nat) : Int)) k = k (.s (.int .u64 ((i + j : Nat) : Int))) := fun k => by rw [convK_int un_3 un_94, w2]
      have a3 : ∀ k : Go.AM.K β, convK Try.prog 94 3 (.s (.int .u64 (q : Int))) k = k (I q) := fun k => by rw [convK_int un_94 un_3, w3]
      simp only [f_sort_Search_b2, f_sort_Search_j3, arithK_lss, hij', decide_true, condK_bool, if_true, a1, a2, hs, a3, hpq, notK_bool]
      by_cases hcq : c ≤ q
      · rw [decide_eq_true hcq]
        simp only [Bool.not_true, Bool.false_eq_true, if_false]
        exact ih i q h1 hcq (by omega) (by omega)
      · rw [decide_eq_false hcq]
        simp only [Bool.not_false, if_true, arithK_add, w4]
        exact ih (q + 1) j (by omega) h2 h3 (by omega)
    · have : i = j := by omega
      have : i = c := by omega
      subst this
      have hij' : ¬ (i : Int) < (j : Int) := by omega
      simp [f_sort_Search_b2, hij']
theorem Search_K {K : AV → Hp → Option β} {fv : AV} {h : Hp} {n c : Nat} (hn : n < 1000000) (hN : n < N) (hc : c ≤ n) (hp : ∀ j, j < n → ∀ k : AV → Hp → Option β, callVK T fv [I (j : Nat)] h k = k (B (decide (c ≤ j))) h) :
    f_sort_Search Try.prog T D N K (I n) fv h = K (I c) h := by
  have := Search_L2 (D := D) (N := N) (x0 := fun w10_5 h => f_sort_Search_j1 Try.prog T D N K w10_5 h) hn hc hp N 0 n (by omega) hc (Nat.le_refl _) (by omega)
  exact this
/-- Rows that are in force on a day. -/
def upto (l : List Allow) (day : Int) : Nat := (l.takeWhile fun a => decide (a.frm ≤ day)).length
def versionL (l : List Allow) (day : Int) : Option Int := ((l.take (upto l day)).getLast?).map (·.frm)
theorem upto_le (l : List Allow) (day : Int) : upto l day ≤ l.length := tw_le _ _
theorem upto_get {l : List Allow} (hs : l.Pairwise (fun a b => ltA a b = true)) (day : Int) {j : Nat} {a : Allow} (ha : l[j]? = some a) : decide (a.frm ≤ day) = decide (j < upto l day) := by
  obtain ⟨hj, e⟩ := List.getElem?_eq_some_iff.1 ha
  have := tw_get (R := fun a b => ltA a b = true) (p := fun a : Allow => decide (a.frm ≤ day)) (fun a b h hb => by have := ltA_frm h; simp at hb ⊢; omega) hs j hj
  rw [e] at this
  exact this
theorem upto_dec {l : List Allow} (hs : l.Pairwise (fun a b => ltA a b = true)) (day : Int) {j : Nat} {a : Allow} (ha : l[j]? = some a) : decide (day < a.frm) = decide (upto l day ≤ j) := by
  have := upto_get hs day ha
  by_cases h : a.frm ≤ day
  · rw [decide_eq_true h] at this
    have h2 := of_decide_eq_true this.symm
    rw [decide_eq_false (by omega), decide_eq_false (by omega)]
  · rw [decide_eq_false h] at this
    have h2 := of_decide_eq_false this.symm
    rw [decide_eq_true (by omega), decide_eq_true (by omega)]
theorem F_season_version_1_val (l : List Allow) (b : Bool) (day : Int) {a : Allow} (j i1 i2 : Nat) (ha : l[j]? = some a) {h : Hp} (h1 : h[i1]? = some (.arr 1 [[.lst 4 b (l.map encA)]] true false)) (h2 : h[i2]? = some (.arr 1 [[I day]] true false)) :
    F_season_version_1 [I j, .ptr i1 0 0 1, .ptr i2 0 0 1] h = some (B (decide (day < a.frm)), h) := by
  refine F_season_version_1_q (g := []) ?_ rfl
  simp [f_season_version_1, h1, h2, ha, encA]
theorem F_season_on_1_val (l : List Allow) (b : Bool) (day : Int) {a : Allow} (j i1 i2 : Nat) (ha : l[j]? = some a) {h : Hp} (h1 : h[i1]? = some (.arr 1 [[.lst 4 b (l.map encA)]] true false)) (h2 : h[i2]? = some (.arr 1 [[I day]] true false)) :
    F_season_on_1 [I j, .ptr i1 0 0 1, .ptr i2 0 0 1] h = some (B (decide (day < a.frm)), h) := by
  refine F_season_on_1_q (g := []) ?_ rfl
  simp [f_season_on_1, h1, h2, ha, encA]
theorem F_season_rate_1_val (l : List Allow) (b : Bool) (w : Allow) {a : Allow} (j i1 i2 : Nat) (ha : l[j]? = some a) {h : Hp} (h1 : h[i1]? = some (.arr 1 [[.lst 4 b (l.map encA)]] true false)) (h2 : h[i2]? = some (.arr 4 [encA w] true false)) :
    F_season_rate_1 [I j, .ptr i1 0 0 1, .ptr i2 0 0 1] h = some (B (!ltA a w), h) := by
  refine F_season_rate_1_q (g := []) ?_ rfl
  have fb := F_season_before_val a w
  simp only [encA] at h2 fb
  simp [f_season_rate_1, h1, h2, ha, encA, fb]
theorem F_Search_version (l : List Allow) (b : Bool) (day : Int) (hs : l.Pairwise (fun a b => ltA a b = true)) (hl : l.length < 1000000) (i1 i2 : Nat) {h : Hp} (h1 : h[i1]? = some (.arr 1 [[.lst 4 b (l.map encA)]] true false)) (h2 : h[i2]? = some (.arr 1 [[I day]] true false)) :
    F_sort_Search__season_version_1 [I l.length, .fn 58 [.ptr i1 0 0 1, .ptr i2 0 0 1]] h = some (I (upto l day), h) := by
  refine F_sort_Search__season_version_1_q (g := []) ?_ rfl
  rw [List.append_nil]
  refine Search_K hl (by have := NN_ge; omega) (upto_le l day) fun j hj k => ?_
  have ha := List.getElem?_eq_getElem hj
  have := F_season_version_1_val l b day j i1 i2 ha h1 h2
  rw [upto_dec hs day ha] at this
  simp [this]
theorem F_Search_on (l : List Allow) (b : Bool) (day : Int) (hs : l.Pairwise (fun a b => ltA a b = true)) (hl : l.length < 1000000) (i1 i2 : Nat) {h : Hp} (h1 : h[i1]? = some (.arr 1 [[.lst 4 b (l.map encA)]] true false)) (h2 : h[i2]? = some (.arr 1 [[I day]] true false)) :
    F_sort_Search__season_on_1 [I l.length, .fn 56 [.ptr i1 0 0 1, .ptr i2 0 0 1]] h = some (I (upto l day), h) := by
  refine F_sort_Search__season_on_1_q (g := []) ?_ rfl
  rw [List.append_nil]
  refine Search_K hl (by have := NN_ge; omega) (upto_le l day) fun j hj k => ?_
  have ha := List.getElem?_eq_getElem hj
  have := F_season_on_1_val l b day j i1 i2 ha h1 h2
  rw [upto_dec hs day ha] at this
  simp [this]
/-- Rows ahead of one. -/
def ahead (l : List Allow) (w : Allow) : Nat := (l.takeWhile fun a => ltA a w).length
theorem ahead_get {l : List Allow} (hs : l.Pairwise (fun a b => ltA a b = true)) (w : Allow) {j : Nat} {a : Allow} (ha : l[j]? = some a) : (!ltA a w) = decide (ahead l w ≤ j) := by
  obtain ⟨hj, e⟩ := List.getElem?_eq_some_iff.1 ha
  have := tw_get (R := fun a b => ltA a b = true) (p := fun a : Allow => ltA a w) (fun a b h hb => ltA_trans a b w h hb) hs j hj
  rw [e] at this
  rw [this]
  unfold ahead
  by_cases h : j < (l.takeWhile fun a => ltA a w).length
  · rw [decide_eq_true h, decide_eq_false (by omega)]; rfl
  · rw [decide_eq_false h, decide_eq_true (by omega)]; rfl
theorem F_Search_rate (l : List Allow) (b : Bool) (w : Allow) (hs : l.Pairwise (fun a b => ltA a b = true)) (hl : l.length < 1000000) (i1 i2 : Nat) {h : Hp} (h1 : h[i1]? = some (.arr 1 [[.lst 4 b (l.map encA)]] true false)) (h2 : h[i2]? = some (.arr 4 [encA w] true false)) :
    F_sort_Search__season_rate_1 [I l.length, .fn 72 [.ptr i1 0 0 1, .ptr i2 0 0 1]] h = some (I (ahead l w), h) := by
  refine F_sort_Search__season_rate_1_q (g := []) ?_ rfl
  rw [List.append_nil]
  refine Search_K hl (by have := NN_ge; omega) (tw_le _ _) fun j hj k => ?_
  have ha := List.getElem?_eq_getElem hj
  have := F_season_rate_1_val l b w j i1 i2 ha h1 h2
  rw [ahead_get hs w ha] at this
  simp [this]
theorem F_season_version_val (l : List Allow) (b : Bool) (day : Int) (hs : l.Pairwise (fun a b => ltA a b = true)) (hl : l.length < 1000000) (h : Hp) : F_season_version [.lst 4 b (l.map encA), I day] h = some (match versionL l day with | some v => .tup [I v, B true] | none => .tup [I 0, B false], h) := by
  refine F_season_version_run rfl ?_ h
  have fs := F_Search_version l b day hs hl 0 1 (h := [.arr 1 [[.lst 4 b (l.map encA)]] true false, .arr 1 [[I day]] true false]) rfl rfl
  have hu := upto_le l day
  unfold versionL
  by_cases h0 : upto l day = 0
  · rw [h0] at fs ⊢
    simp [f_season_version, fs]
  · obtain ⟨j, hj⟩ : ∃ j, upto l day = j + 1 := ⟨upto l day - 1, by omega⟩
    have hjl : j < l.length := by omega
    have ha := List.getElem?_eq_getElem hjl
    have hg : (l.take (upto l day)).getLast? = some l[j] := by
      rw [hj, List.getLast?_eq_getElem?, List.length_take, Nat.min_eq_left (by omega), List.getElem?_take]
      simp
    rw [hg]
    have w1 : IntKind.i64.wrap ((upto l day : Int) - 1) = (j : Int) := by rw [wrap64 (by omega) (by omega)]; omega
    have hne : ((upto l day : Int) == 0) = false := by simpa using h0
    simp [f_season_version, fs, w1, h0, hne, ha, encA]
def rateAt (l : List Allow) (v cls mon : Int) : Int := match l.find? (fun a => decide (a.frm = v ∧ a.cls = cls ∧ a.mon = mon)) with | some a => a.rate | none => 0
theorem find_ahead {l : List Allow} (hs : l.Pairwise (fun a b => ltA a b = true)) (v cls mon : Int) : l.find? (fun a => decide (a.frm = v ∧ a.cls = cls ∧ a.mon = mon)) = match l[ahead l ⟨v, cls, mon, 0⟩]? with
    | some a => if a.frm = v ∧ a.cls = cls ∧ a.mon = mon then some a else none
    | none => none := by
  induction l with
  | nil => rfl
  | cons a l ih =>
    obtain ⟨h1, h2⟩ := List.pairwise_cons.1 hs
    by_cases hk : a.frm = v ∧ a.cls = cls ∧ a.mon = mon
    · have hn : ltA a ⟨v, cls, mon, 0⟩ = false := by
        cases hq : ltA a ⟨v, cls, mon, 0⟩ with
        | false => rfl
        | true => rw [ltA_iff] at hq; simp at hq; omega
      have : ahead (a :: l) ⟨v, cls, mon, 0⟩ = 0 := by
        unfold ahead; rw [List.takeWhile_cons_of_neg (by simp [hn])]; rfl
      rw [this]
      simp [hk]
    · rw [List.find?_cons_of_neg (by simpa using hk), ih h2]
      by_cases hlt : ltA a ⟨v, cls, mon, 0⟩ = true
      · have : ahead (a :: l) ⟨v, cls, mon, 0⟩ = ahead l ⟨v, cls, mon, 0⟩ + 1 := by
          unfold ahead; rw [List.takeWhile_cons_of_pos (p := fun a => ltA a ⟨v, cls, mon, 0⟩) hlt]; rfl
        rw [this]
        simp
      · have e0 : ahead (a :: l) ⟨v, cls, mon, 0⟩ = 0 := by
          unfold ahead; rw [List.takeWhile_cons_of_neg (p := fun a => ltA a ⟨v, cls, mon, 0⟩) hlt]; rfl
        rw [e0]
        simp only [List.getElem?_cons_zero]
        rw [if_neg hk]
        clear ih
        cases l with
        | nil => rfl
        | cons c l =>
          have hac := h1 c (by simp)
          have hc : ltA c ⟨v, cls, mon, 0⟩ = false := by
            cases hq : ltA c ⟨v, cls, mon, 0⟩ with
            | false => rfl
            | true => exact absurd (ltA_trans a c _ hac hq) hlt
          have e1 : ahead (c :: l) ⟨v, cls, mon, 0⟩ = 0 := by
            unfold ahead; rw [List.takeWhile_cons_of_neg (by simp [hc])]; rfl
          rw [e1]
          simp only [List.getElem?_cons_zero]
          rw [if_neg]
          rintro ⟨q1, q2, q3⟩
          apply hlt
          rw [ltA_iff] at hac ⊢
          simp only
          omega
theorem F_season_rate_val (l : List Allow) (b : Bool) (v cls mon : Int) (hs : l.Pairwise (fun a b => ltA a b = true)) (hl : l.length < 1000000) (h : Hp) : F_season_rate [.lst 4 b (l.map encA), I v, I cls, I mon] h = some (I (rateAt l v cls mon), h) := by
  refine F_season_rate_run rfl ?_ h
  have fs := F_Search_rate l b ⟨v, cls, mon, 0⟩ hs hl 0 1 (h := [.arr 1 [[.lst 4 b (l.map encA)]] true false, .arr 4 [[I v, I cls, I mon, I 0]] true false]) rfl rfl
  have hf := find_ahead hs v cls mon
  unfold rateAt
  rw [hf]
  generalize ahead l ⟨v, cls, mon, 0⟩ = c at *
  by_cases hc : c < l.length
  · obtain ⟨a, ha⟩ : ∃ a, l[c]? = some a := ⟨_, List.getElem?_eq_getElem hc⟩
    have hc' : (c : Int) < (l.length : Int) := by omega
    rw [ha]
    have i1 : ∀ k : Go.AM.K AV, iaK 4 (.lst 4 b (l.map encA)) (I c) k = k (.ep (encA a) 0) := fun k => iaK_at c rfl ha k
    simp only [encA] at i1
    by_cases q1 : a.frm = v
    · by_cases q2 : a.cls = cls
      · by_cases q3 : a.mon = mon
        · simp [f_season_rate, buildK, fillA, fs, hc, hc', i1, encA, q1, q2, q3]
        · have q3' : (a.mon == mon) = false := by simpa using q3
          simp [f_season_rate, buildK, fillA, fs, hc, hc', i1, encA, q1, q2, q3, q3']
      · have q2' : (a.cls == cls) = false := by simpa using q2
        simp [f_season_rate, buildK, fillA, fs, hc, hc', i1, encA, q1, q2, q2']
    · have q1' : (a.frm == v) = false := by simpa using q1
      simp [f_season_rate, buildK, fillA, fs, hc, hc', i1, encA, q1, q1']
  · have ha : l[c]? = none := List.getElem?_eq_none (by omega)
    have hc' : ¬ (c : Int) < (l.length : Int) := by omega
    rw [ha]
    simp [f_season_rate, buildK, fillA, fs, hc, hc']
end
end Go.AM

/- season: on, sum, Sum, Allowed, Rate, Version. -/
namespace Go.AM
open Go.Proofs
set_option linter.unusedVariables false
set_option linter.unusedSimpArgs false
set_option linter.constructorNameAsVariable false
set_option maxRecDepth 20000
noncomputable def rateOn (l : List Allow) (cls day : Int) : Int := match versionL l day with
  | none => 0
  | some v => rateAt l v cls (Cal.monthOf day)
theorem rateAt_bd {l : List Allow} (h : ∀ a ∈ l, badA a = false) (v cls mon : Int) : 0 ≤ rateAt l v cls mon ∧ rateAt l v cls mon ≤ 10000 := by
  unfold rateAt
  cases hf : l.find? (fun a => decide (a.frm = v ∧ a.cls = cls ∧ a.mon = mon)) with
  | none => simp
  | some a => have := badA_bd (h a (List.mem_of_find?_eq_some hf)); exact ⟨this.2.2.2.1, this.2.2.2.2⟩
theorem rateOn_bd {l : List Allow} (h : ∀ a ∈ l, badA a = false) (cls day : Int) : 0 ≤ rateOn l cls day ∧ rateOn l cls day ≤ 10000 := by
  unfold rateOn
  cases versionL l day with
  | none => simp
  | some v => exact rateAt_bd h _ _ _
/-- The first day on which another version begins. -/
def change (l : List Allow) (day u : Int) : Int := match l[upto l day]? with
  | some a => min u a.frm
  | none => u
theorem upto_same {l : List Allow} (hs : l.Pairwise (fun a b => ltA a b = true)) {day e : Int} (h1 : day ≤ e) (h2 : ∀ a, l[upto l day]? = some a → e < a.frm) : upto l e = upto l day := by
  have hd := upto_le l day
  have he := upto_le l e
  have key : ∀ j, j < l.length → (j < upto l e ↔ j < upto l day) := by
    intro j hj
    have ha := List.getElem?_eq_getElem hj
    have g1 := upto_get hs day ha
    have g2 := upto_get hs e ha
    constructor
    · intro hlt
      rw [decide_eq_true hlt] at g2
      have g2 := of_decide_eq_true g2
      rcases Nat.lt_or_ge j (upto l day) with h | h
      · exact h
      · exfalso
        have hu : upto l day < l.length := by omega
        have hb := h2 _ (List.getElem?_eq_getElem hu)
        have : l[upto l day].frm ≤ l[j].frm := by
          rcases Nat.lt_or_ge (upto l day) j with q | q
          · exact ltA_frm ((List.pairwise_iff_getElem.1 hs) _ _ hu hj q)
          · have : upto l day = j := by omega
            simp [this]
        omega
    · intro hlt
      rw [decide_eq_true hlt] at g1
      have g1 := of_decide_eq_true g1
      rw [decide_eq_true (by omega)] at g2
      exact of_decide_eq_true g2.symm
  rcases Nat.lt_trichotomy (upto l e) (upto l day) with h | h | h
  · have := (key (upto l e) (by omega)).2 h; omega
  · exact h
  · have := (key (upto l day) (by omega)).1 h; omega
theorem upto_lt_frm {l : List Allow} (hs : l.Pairwise (fun a b => ltA a b = true)) {day : Int} {a : Allow} (h : l[upto l day]? = some a) : day < a.frm := by
  have := upto_get hs day h
  simp at this
  omega
section
variable {β : Type} {P : Program} {T : Tab} {D : DTab} {N : Nat} {K : AV → Hp → Option β}
theorem F_season_on_val (l : List Allow) (b : Bool) (cls day : Int) (hs : l.Pairwise (fun a b => ltA a b = true)) (hg : ∀ a ∈ l, badA a = false) (hl : l.length < 1000000) (h0 : 0 ≤ day) (h1 : day ≤ 100000) :
    ∃ u, day < u ∧ u ≤ 100001 ∧ (∀ e, day ≤ e → e < u → rateOn l cls e = rateOn l cls day) ∧ ∀ h, F_season_on [.lst 4 b (l.map encA), I cls, I day] h = some (.tup [I (rateOn l cls day), I u], h) := by
  obtain ⟨y, m, d, hi, hD⟩ := F_calendar_Date_val day h0 h1
  have hm := hi.month
  have hy := hi.year_le h1
  have hyl := hi.year
  have hny : 1900 ≤ Cal.ny y m ∧ Cal.ny y m ≤ 2200 := by have := hi.year; unfold Cal.ny; split <;> omega
  have hnm := Cal.nm_bd hm.1 hm.2
  have hday := F_calendar_Day_val (Cal.ny y m) (Cal.nm m) hny.1 hny.2 hnm.1 hnm.2
  have hmo := hi.month_eq h0
  have hlt := hi.next_lt
  obtain ⟨u0, hu0⟩ : ∃ u0, u0 = if Cal.dn (Cal.ny y m) (Cal.nm m) ≤ 100000 then Cal.dn (Cal.ny y m) (Cal.nm m) else 100001 := ⟨_, rfl⟩
  have hu0l : day < u0 ∧ u0 ≤ 100001 ∧ u0 ≤ Cal.dn (Cal.ny y m) (Cal.nm m) := by rw [hu0]; split <;> omega
  refine ⟨change l day u0, ?_, ?_, ?_, fun h => F_season_on_run rfl ?_ h⟩
  · unfold change
    cases ha : l[upto l day]? with
    | none => exact hu0l.1
    | some a => have := upto_lt_frm hs ha; simp only; omega
  · unfold change
    cases ha : l[upto l day]? with
    | none => exact hu0l.2.1
    | some a => simp only; omega
  · intro e he1 he2
    have hem : Cal.monthOf e = m := hi.same h0 he1 (by
      have : change l day u0 ≤ u0 := by unfold change; cases l[upto l day]? <;> simp only <;> omega
      omega)
    have hue : upto l e = upto l day := upto_same hs he1 (fun a ha => by
      unfold change at he2
      rw [ha] at he2
      simp only at he2
      omega)
    unfold rateOn versionL
    rw [hem, hmo, hue]
  · -- the run
    obtain ⟨H, hH⟩ : ∃ H : Hp, H = [.arr 1 [[.lst 4 b (l.map encA)]] true false, .arr 1 [[I day]] true false, .arr 3 [[I y, I m, I d]] true false, .arr 3 [[I (Cal.ny y m), I (Cal.nm m), I 1]] true false] := ⟨_, rfl⟩
    have g0 : H[0]? = some (.arr 1 [[.lst 4 b (l.map encA)]] true false) := by rw [hH]; rfl
    have g1 : H[1]? = some (.arr 1 [[I day]] true false) := by rw [hH]; rfl
    have g2 : H[2]? = some (.arr 3 [[I y, I m, I d]] true false) := by rw [hH]; rfl
    have g3 : H[3]? = some (.arr 3 [[I (Cal.ny y m), I (Cal.nm m), I 1]] true false) := by rw [hH]; rfl
    have fs := F_Search_on l b day hs hl 0 1 g0 g1
    have fv := F_season_version_val l b day hs hl
    have fr := fun v => F_season_rate_val l b v cls m hs hl
    have hj3 : ∀ w : Int, f_season_on_j3 Try.prog t_season_on d_season_on NN (fun v g => cvt false g v) (I cls) (.ptr 0 0 0 1) (.ptr 1 0 0 1) (.ptr 2 0 0 1) (I w) H = some (.tup [I (rateOn l cls day), I w]) := by
      intro w
      unfold rateOn
      rw [hmo]
      cases hv : versionL l day with
      | none => rw [hv] at fv; simp [f_season_on_j3, g0, g1, fv]
      | some v => rw [hv] at fv; simp [f_season_on_j3, g0, g1, g2, fv, fr]
    have hj2 : f_season_on_j2 Try.prog t_season_on d_season_on NN (fun v g => cvt false g v) (I cls) (.ptr 0 0 0 1) (.ptr 1 0 0 1) (.ptr 2 0 0 1) (I u0) H = some (.tup [I (rateOn l cls day), I (change l day u0)]) := by
      unfold change
      by_cases hc : upto l day < l.length
      · obtain ⟨a, ha⟩ : ∃ a, l[upto l day]? = some a := ⟨_, List.getElem?_eq_getElem hc⟩
        have hc' : (upto l day : Int) < (l.length : Int) := by omega
        have i1 : ∀ k : Go.AM.K AV, iaK 4 (.lst 4 b (l.map encA)) (I (upto l day : Nat)) k = k (.ep (encA a) 0) := fun k => iaK_at (upto l day) rfl ha k
        simp only [encA] at i1
        rw [ha]
        have := hj3 (min u0 a.frm)
        simp [f_season_on_j2, g0, fs, hc', hc, i1, this]
      · have ha : l[upto l day]? = none := List.getElem?_eq_none (by omega)
        have hc' : ¬ (upto l day : Int) < (l.length : Int) := by omega
        rw [ha]
        have := hj3 u0
        simp [f_season_on_j2, g0, fs, hc', hc, this]
    have hj1 : f_season_on_j1 Try.prog t_season_on d_season_on NN (fun v g => cvt false g v) (I cls) (.ptr 0 0 0 1) (.ptr 1 0 0 1) (.ptr 2 0 0 1) (.ptr 3 0 0 1) H = some (.tup [I (rateOn l cls day), I (change l day u0)]) := by
      by_cases hd : Cal.dn (Cal.ny y m) (Cal.nm m) ≤ 100000
      · rw [if_pos hd] at hday hu0
        rw [hu0] at hj2 ⊢
        simp [f_season_on_j1, g3, hday, hj2]
      · rw [if_neg hd] at hday hu0
        rw [hu0] at hj2 ⊢
        simp [f_season_on_j1, g3, hday, hj2]
    have w1 : IntKind.i64.wrap (m + 1) = m + 1 := wrap64 (by omega) (by omega)
    have w2 : IntKind.i64.wrap (y + 1) = y + 1 := wrap64 (by omega) (by omega)
    refine Eq.trans ?_ hj1
    rw [hH]
    by_cases h12 : m = 12
    · subst h12
      simp [f_season_on, hD, buildK, fillA, w1, w2, Cal.ny, Cal.nm]
    · have h12' : (m == 12) = false := by simpa using h12
      simp [f_season_on, hD, buildK, fillA, w1, w2, h12, h12', Cal.ny, Cal.nm]
/-- Sums over days. -/
def sumN (f : Int → Int) (a : Int) : Nat → Int
  | 0 => 0
  | n + 1 => f a + sumN f (a + 1) n
theorem sumN_add (f : Int → Int) : ∀ (m n : Nat) (a : Int), sumN f a (m + n) = sumN f a m + sumN f (a + m) n
  | 0, n, a => by simp [sumN]
  | m + 1, n, a => by
    rw [show m + 1 + n = (m + n) + 1 by omega]
    simp only [sumN]
    rw [sumN_add f m n (a + 1), show a + 1 + (m : Int) = a + ((m + 1 : Nat) : Int) by omega]
    omega
theorem sumN_const (f : Int → Int) (r : Int) : ∀ (n : Nat) (a : Int), (∀ e, a ≤ e → e < a + n → f e = r) → sumN f a n = r * n
  | 0, a, h => by simp [sumN]
  | n + 1, a, h => by
    simp only [sumN]
    rw [h a (by omega) (by omega), sumN_const f r n (a + 1) (fun e h1 h2 => h e (by omega) (by omega))]
    have : r * ((n + 1 : Nat) : Int) = r * n + r := by rw [Int.natCast_add, Int.mul_add]; simp
    omega
theorem sumN_bd (f : Int → Int) {b : Int} (hf : ∀ e, 0 ≤ f e ∧ f e ≤ b) (hb : 0 ≤ b) : ∀ (n : Nat) (a : Int), 0 ≤ sumN f a n ∧ sumN f a n ≤ b * n
  | 0, a => by simp [sumN]
  | n + 1, a => by
    have h1 := hf a
    have h2 := sumN_bd f hf hb n (a + 1)
    have : b * ((n + 1 : Nat) : Int) = b * n + b := by rw [Int.natCast_add, Int.mul_add]; simp
    simp only [sumN]
    omega
noncomputable def sumA (l : List Allow) (cls frm to : Int) : Int := sumN (rateOn l cls) frm (to - frm).toNat
theorem sumA_bd {l : List Allow} (hg : ∀ a ∈ l, badA a = false) (cls frm to : Int) (h : to - frm ≤ 100001) : 0 ≤ sumA l cls frm to ∧ sumA l cls frm to ≤ 1000010000 := by
  have := sumN_bd (rateOn l cls) (rateOn_bd hg cls) (by omega) (to - frm).toNat frm
  unfold sumA
  omega
theorem season_sum_L3 (hT : T 42 = some F_season_on) {x0 : AV → Hp → Option β} (l : List Allow) (b : Bool) (cls to : Int) (hs : l.Pairwise (fun a b => ltA a b = true)) (hg : ∀ a ∈ l, badA a = false) (hl : l.length < 1000000) (ht : 0 ≤ to ∧ to ≤ 100000) (v14 : Int) (hv : 0 ≤ v14 ∧ v14 ≤ 100000) (h : Hp) :
    ∀ (n : Nat) (frm i acc : Int), 0 ≤ frm → frm ≤ to → 0 ≤ i → i ≤ v14 → (v14 - i).toNat < n → to - frm ≤ v14 - i → (0 ≤ acc ∧ acc ≤ 100000000000 - 1000000 * (to - frm)) →
    f_season_sum_L3 P T D N x0 n (.lst 4 b (l.map encA)) (I cls) (I frm) (I to) (I acc) (I v14) (I i) h = x0 (I (acc + sumA l cls frm to)) h := by
  intro n
  induction n with
  | zero => intro frm i acc _ _ _ _ h; omega
  | succ n ih =>
    intro frm i acc h1 h2 h3 h4 h5 h6 h7
    show f_season_sum_b3 P T D N (f_season_sum_L3 P T D N x0 n) x0 _ _ _ _ _ _ _ h = _
    by_cases hiv : i < v14
    · by_cases hft : to ≤ frm
      · have : frm = to := by omega
        subst this
        have e : sumA l cls frm frm = 0 := by simp [sumA, sumN]
        simp [f_season_sum_b3, hiv, e]
      · obtain ⟨u, u1, u2, u3, u4⟩ := F_season_on_val l b cls frm hs hg hl h1 (by omega)
        obtain ⟨w, hw⟩ : ∃ w, w = min u to := ⟨_, rfl⟩
        have hwb : frm < w ∧ w ≤ to ∧ w ≤ u := by omega
        have hr := rateOn_bd hg cls frm
        obtain ⟨k, hk⟩ : ∃ k : Nat, w - frm = (k : Int) := Int.eq_ofNat_of_zero_le (by omega)
        have e1 : sumA l cls frm to = rateOn l cls frm * (w - frm) + sumA l cls w to := by
          unfold sumA
          have e2 : (to - frm).toNat = k + (to - w).toNat := by omega
          rw [e2, sumN_add, sumN_const (rateOn l cls) (rateOn l cls frm) k frm (fun e q1 q2 => u3 e q1 (by omega)), hk, show frm + (k : Int) = w by omega]
        have hm : 0 ≤ rateOn l cls frm * (w - frm) ∧ rateOn l cls frm * (w - frm) ≤ 10000 * (w - frm) := ⟨Int.mul_nonneg hr.1 (by omega), Int.mul_le_mul_of_nonneg_right hr.2 (by omega)⟩
        have w1 : IntKind.i64.wrap (w - frm) = w - frm := wrap64 (by omega) (by omega)
        have w2 : IntKind.i64.wrap (rateOn l cls frm * (w - frm)) = rateOn l cls frm * (w - frm) := wrap64 (by omega) (by omega)
        have w3 : IntKind.i64.wrap (acc + rateOn l cls frm * (w - frm)) = acc + rateOn l cls frm * (w - frm) := wrap64 (by omega) (by omega)
        have w4 : IntKind.i64.wrap (i + 1) = i + 1 := wrap64 (by omega) (by omega)
        have step := ih w (i + 1) (acc + rateOn l cls frm * (w - frm)) (by omega) (by omega) (by omega) (by omega) (by omega) (by omega) (by omega)
        rw [e1, ← Int.add_assoc, ← step]
        simp [f_season_sum_b3, hiv, hft, hT, u4, ← hw, w1, w2, w3, w4]
    · have : frm = to := by omega
      subst this
      have e : sumA l cls frm frm = 0 := by simp [sumA, sumN]
      simp [f_season_sum_b3, hiv, e]
theorem F_season_sum_val (l : List Allow) (b : Bool) (cls frm to : Int) (hs : l.Pairwise (fun a b => ltA a b = true)) (hg : ∀ a ∈ l, badA a = false) (hl : l.length < 1000000) (h0 : 0 ≤ frm) (h1 : frm ≤ to) (h2 : to ≤ 100000) (h : Hp) :
    F_season_sum [.lst 4 b (l.map encA), I cls, I frm, I to] h = some (I (sumA l cls frm to), h) := by
  refine F_season_sum_run rfl ?_ h
  have w1 : IntKind.i64.wrap (to - frm) = to - frm := wrap64 (by omega) (by omega)
  have := season_sum_L3 (P := Try.prog) (T := t_season_sum) (D := d_season_sum) (N := NN) rfl (x0 := fun w13_9 h => f_season_sum_j2 Try.prog t_season_sum d_season_sum NN (fun v g => cvt false g v) w13_9 h) l b cls to hs hg hl ⟨by omega, h2⟩ (to - frm) ⟨by omega, by omega⟩ [] NN frm 0 0 h0 h1 (by omega) (by omega) (by have := NN_ge; omega) (by omega) (by omega)
  refine Eq.trans ?_ (this.trans ?_)
  · simp [f_season_sum, w1]
  · simp [f_season_sum_j2, f_season_sum_j1]
/-- Sum: the sum, the error. -/
noncomputable def sumS (l : List Allow) (cls frm to : Int) : Int × Int :=
  if rightA l = false then (0, 1) else if (win cls 1 9 && win frm 0 100000 && win to 0 100000) = false then (0, 2) else if to < frm then (0, 5) else (sumA l cls frm to, 0)
theorem rightA_ok {l : List Allow} (h : rightA l = true) : l.length ≤ 128 ∧ (∀ a ∈ l, badA a = false) ∧ l.Pairwise (fun a b => ltA a b = true) := checkA_ok (by simpa [rightA] using h)
theorem F_season_Sum_val (l : List Allow) (b : Bool) (cls frm to : Int) (h : Hp) : F_season_Sum [.lst 4 b (l.map encA), I cls, I frm, I to] h = some (.tup [I (sumS l cls frm to).1, I (sumS l cls frm to).2], h) := by
  refine F_season_Sum_run rfl ?_ h
  unfold sumS
  cases hr : rightA l with
  | false => simp [f_season_Sum, F_season_right_val, hr]
  | true =>
    obtain ⟨h1, h2, h3⟩ := rightA_ok hr
    cases c1 : win cls 1 9 <;> cases c2 : win frm 0 100000 <;> cases c3 : win to 0 100000 <;> simp [f_season_Sum, F_season_right_val, hr, F_season_in_val, c1, c2, c3]
    simp only [win, Bool.and_eq_true, decide_eq_true_eq] at c2 c3
    by_cases hc : to < frm
    · simp [hc]
    · have fs := F_season_sum_val l b cls frm to h3 h2 (by omega) (by omega) (by omega) (by omega)
      simp [hc, fs]
/-- Allowed: the amount, the error. -/
noncomputable def allowedS (l : List Allow) (cls alc frm to : Int) : Int × Int :=
  if rightA l = false then (0, 1) else if (win cls 1 9 && win frm 0 100000 && win to 0 100000 && win alc 0 10737418240000) = false then (0, 2) else if to < frm then (0, 5) else (min (alc * sumA l cls frm to / 1000000) alc, 0)
theorem F_season_Allowed_val (l : List Allow) (b : Bool) (cls alc frm to : Int) (h : Hp) : F_season_Allowed [.lst 4 b (l.map encA), I cls, I alc, I frm, I to] h = some (.tup [I (allowedS l cls alc frm to).1, I (allowedS l cls alc frm to).2], h) := by
  refine F_season_Allowed_run rfl ?_ h
  unfold allowedS
  cases hr : rightA l with
  | false => simp [f_season_Allowed, F_season_right_val, hr]
  | true =>
    obtain ⟨h1, h2, h3⟩ := rightA_ok hr
    cases c1 : win cls 1 9 <;> cases c2 : win frm 0 100000 <;> cases c3 : win to 0 100000 <;> cases c4 : win alc 0 10737418240000 <;> simp [f_season_Allowed, F_season_right_val, hr, F_season_in_val, c1, c2, c3, c4]
    simp only [win, Bool.and_eq_true, decide_eq_true_eq] at c2 c3 c4
    by_cases hc : to < frm
    · simp [hc]
    · have fs := F_season_sum_val l b cls frm to h3 h2 (by omega) (by omega) (by omega) (by omega)
      have hb := sumA_bd h2 cls frm to (by omega)
      have fp := F_proportion_Of_val alc (sumA l cls frm to) 1000000
      have hm : (amt alc && amt (sumA l cls frm to) && amt 1000000) = true := by simp [amt]; omega
      generalize sumA l cls frm to = s at *
      by_cases hq : alc * s / 1000000 ≤ 128849018880000
      · have e : propOf alc s 1000000 = (alc * s / 1000000, alc * s % 1000000, 0) := by unfold propOf; rw [hm]; simp [hq]
        rw [e] at fp
        simp [hc, fs, fp]
      · have e : propOf alc s 1000000 = (0, 0, 15) := by unfold propOf; rw [hm]; simp [hq]
        rw [e] at fp
        have hmin : min (alc * s / 1000000) alc = alc := by omega
        simp [hc, fs, fp, hmin]
noncomputable def rateS (l : List Allow) (cls day : Int) : Int × Int :=
  if rightA l = false then (0, 1) else if (win cls 1 9 && win day 0 100000) = false then (0, 2) else (rateOn l cls day, 0)
theorem F_season_Rate_val (l : List Allow) (b : Bool) (cls day : Int) (h : Hp) : F_season_Rate [.lst 4 b (l.map encA), I cls, I day] h = some (.tup [I (rateS l cls day).1, I (rateS l cls day).2], h) := by
  refine F_season_Rate_run rfl ?_ h
  unfold rateS
  cases hr : rightA l with
  | false => simp [f_season_Rate, F_season_right_val, hr]
  | true =>
    obtain ⟨h1, h2, h3⟩ := rightA_ok hr
    cases c1 : win cls 1 9 <;> cases c2 : win day 0 100000 <;> simp [f_season_Rate, F_season_right_val, hr, F_season_in_val, c1, c2]
    simp only [win, Bool.and_eq_true, decide_eq_true_eq] at c2
    obtain ⟨u, -, -, -, hu⟩ := F_season_on_val l b cls day h3 h2 (by omega) c2.1 c2.2
    simp [hu]
def versionS (l : List Allow) (day : Int) : Int × Int :=
  if rightA l = false then (0, 1) else if win day 0 100000 = false then (0, 2) else match versionL l day with | some v => (v, 0) | none => (0, 7)
theorem F_season_Version_val (l : List Allow) (b : Bool) (day : Int) (h : Hp) : F_season_Version [.lst 4 b (l.map encA), I day] h = some (.tup [I (versionS l day).1, I (versionS l day).2], h) := by
  refine F_season_Version_run rfl ?_ h
  unfold versionS
  cases hr : rightA l with
  | false => simp [f_season_Version, F_season_right_val, hr]
  | true =>
    obtain ⟨h1, h2, h3⟩ := rightA_ok hr
    have fv := F_season_version_val l b day h3 (by omega)
    cases c2 : win day 0 100000
    · simp [f_season_Version, F_season_right_val, hr, F_season_in_val, c2]
    · cases hv : versionL l day with
      | none => rw [hv] at fv; simp [f_season_Version, F_season_right_val, hr, F_season_in_val, c2, fv]
      | some v => rw [hv] at fv; simp [f_season_Version, F_season_right_val, hr, F_season_in_val, c2, fv]
end
end Go.AM

/- The reference's proportion. -/
namespace Go.AM
open Go.Proofs
set_option linter.unusedVariables false
set_option linter.unusedSimpArgs false
set_option linter.constructorNameAsVariable false
set_option maxRecDepth 20000
theorem prod_nat (x y : Nat) : (x / 2147483648) * (y / 2147483648) + ((x % 2147483648) * (y / 2147483648) + (x % 2147483648) * (y % 2147483648) / 2147483648) / 2147483648 +
      ((x / 2147483648) * (y % 2147483648) + ((x % 2147483648) * (y / 2147483648) + (x % 2147483648) * (y % 2147483648) / 2147483648) % 2147483648) / 2147483648 = x * y / 4611686018427387904 ∧
    ((x / 2147483648) * (y % 2147483648) + ((x % 2147483648) * (y / 2147483648) + (x % 2147483648) * (y % 2147483648) / 2147483648) % 2147483648) % 2147483648 * 2147483648 + (x % 2147483648) * (y % 2147483648) % 2147483648 = x * y % 4611686018427387904 := by
  have hx : x = 2147483648 * (x / 2147483648) + x % 2147483648 := by omega
  have hy : y = 2147483648 * (y / 2147483648) + y % 2147483648 := by omega
  generalize x / 2147483648 = a at *
  generalize x % 2147483648 = b at *
  generalize y / 2147483648 = c at *
  generalize y % 2147483648 = d at *
  have e : x * y = 4611686018427387904 * (a * c) + 2147483648 * (b * c + a * d) + b * d := by
    subst hx hy
    rw [Nat.add_mul, Nat.mul_add, Nat.mul_add]
    have e1 : 2147483648 * a * (2147483648 * c) = 4611686018427387904 * (a * c) := by
      rw [Nat.mul_mul_mul_comm]
    have e2 : 2147483648 * a * d = 2147483648 * (a * d) := Nat.mul_assoc _ _ _
    have e3 : b * (2147483648 * c) = 2147483648 * (b * c) := Nat.mul_left_comm _ _ _
    rw [e1, e2, e3]
    omega
  rw [e]
  generalize a * c = A
  generalize b * c = B
  generalize a * d = C
  generalize b * d = E
  omega
section
variable {β : Type} {P : Program} {ty : TypeId}
theorem mask31 (a : Nat) (ha : a < 18446744073709551616) (k : K β) : reckK P .and ty (U a) (.s (.int .u64 2147483647)) k = k (U (a % 2147483648)) := by
  have h1 := reck_and (P := P) (ty := ty) a 2147483647 ha (by decide) k
  have h2 : a &&& 2147483647 = a % 2147483648 := Nat.and_two_pow_sub_one_eq_mod a 31
  rw [h2] at h1
  exact h1
theorem shr31 (a : Nat) (k : K β) : reckK P .shr ty (U a) (.s (.int .u64 31)) k = k (U (a / 2147483648)) := reck_shr a 31 (by decide) k
theorem shl31 (a : Nat) (ha : a < 2147483648) (k : K β) : reckK P .shl ty (U a) (.s (.int .u64 31)) k = k (U (a * 2147483648)) := by
  have := reck_shl (P := P) (ty := ty) a 31 (by decide) k
  rw [show a * 2 ^ 31 % 18446744073709551616 = a * 2147483648 from by omega] at this
  exact this
theorem or31 (a b : Nat) (ha : a < 2147483648) (hb : b < 2147483648) (k : K β) : reckK P .or ty (U (a * 2147483648)) (U b) k = k (U (a * 2147483648 + b)) := by
  rw [reck_or _ _ (by omega) (by omega)]
  have := Nat.two_pow_add_eq_or_of_lt (i := 31) (b := b) (by omega) a
  rw [show a * 2147483648 = 2 ^ 31 * a from by omega, ← this]
end
theorem mul31 {a b : Nat} (ha : a < 2147483648) (hb : b < 2147483648) : a * b ≤ 4611686014132420609 := by
  have : a * b ≤ 2147483647 * 2147483647 := Nat.mul_le_mul (by omega) (by omega)
  omega
theorem F_ref01_Product_val (x y : Nat) (hx : x < 4611686018427387904) (hy : y < 4611686018427387904) (h : Hp) : F_ref01_Product [I x, I y] h = some (.agg [U (x * y / 4611686018427387904), U (x * y % 4611686018427387904)], h) := by
  refine F_ref01_Product_run rfl ?_ h
  obtain ⟨p1, p2⟩ := prod_nat x y
  have b1 : x % 2147483648 < 2147483648 := Nat.mod_lt _ (by decide)
  have b2 : y % 2147483648 < 2147483648 := Nat.mod_lt _ (by decide)
  have b3 : x / 2147483648 < 2147483648 := by omega
  have b4 : y / 2147483648 < 2147483648 := by omega
  have m1 := mul31 b1 b2
  have m2 := mul31 b1 b4
  have m3 := mul31 b3 b2
  have m4 := mul31 b3 b4
  rw [← p1, ← p2]
  simp only [f_ref01_Product]
  rw [show ([] : Hp).length = 0 from rfl, effK_box 2 0 (.agg [.s (.int .u64 0), .s (.int .u64 0)]) [] _ rfl rfl rfl, convK_int un_3 un_80, convK_int un_3 un_80, wrapU (by omega) (by omega), wrapU (by omega) (by omega)]
  generalize hE : x % 2147483648 * (y % 2147483648) = E at *
  generalize hB : x % 2147483648 * (y / 2147483648) = B at *
  generalize hC : x / 2147483648 * (y % 2147483648) = C at *
  generalize hA : x / 2147483648 * (y / 2147483648) = A at *
  rw [mask31 x (by omega), mask31 y (by omega), u_mul _ _ (by omega), mask31 x (by omega), shr31 y, u_mul _ _ (by omega), hE, hB, shr31 E, u_add _ _ (by omega), shr31 x, mask31 y (by omega), u_mul _ _ (by omega), hC, mask31 _ (by omega), u_add _ _ (by omega), shr31 x, shr31 y, u_mul _ _ (by omega), hA, shr31, u_add _ _ (by omega), shr31, u_add _ _ (by omega),
    mask31 _ (by omega), shl31 _ (by omega), mask31 _ (by omega), or31 _ _ (by omega) (by omega)]
  simp [buildK, fillA]
end Go.AM

/- The reference's proportion: wide numbers. -/
namespace Go.AM
open Go.Proofs
set_option linter.unusedVariables false
set_option linter.unusedSimpArgs false
set_option linter.constructorNameAsVariable false
set_option maxRecDepth 20000
/-- A wide number. -/
abbrev Wd (n : Nat) : AV := .agg [U (n / 4611686018427387904), U (n % 4611686018427387904)]
theorem Less_core (a b c d : Nat) (h : Hp) : F_ref01_Less [.agg [U a, U b], .agg [U c, U d]] h = some (B (decide (a < c) || (decide (a = c) && decide (b < d))), h) := by
  refine F_ref01_Less_run rfl ?_ h
  have q1 : decide ((a : Int) < (c : Int)) = decide (a < c) := dec_ul a c
  have q2 : decide ((b : Int) < (d : Int)) = decide (b < d) := dec_ul b d
  have q3 : ((a : Int) == (c : Int)) = decide (a = c) := by rw [Bool.eq_iff_iff]; simp; omega
  simp only [f_ref01_Less]
  simp [boxE]
  simp [q3]
theorem F_ref01_Less_val (m n : Nat) (h : Hp) : F_ref01_Less [Wd m, Wd n] h = some (B (decide (m < n)), h) := by
  refine (Less_core _ _ _ _ h).trans ?_
  have e : (decide (m / 4611686018427387904 < n / 4611686018427387904) || (decide (m / 4611686018427387904 = n / 4611686018427387904) && decide (m % 4611686018427387904 < n % 4611686018427387904))) = decide (m < n) := by
    rw [Bool.eq_iff_iff]; simp; omega
  rw [e]
theorem F_ref01_minus_val (m n : Nat) (hm : m < 21267647932558653966460912964485513216) (hn : n ≤ m) (h : Hp) : F_ref01_minus [Wd m, Wd n] h = some (Wd (m - n), h) := by
  refine F_ref01_minus_run rfl ?_ h
  have k1 : m / 4611686018427387904 < 4611686018427387904 := by omega
  by_cases hl : m % 4611686018427387904 < n % 4611686018427387904
  · have e1 : (m - n) / 4611686018427387904 = m / 4611686018427387904 - n / 4611686018427387904 - 1 := by omega
    have e2 : (m - n) % 4611686018427387904 = m % 4611686018427387904 + 4611686018427387904 - n % 4611686018427387904 := by omega
    have k2 : n / 4611686018427387904 + 1 ≤ m / 4611686018427387904 := by omega
    have k3 : m % 4611686018427387904 < 4611686018427387904 := by omega
    have k4 : n % 4611686018427387904 < 4611686018427387904 := by omega
    simp only [Wd]
    rw [e1, e2]
    generalize m / 4611686018427387904 = a at *
    generalize m % 4611686018427387904 = b at *
    generalize n / 4611686018427387904 = c at *
    generalize n % 4611686018427387904 = d at *
    have q1 : decide ((b : Int) < (d : Int)) = true := by simp; omega
    have w1 : IntKind.u64.wrap ((a : Int) - (c : Int)) = ((a - c : Nat) : Int) := by rw [wrapU (by omega) (by omega)]; omega
    have w2 : IntKind.u64.wrap (((a - c : Nat) : Int) - 1) = ((a - c - 1 : Nat) : Int) := by rw [wrapU (by omega) (by omega)]; omega
    have w3 : IntKind.u64.wrap ((b : Int) + 4611686018427387904) = ((b + 4611686018427387904 : Nat) : Int) := by rw [wrapU (by omega) (by omega)]; omega
    have w4 : IntKind.u64.wrap (((b + 4611686018427387904 : Nat) : Int) - (d : Int)) = ((b + 4611686018427387904 - d : Nat) : Int) := by rw [wrapU (by omega) (by omega)]; omega
    simp only [f_ref01_minus]
    simp [boxE, buildK, fillA, hl, w1]
    simp [w2, w3]
    simpa using w4
  · have e1 : (m - n) / 4611686018427387904 = m / 4611686018427387904 - n / 4611686018427387904 := by omega
    have e2 : (m - n) % 4611686018427387904 = m % 4611686018427387904 - n % 4611686018427387904 := by omega
    have k2 : n / 4611686018427387904 ≤ m / 4611686018427387904 := by omega
    have k3 : m % 4611686018427387904 < 4611686018427387904 := by omega
    simp only [Wd]
    rw [e1, e2]
    generalize m / 4611686018427387904 = a at *
    generalize m % 4611686018427387904 = b at *
    generalize n / 4611686018427387904 = c at *
    generalize n % 4611686018427387904 = d at *
    have q1 : decide ((b : Int) < (d : Int)) = false := by simp; omega
    have w1 : IntKind.u64.wrap ((a : Int) - (c : Int)) = ((a - c : Nat) : Int) := by rw [wrapU (by omega) (by omega)]; omega
    have w2 : IntKind.u64.wrap ((b : Int) - (d : Int)) = ((b - d : Nat) : Int) := by rw [wrapU (by omega) (by omega)]; omega
    simp only [f_ref01_minus]
    simp [boxE, buildK, fillA, hl, w1, w2]
end Go.AM

/- The reference's proportion: the quotient, bit by bit. -/
namespace Go.AM
open Go.Proofs
set_option linter.unusedVariables false
set_option linter.unusedSimpArgs false
set_option linter.constructorNameAsVariable false
set_option maxRecDepth 20000
theorem G_ref01_Product_val (x y : Nat) (hx : x < 4611686018427387904) (hy : y < 4611686018427387904) (h : Hp) (base : Nat) : G_ref01_Product [I x, I y] h base = some (Wd (x * y), EF []) := (closedXD_val (F_ref01_Product_val x y hx hy h) base).trans (by simp [idss, ids])
theorem G_ref01_Less_val (m n : Nat) (h : Hp) (base : Nat) : G_ref01_Less [Wd m, Wd n] h base = some (B (decide (m < n)), EF []) := (closedXD_val (F_ref01_Less_val m n h) base).trans (by simp [idss, ids])
theorem G_ref01_minus_val (m n : Nat) (hm : m < 21267647932558653966460912964485513216) (hn : n ≤ m) (h : Hp) (base : Nat) : G_ref01_minus [Wd m, Wd n] h base = some (Wd (m - n), EF []) := (closedXD_val (F_ref01_minus_val m n hm hn h) base).trans (by simp [idss, ids])
section
variable {β : Type} {P : Program} {ty : TypeId}
theorem reck_half (a : Nat) (ha : a < 9223372036854775808) (k : K β) : reckK P .quo ty (I a) (I 2) k = k (I (a / 2 : Nat)) := by
  refine reck_of (s := Op.intDiv .quo .i64 a 2) rfl rfl rfl ?_ k
  have h1 : ¬ ((2 : Int) = 0) := by omega
  have h2 : ((a : Int)).tdiv 2 = ((a / 2 : Nat) : Int) := by rw [Int.tdiv_eq_ediv_of_nonneg (by omega)]; omega
  unfold Op.intDiv
  rw [if_neg h1]
  simp only [h2]
  rw [wrap64 (by omega) (by omega)]
variable {T : Tab} {D : DTab} {N : Nat} {x0 : AV → AV → AV → Hp → Option β}
theorem of_L2 (c most p Q : Nat) (pb : Nat) (h : Hp) (hpb : h[pb]? = some (.arr 2 [[U (p / 4611686018427387904), U (p % 4611686018427387904)]] true false)) (hc : c < 4611686018427387904) (hmost : most ≤ 128849018880000)
    (hQ1 : Q ≤ most) (hQ2 : Q * c ≤ p) (hQ3 : ∀ q, q ≤ most → q * c ≤ p → q ≤ Q) : ∀ (n j q : Nat), j ≤ 62 → j < n → q ≤ Q → Q < q + 2 ^ j →
    f_ref01_Of_L2 Try.prog T d_ref01_Of N x0 n (I c) (I most) (.ptr pb 0 0 1) (I q) (I (2 ^ j / 2 : Nat)) h = x0 (I c) (.ptr pb 0 0 1) (I Q) h := by
  intro n
  induction n with
  | zero => intro j q _ h1; omega
  | succ n ih =>
    intro j q hj hjn hq hlt
    have e0 : f_ref01_Of_L2 Try.prog T d_ref01_Of N x0 (n + 1) (I c) (I most) (.ptr pb 0 0 1) (I q) (I (2 ^ j / 2 : Nat)) h = f_ref01_Of_b2 Try.prog T d_ref01_Of N (f_ref01_Of_L2 Try.prog T d_ref01_Of N x0 n) x0 (I c) (I most) (.ptr pb 0 0 1) (I q) (I (2 ^ j / 2 : Nat)) h := rfl
    rw [e0]
    cases j with
    | zero =>
      have : Q = q := by omega
      subst this
      simp [f_ref01_Of_b2]
    | succ j =>
      have e1 : 2 ^ (j + 1) / 2 = 2 ^ j := by rw [Nat.pow_succ]; omega
      have e2 : 2 ^ (j + 1) = 2 ^ j + 2 ^ j := by rw [Nat.pow_succ]; omega
      have hb : 2 ^ j ≤ 2305843009213693952 := Nat.pow_le_pow_right (n := 2) (j := 61) (by omega) (by omega)
      have hpos : 0 < 2 ^ j := Nat.two_pow_pos j
      rw [e1]
      rw [e2] at hlt
      have step := ih j
      generalize hB : 2 ^ j = bit at *
      have w1 : IntKind.i64.wrap ((q : Int) + (bit : Int)) = ((q + bit : Nat) : Int) := by rw [wrap64 (by omega) (by omega)]; omega
      have c1 : (0 : Int) < (bit : Int) := by omega
      have half := fun k => reck_half (P := Try.prog) (ty := 3) (β := β) bit (by omega) k
      have gP := G_ref01_Product_val (q + bit) c (by omega) hc
      have gL := G_ref01_Less_val p ((q + bit) * c)
      simp only [Wd] at gP gL
      obtain ⟨q', hqb⟩ : ∃ q', q' = q + bit := ⟨_, rfl⟩
      rw [← hqb] at w1 gP gL
      by_cases k1 : q' ≤ most
      · have k1' : (q' : Int) ≤ (most : Int) := by omega
        by_cases k2 : p < (q') * c
        · have s2 := step q (by omega) (by omega) hq (by
            rcases Nat.lt_or_ge Q (q') with h1 | h1
            · omega
            · have := Nat.mul_le_mul_right c h1; omega)
          rw [← s2]
          simp only [f_ref01_Of_b2, arithK_gtr, arithK_add, arithK_leq, w1]
          simp [c1, hpos, k1', gopD_t, hpb, effD_y, callE_F, gP, gL, k2, disjAll, disj2, wrOf, idsOf, f_ref01_Of_j4, f_ref01_Of_j3, half, w1]
        · have s2 := step (q') (by omega) (by omega) (hQ3 _ k1 (by omega)) (by omega)
          rw [← s2]
          simp only [f_ref01_Of_b2, arithK_gtr, arithK_add, arithK_leq, w1]
          simp [c1, hpos, k1', gopD_t, hpb, effD_y, callE_F, gP, gL, k2, disjAll, disj2, wrOf, idsOf, f_ref01_Of_j4, f_ref01_Of_j3, half, w1]
      · have k1' : ¬ (q' : Int) ≤ (most : Int) := by omega
        have s2 := step q (by omega) (by omega) hq (by omega)
        rw [← s2]
        simp only [f_ref01_Of_b2, arithK_gtr, arithK_add, arithK_leq, w1]
        simp [c1, hpos, k1', gopD_f, disjAll, disj2, wrOf, idsOf, f_ref01_Of_j4, f_ref01_Of_j3, half]
end
end Go.AM

/- The reference's proportion. -/
namespace Go.AM
open Go.Proofs
set_option linter.unusedVariables false
set_option linter.unusedSimpArgs false
set_option linter.constructorNameAsVariable false
set_option maxRecDepth 20000
theorem F_ref01_Of_val (a b c most : Nat) (ha : a < 4611686018427387904) (hb : b < 4611686018427387904) (hc0 : 0 < c) (hc : c < 4611686018427387904) (hm : most ≤ 128849018880000) (h : Hp) :
    F_ref01_Of [I a, I b, I c, I most] h = some (if a * b / c ≤ most then .tup [I (a * b / c : Nat), I (a * b % c : Nat), B true] else .tup [I 0, I 0, B false], h) := by
  refine F_ref01_Of_run rfl ?_ h
  have hp : a * b < 21267647932558653966460912964485513216 := by
    have : a * b ≤ 4611686018427387903 * 4611686018427387903 := Nat.mul_le_mul (by omega) (by omega)
    omega
  have fP := F_ref01_Product_val a b ha hb
  have gP := G_ref01_Product_val most c (by omega) hc
  have gL := G_ref01_Less_val (most * c) (a * b)
  have hdiv : c * (a * b / c) + a * b % c = a * b := Nat.div_add_mod _ _
  have hmod : a * b % c < c := Nat.mod_lt _ hc0
  generalize a * b = p at *
  have j1 : ∀ (pb : Nat) (hh : Hp), hh[pb]? = some (.arr 2 [[U (p / 4611686018427387904), U (p % 4611686018427387904)]] true false) → p / c ≤ most →
      f_ref01_Of_j1 Try.prog t_ref01_Of d_ref01_Of NN (fun v g => cvt false g v) (I c) (.ptr pb 0 0 1) (I (p / c : Nat)) hh = some (.tup [I (p / c : Nat), I (p % c : Nat), B true]) := by
    intro pb hh hpb hq
    have hle : p / c * c ≤ p := Nat.div_mul_le_self p c
    have g1 := G_ref01_Product_val (p / c) c (by omega) hc
    have g2 := G_ref01_minus_val p (p / c * c) hp hle
    have e : p - p / c * c = p % c := by rw [Nat.mul_comm]; omega
    rw [e] at g2
    have e2 : p % c % 4611686018427387904 = p % c := Nat.mod_eq_of_lt (by omega)
    have w1 : IntKind.i64.wrap ((p % c : Nat) : Int) = ((p % c : Nat) : Int) := wrap64 (by omega) (by omega)
    simp only [Wd] at g1 g2
    rw [e2] at g2
    have cv := fun k => convK_int (P := Try.prog) (n := ((p % c : Nat) : Int)) (ka := .u64) (β := AV) un_80 un_3 k
    rw [w1] at cv
    generalize p / c = Q at *
    generalize p % c = R at *
    simp [f_ref01_Of_j1, hpb, effD_y, callE_F, g1, g2, fldK, disjAll, disj2, wrOf, idsOf, cv]
  have L := fun (pb : Nat) (hh : Hp) (hpb : hh[pb]? = some (.arr 2 [[U (p / 4611686018427387904), U (p % 4611686018427387904)]] true false)) (hq : p / c ≤ most) =>
    (of_L2 (T := t_ref01_Of) (N := NN) (x0 := fun w84_2 w84_11 w84_12 h => f_ref01_Of_j1 Try.prog t_ref01_Of d_ref01_Of NN (fun v g => cvt false g v) w84_2 w84_11 w84_12 h) c most p (p / c) pb hh hpb hc hm hq (Nat.div_mul_le_self p c) (fun q _ h2 => (Nat.le_div_iff_mul_le hc0).2 h2) NN 62 0 (by omega) (by have := NN_ge; omega) (Nat.zero_le _) (by rw [Nat.zero_add]; exact Nat.lt_of_le_of_lt hq (Nat.lt_of_le_of_lt hm (by decide)))).trans (j1 pb hh hpb hq)
  simp only [Wd] at fP gP gL
  have cv2 : ∀ k : Go.AM.K AV, convK Try.prog 3 80 (I c) k = k (U c) := fun k => by rw [convK_int un_3 un_80, wrapU (by omega) (by omega)]
  by_cases k1 : most * c < p
  · have g3 := G_ref01_minus_val p (most * c) hp (by omega)
    have g4 := G_ref01_Less_val (p - most * c) c
    simp only [Wd] at g3 g4
    rw [Nat.div_eq_of_lt hc, Nat.mod_eq_of_lt hc] at g4
    have g4 : ∀ (h : Hp) (base : Nat), G_ref01_Less [.agg [U ((p - most * c) / 4611686018427387904), U ((p - most * c) % 4611686018427387904)], .agg [.s (.int .u64 0), U c]] h base = some (B (decide (p - most * c < c)), EF []) := g4
    by_cases k2 : p - most * c < c
    · have hq : p / c ≤ most := by
        have h1 : p < (most + 1) * c := by rw [Nat.add_mul]; omega
        have := (Nat.div_lt_iff_lt_mul hc0).2 h1
        omega
      rw [if_pos hq]
      refine Eq.trans ?_ (L 0 [.arr 2 [[U (p / 4611686018427387904), U (p % 4611686018427387904)]] true false] rfl hq)
      generalize p / 4611686018427387904 = ph at *
      generalize p % 4611686018427387904 = pl at *
      simp [f_ref01_Of, fP, boxE, effD_y, callE_F, gP, gL, k1, gopD_t, g3, g4, buildK, fillA, cv2, k2, disjAll, disj2, wrOf, idsOf]
    · have hq : ¬ p / c ≤ most := by
        intro hq
        have h1 : p < (most + 1) * c := (Nat.div_lt_iff_lt_mul hc0).1 (by omega)
        rw [Nat.add_mul] at h1; omega
      rw [if_neg hq]
      generalize p / 4611686018427387904 = ph at *
      generalize p % 4611686018427387904 = pl at *
      simp [f_ref01_Of, fP, boxE, effD_y, callE_F, gP, gL, k1, gopD_t, g3, g4, buildK, fillA, cv2, k2, disjAll, disj2, wrOf, idsOf]
  · have hq : p / c ≤ most := by
      have h1 : p < (most + 1) * c := by rw [Nat.add_mul]; omega
      have := (Nat.div_lt_iff_lt_mul hc0).2 h1
      omega
    rw [if_pos hq]
    refine Eq.trans ?_ (L 0 [.arr 2 [[U (p / 4611686018427387904), U (p % 4611686018427387904)]] true false] rfl hq)
    generalize p / 4611686018427387904 = ph at *
    generalize p % 4611686018427387904 = pl at *
    simp [f_ref01_Of, fP, boxE, effD_y, callE_F, gP, gL, k1, gopD_f, disjAll, disj2, wrOf, idsOf]
end Go.AM

/- drawback, the reference: share. -/
namespace Go.AM
open Go.Proofs
set_option linter.unusedVariables false
set_option linter.unusedSimpArgs false
set_option linter.constructorNameAsVariable false
set_option maxRecDepth 20000
theorem F_ref01_Proportion_val (a b c : Nat) (ha : a < 4611686018427387904) (hb : b < 4611686018427387904) (hc0 : 0 < c) (hc : c < 4611686018427387904) (h : Hp) :
    F_ref01_Proportion [I a, I b, I c] h = some (if a * b / c ≤ 128849018880000 then .tup [I (a * b / c : Nat), I (a * b % c : Nat)] else .tup [I 0, I 0], h) := by
  refine F_ref01_Proportion_run rfl ?_ h
  have fO : ∀ h : Hp, F_ref01_Of [I a, I b, I c, I 128849018880000] h = _ := F_ref01_Of_val a b c 128849018880000 ha hb hc0 hc (Nat.le_refl _)
  generalize a * b / c = q at *
  generalize a * b % c = r at *
  by_cases hq : q ≤ 128849018880000
  · simp [f_ref01_Proportion, fO, hq]
  · simp [f_ref01_Proportion, fO, hq]
end Go.AM

/- season, the reference. -/
namespace Go.AM
open Go.Proofs
set_option linter.unusedVariables false
set_option linter.unusedSimpArgs false
set_option linter.constructorNameAsVariable false
set_option maxRecDepth 20000
section
variable {β : Type} {P : Program} {T : Tab} {D : DTab} {N : Nat} {K : AV → Hp → Option β}
theorem F_ref31_Class_val (a : Int) (h : Hp) : F_ref31_Class [I a] h = some (B (win a 1 9), h) := F_ref31_Class_run rfl (by simp [f_ref31_Class, win]) h
theorem F_ref31_Day_val (a : Int) (h : Hp) : F_ref31_Day [I a] h = some (B (win a 0 100000), h) := F_ref31_Day_run rfl (by simp [f_ref31_Day, win]) h
theorem F_ref31_Behind_val (a b : Allow) (h : Hp) : F_ref31_Behind [.agg (encA a), .agg (encA b)] h = some (B (ltA b a), h) := by
  refine F_ref31_Behind_run (by simp [encA]) ?_ h
  by_cases h1 : a.frm = b.frm
  · by_cases h2 : a.cls = b.cls
    · simp [f_ref31_Behind, encA, ltA, h1, h2]
    · have h2' : (a.cls == b.cls) = false := by simpa using h2
      have h2'' : ¬ b.cls = a.cls := fun e => h2 e.symm
      simp [f_ref31_Behind, encA, ltA, h1, h2, h2', h2'']
  · have h1' : (a.frm == b.frm) = false := by simpa using h1
    have h1'' : ¬ b.frm = a.frm := fun e => h1 e.symm
    simp [f_ref31_Behind, encA, ltA, h1, h1', h1'']
theorem ref31_Check_L2 (hT1 : T 37 = some F_ref31_Class) (hT2 : T 44 = some F_ref31_Behind) {x0 : Hp → Option β} {xr : AV → AV → Hp → Option β} {X : Option β} {R : Int → Int → Option β} (hx : ∀ h, x0 h = X) (hr : ∀ a b h, xr (I a) (I b) h = R a b) (l : List Allow) (b : Bool) (hl : l.length < 1000000) :
    ∀ (n : Nat) (pre post : List Allow) (h : Hp), l = pre ++ post → post.length < n →
    f_ref31_Check_L2 P T D N x0 xr n (.lst 4 b (l.map encA)) (I pre.length) h = match checkG badA ltA pre.getLast? post pre.length with | none => X | some (a, b) => R a b := by
  intro n
  induction n with
  | zero => intro pre post h _ h2; omega
  | succ n ih =>
    intro pre post h hc hn
    show f_ref31_Check_b2 P T D N (f_ref31_Check_L2 P T D N x0 xr n) x0 xr _ _ h = _
    cases post with
    | nil =>
      have : l = pre := by simpa using hc
      subst this
      simp [f_ref31_Check_b2, hx, checkG]
    | cons c post =>
      have hi : pre.length < l.length := by rw [hc]; simp
      have hci : l[pre.length]? = some c := by rw [hc]; simp
      have hlt : ((pre.length : Int) < (l.length : Int)) := by omega
      have hw : IntKind.i64.wrap ((pre.length : Int) + 1) = (((pre ++ [c]).length : Nat) : Int) := by rw [wrap64 (by omega) (by omega)]; simp
      have step := fun h => ih (pre ++ [c]) post h (by simpa using hc) (by simpa using hn)
      have hgl : (pre ++ [c]).getLast? = some c := by simp
      rw [hgl] at step
      have e1 : (((pre ++ [c]).length : Nat) : Int) = (pre.length : Int) + 1 := by simp
      have hbad : ((((((decide (c.frm < 0) || decide (100000 < c.frm)) || !win c.cls 1 9) || decide (c.mon < 1)) || decide (12 < c.mon)) || decide (c.rate < 0)) || decide (10000 < c.rate)) = badA c := by
        have q : ∀ a lo hi : Int, (decide (a < lo) || decide (hi < a)) = !win a lo hi := by
          intro a lo hi
          by_cases q1 : a < lo <;> by_cases q2 : hi < a <;> simp [win, q1, q2] <;> omega
        unfold badA
        rw [← q c.frm, ← q c.mon, ← q c.rate]
        cases decide (c.frm < 0) <;> cases decide (100000 < c.frm) <;> cases win c.cls 1 9 <;> cases decide (c.mon < 1) <;> cases decide (12 < c.mon) <;> cases decide (c.rate < 0) <;> rfl
      rw [checkG]
      have ic : ∀ k : Go.AM.K β, iaK 4 (.lst 4 b (l.map encA)) (I pre.length) k = k (.ep (encA c) 0) := fun k => iaK_at pre.length rfl hci k
      have hlen : lenK (.lst 4 b (l.map encA)) = fun k : Go.AM.K β => k (I l.length) := by funext k; simp
      have run : f_ref31_Check_b2 P T D N (f_ref31_Check_L2 P T D N x0 xr n) x0 xr (.lst 4 b (l.map encA)) (I pre.length) h = condK (B (badA c)) (xr (I pre.length) (I 2) (h ++ [.arr 4 [encA c] true false])) (arithK .gtr (I pre.length) (I 0) fun x52 =>
          grpK true x52 (h ++ [.arr 4 [encA c] true false]) (fun k53 => arithK .sub (I pre.length) (I 1) fun x55 => iaK 4 (.lst 4 b (l.map encA)) x55 fun x56 => ldK 4 true x56 (h ++ [.arr 4 [encA c] true false]) fun x57 => callK (T 44) [.agg (encA c), x57] (h ++ [.arr 4 [encA c] true false]) fun x58 h59 => notK x58 fun x60 => k53 x60 h59) fun x61 h62 =>
          condK x61 (xr (I pre.length) (I 5) h62) (arithK .add (I pre.length) (I 1) fun x63 => f_ref31_Check_L2 P T D N x0 xr n (.lst 4 b (l.map encA)) x63 h62)) := by
        rw [← hbad]
        simp only [f_ref31_Check_b2, hlen, arithK_lss, hlt, decide_true, condK_bool, if_true, ic]
        simp [hT1, F_ref31_Class_val, encA]
      rw [run]
      clear run hbad ih
      cases hb : badA c with
      | true => simp [hr]
      | false =>
        rw [condK_bool, if_neg (by simp), if_neg (by simp)]
        rw [e1] at step hw
        rcases List.eq_nil_or_concat pre with rfl | ⟨pre', q, hq⟩
        · have w1 : IntKind.i64.wrap 1 = 1 := wrap64 (by omega) (by omega)
          simpa [w1] using step (h ++ [.arr 4 [encA c] true false])
        · have hq : pre = pre' ++ [q] := by rw [hq]; simp
          have hgp : pre.getLast? = some q := by rw [hq]; simp
          have hqi : l[pre'.length]? = some q := by rw [hc, hq]; simp
          have hpl : (pre.length : Int) = (pre'.length : Int) + 1 := by rw [hq]; simp
          have iq : ∀ k : Go.AM.K β, iaK 4 (.lst 4 b (l.map encA)) (I pre'.length) k = k (.ep (encA q) 0) := fun k => iaK_at pre'.length rfl hqi k
          rw [hgp]
          clear hgp hq hc
          have hlb : (pre.length : Int) < 1000000 := by omega
          generalize (pre.length : Int) = i at *
          have h0 : (0 : Int) < i := by omega
          have w2 : IntKind.i64.wrap (i - 1) = (pre'.length : Int) := by rw [wrap64 (by omega) (by omega)]; omega
          have fb := F_ref31_Behind_val c q
          have hld : ∀ (g : Hp) (k : Go.AM.K β), ldK 4 true (.ep (encA q) 0) g k = k (.agg (encA q)) := fun g k => by simp [encA]
          by_cases ho : ltA q c = true
          · rw [ho] at fb
            simp [h0, w2, iq, hld, hT2, fb, ho, hw, step]
          · have ho' : ltA q c = false := by simpa using ho
            rw [ho'] at fb
            simp [h0, w2, iq, hld, hT2, fb, ho', hr]
theorem F_ref31_Check_val (l : List Allow) (b : Bool) (h : Hp) : F_ref31_Check [.lst 4 b (l.map encA)] h = some (.tup [I (checkA l).1, I (checkA l).2], h) := by
  refine F_ref31_Check_run rfl ?_ h
  unfold checkA
  by_cases hl : 128 < l.length
  · have hl' : (128 : Int) < (l.length : Int) := by omega
    simp [f_ref31_Check, hl, hl']
  · have hl' : ¬ (128 : Int) < (l.length : Int) := by omega
    have h1 := ref31_Check_L2 (β := AV) (P := Try.prog) (T := t_ref31_Check) (D := d_ref31_Check) (N := NN) (x0 := fun h => f_ref31_Check_j1 Try.prog t_ref31_Check d_ref31_Check NN (fun v g => cvt false g v) h) (xr := fun a b h => cvt false h (.tup [a, b])) rfl rfl
      (X := some (.tup [I (-1), I 0])) (R := fun a b => some (.tup [I a, I b])) (fun h => rfl) (fun a b h => rfl) l b (by omega) NN [] l [] rfl (by have := NN_ge; omega)
    simp [f_ref31_Check, hl, hl'] at h1 ⊢
    refine h1.trans ?_
    cases checkG badA ltA none l 0 <;> rfl
theorem F_ref31_Right_val (l : List Allow) (b : Bool) (h : Hp) : F_ref31_Right [.lst 4 b (l.map encA)] h = some (B (rightA l), h) := by
  refine F_ref31_Right_run rfl ?_ h
  simp [f_ref31_Right, F_ref31_Check_val, rightA]
  rfl
theorem month_L5 {x2 : AV → AV → Hp → Option β} {xr : AV → Hp → Option β} (day y : Int) (hy : 1900 ≤ y) (hd : 0 ≤ day ∧ day ≤ 200000) (h : Hp) : ∀ (n : Nat) (m : Int), 1 ≤ m → m ≤ 13 → (13 - m).toNat < n → Cal.dn y m ≤ day →
    f_ref31_Month_L5 P T D N x2 xr n (I (day - Cal.dn y m)) (I y) (B (Cal.leapB y)) (I m) h = if day < Cal.bef (y + 1) then xr (I (Cal.monthOf day)) h else x2 (I (day - Cal.bef (y + 1))) (I y) h := by
  intro n
  induction n with
  | zero => intro m _ _ h; omega
  | succ n ih =>
    intro m h1 h2 h3 h4
    show f_ref31_Month_b5 P T D N (f_ref31_Month_L5 P T D N x2 xr n) x2 xr _ _ _ _ h = _
    have hb := Cal.bef_mono hy
    rw [Cal.bef_0] at hb
    by_cases hm : m ≤ 12
    · have hs := Cal.pre_succ y h1 hm
      have hdn : Cal.dn y (m + 1) = Cal.dn y m + Cal.len y m := by unfold Cal.dn; omega
      have hl := Cal.len_pos y m
      have hpb := Cal.pre_bd y h1 hm
      have hbs := Cal.bef_succ y
      have hd0 : 0 ≤ Cal.dn y m := by unfold Cal.dn; omega
      have j7 : f_ref31_Month_j7 P T D N (f_ref31_Month_L5 P T D N x2 xr n) x2 xr (I (day - Cal.dn y m)) (I y) (B (Cal.leapB y)) (I m) (I (Cal.len y m)) h = if day < Cal.bef (y + 1) then xr (I (Cal.monthOf day)) h else x2 (I (day - Cal.bef (y + 1))) (I y) h := by
        by_cases hc : day - Cal.dn y m < Cal.len y m
        · have hi : Cal.Is day y m (day - Cal.dn y m + 1) := ⟨hy, ⟨h1, hm⟩, by omega, by omega⟩
          have := hi.month_eq hd.1
          have hlt := hi.lo
          rw [if_pos hlt.2, this]
          simp [f_ref31_Month_j7, hc]
        · have w1 : IntKind.i64.wrap (day - Cal.dn y m - Cal.len y m) = day - Cal.dn y (m + 1) := by rw [wrap64 (by omega) (by omega)]; omega
          have w2 : IntKind.i64.wrap (m + 1) = m + 1 := wrap64 (by omega) (by omega)
          rw [← ih (m + 1) (by omega) (by omega) (by omega) (by omega)]
          simp [f_ref31_Month_j7, hc, w1, w2]
      rw [← j7]
      rcases Cal.months h1 hm with rfl | rfl | rfl | rfl | rfl | rfl | rfl | rfl | rfl | rfl | rfl | rfl
      case inr.inl => cases hl : Cal.leapB y <;> simp [f_ref31_Month_b5, f_ref31_Month_j6, Cal.len, hl]
      all_goals simp [f_ref31_Month_b5, f_ref31_Month_j6, Cal.len]
    · have : m = 13 := by omega
      subst this
      have e : Cal.dn y 13 = Cal.bef (y + 1) := by unfold Cal.dn; rw [Cal.pre_13, Cal.bef_succ]
      rw [if_neg (by omega), ← e]
      simp [f_ref31_Month_b5]
theorem month_L2 {xr : AV → Hp → Option β} (hN : 20 ≤ N) (day : Int) (hd : 0 ≤ day ∧ day ≤ 200000) (h : Hp) : ∀ (n : Nat) (y : Int), 1900 ≤ y → Cal.bef y ≤ day → day - Cal.bef y < n →
    f_ref31_Month_L2 Try.prog T D N xr n (I (day - Cal.bef y)) (I y) h = xr (I (Cal.monthOf day)) h := by
  intro n
  induction n with
  | zero => intro y _ _ h; omega
  | succ n ih =>
    intro y h1 h2 h3
    show f_ref31_Month_b2 Try.prog T D N (f_ref31_Month_L2 Try.prog T D N xr n) xr _ _ h = _
    have hdn1 : Cal.dn y 1 = Cal.bef y := by unfold Cal.dn; rw [Cal.pre_1]; omega
    have hbs := Cal.bef_succ y
    have hyl := Cal.yl_pos y
    have hyb : y ≤ 3000 := by
      by_cases hy : y ≤ 3000
      · exact hy
      · have := Cal.bef_mono (show (3000 : Int) ≤ y by omega)
        have e : Cal.bef 3000 = 401767 := by decide
        omega
    have L5 := month_L5 (P := Try.prog) (T := T) (D := D) (N := N) (x2 := fun w32_0 w32_3 h => f_ref31_Month_j4 Try.prog T D N (f_ref31_Month_L2 Try.prog T D N xr n) xr w32_0 w32_3 h) (xr := fun w33_2 h => xr w33_2 h) day y h1 hd h N 1 (by omega) (by omega) (by omega) (by omega)
    rw [hdn1] at L5
    have r4 := fun k : Go.AM.K β => reck_remZ (P := Try.prog) (ty := 3) y 4 (by omega) (by omega) k
    have r100 := fun k : Go.AM.K β => reck_remZ (P := Try.prog) (ty := 3) y 100 (by omega) (by omega) k
    have r400 := fun k : Go.AM.K β => reck_remZ (P := Try.prog) (ty := 3) y 400 (by omega) (by omega) k
    have hlp : (y % 4 == 0 && (y % 100 != 0 || y % 400 == 0)) = Cal.leapB y := rfl
    have run : f_ref31_Month_b2 Try.prog T D N (f_ref31_Month_L2 Try.prog T D N xr n) xr (I (day - Cal.bef y)) (I y) h = f_ref31_Month_L5 Try.prog T D N (fun w32_0 w32_3 h => f_ref31_Month_j4 Try.prog T D N (f_ref31_Month_L2 Try.prog T D N xr n) xr w32_0 w32_3 h) (fun w33_2 h => xr w33_2 h) N (I (day - Cal.bef y)) (I y) (B (Cal.leapB y)) (I 1) h := by
      simp only [f_ref31_Month_b2, r4, eqK_int, Bool.false_xor]
      rw [← hlp]
      by_cases h4 : y % 4 = 0
      · simp [r100, r400, h4, bne]
      · have : (y % 4 == 0) = false := by simpa using h4
        simp [this]
    rw [run, L5]
    by_cases hc : day < Cal.bef (y + 1)
    · rw [if_pos hc]
    · rw [if_neg hc]
      have w1 : IntKind.i64.wrap (y + 1) = y + 1 := wrap64 (by omega) (by omega)
      rw [← ih (y + 1) (by omega) (by omega) (by omega)]
      simp [f_ref31_Month_j4, f_ref31_Month_j3, w1]
theorem F_ref31_Month_val (day : Int) (h0 : 0 ≤ day) (h1 : day ≤ 200000) (h : Hp) : F_ref31_Month [I day] h = some (I (Cal.monthOf day), h) := by
  refine F_ref31_Month_run rfl ?_ h
  have := month_L2 (T := t_ref31_Month) (D := d_ref31_Month) (N := NN) (xr := fun w34_2 h => cvt false h w34_2) (by have := NN_ge; omega) day ⟨h0, h1⟩ [] NN 1900 (by omega) (by rw [Cal.bef_0]; exact h0) (by have := NN_ge; rw [Cal.bef_0]; omega)
  rw [Cal.bef_0] at this
  refine Eq.trans ?_ (this.trans ?_)
  · simp [f_ref31_Month]
  · rfl
def verR (day : Int) : Int → List Allow → Int
  | acc, [] => acc
  | acc, a :: l => verR day (if a.frm ≤ day ∧ acc < a.frm then a.frm else acc) l
theorem verR_eq (day : Int) : ∀ (l : List Allow) (acc : Int), l.Pairwise (fun a b => ltA a b = true) → (∀ a ∈ l, acc ≤ a.frm) → verR day acc l = (versionL l day).getD acc
  | [], acc, _, _ => rfl
  | a :: l, acc, hs, ha => by
    obtain ⟨h1, h2⟩ := List.pairwise_cons.1 hs
    have hac := ha a (by simp)
    by_cases hd : a.frm ≤ day
    · have e1 : (if a.frm ≤ day ∧ acc < a.frm then a.frm else acc) = a.frm := by
        split
        · rfl
        · omega
      rw [verR, e1, verR_eq day l a.frm h2 (fun b hb => ltA_frm (h1 b hb))]
      have e2 : upto (a :: l) day = upto l day + 1 := by
        unfold upto; rw [List.takeWhile_cons_of_pos (p := fun a : Allow => decide (a.frm ≤ day)) (by simpa using hd)]; rfl
      unfold versionL
      rw [e2, List.take_succ_cons]
      cases hl : l.take (upto l day) with
      | nil => simp
      | cons b t =>
        rw [List.getLast?_cons_cons]
        cases hx : (b :: t).getLast? with
        | none => simp at hx
        | some y => simp [hx]
    · have hall : ∀ b ∈ l, ¬ b.frm ≤ day := fun b hb => by have := ltA_frm (h1 b hb); omega
      have key : ∀ (l : List Allow), (∀ b ∈ l, ¬ b.frm ≤ day) → verR day acc l = acc := by
        intro l
        induction l with
        | nil => intro _; rfl
        | cons b l ih => intro hb; rw [verR, if_neg (by have := hb b (by simp); omega)]; exact ih (fun c hc => hb c (by simp [hc]))
      rw [key (a :: l) (by simpa using ⟨by omega, fun b hb => by have := hall b hb; omega⟩)]
      have e2 : upto (a :: l) day = 0 := by
        unfold upto; rw [List.takeWhile_cons_of_neg (p := fun a : Allow => decide (a.frm ≤ day)) (by simpa using hd)]; rfl
      unfold versionL
      rw [e2]; rfl
theorem ref31_Version_L2 {x0 : AV → Hp → Option β} (l : List Allow) (b : Bool) (day : Int) (hl : l.length < 1000000) (h : Hp) : ∀ (n : Nat) (pre post : List Allow) (acc : Int), l = pre ++ post → post.length < n →
    f_ref31_Version_L2 P T D N x0 n (.lst 4 b (l.map encA)) (I day) (I acc) (I pre.length) h = x0 (I (verR day acc post)) h := by
  intro n
  induction n with
  | zero => intro pre post acc _ h2; omega
  | succ n ih =>
    intro pre post acc hc hn
    show f_ref31_Version_b2 P T D N (f_ref31_Version_L2 P T D N x0 n) x0 _ _ _ _ h = _
    cases post with
    | nil =>
      have : l = pre := by simpa using hc
      subst this
      simp [f_ref31_Version_b2, verR]
    | cons c post =>
      have hi : pre.length < l.length := by rw [hc]; simp
      have hci : l[pre.length]? = some c := by rw [hc]; simp
      have hlt : ((pre.length : Int) < (l.length : Int)) := by omega
      have hw : IntKind.i64.wrap ((pre.length : Int) + 1) = (((pre ++ [c]).length : Nat) : Int) := by rw [wrap64 (by omega) (by omega)]; simp
      have ic : ∀ k : Go.AM.K β, iaK 4 (.lst 4 b (l.map encA)) (I pre.length) k = k (.ep (encA c) 0) := fun k => iaK_at pre.length rfl hci k
      have hlen : lenK (.lst 4 b (l.map encA)) = fun k : Go.AM.K β => k (I l.length) := by funext k; simp
      have step := fun acc => ih (pre ++ [c]) post acc (by simpa using hc) (by simpa using hn)
      simp only [encA] at ic
      rw [verR]
      by_cases q1 : c.frm ≤ day
      · by_cases q2 : acc < c.frm
        · rw [if_pos ⟨q1, q2⟩, ← step]
          simp only [f_ref31_Version_b2, hlen, arithK_lss, hlt, decide_true, condK_bool, if_true, encA, ic]
          simp [q1, q2, f_ref31_Version_j4, f_ref31_Version_j3, hw]
        · rw [if_neg (by omega), ← step]
          simp only [f_ref31_Version_b2, hlen, arithK_lss, hlt, decide_true, condK_bool, if_true, encA, ic]
          simp [q1, q2, f_ref31_Version_j4, f_ref31_Version_j3, hw]
      · rw [if_neg (by omega), ← step]
        simp only [f_ref31_Version_b2, hlen, arithK_lss, hlt, decide_true, condK_bool, if_true, encA, ic]
        simp [q1, f_ref31_Version_j4, f_ref31_Version_j3, hw]
theorem F_ref31_Version_val (l : List Allow) (b : Bool) (day : Int) (hs : l.Pairwise (fun a b => ltA a b = true)) (hg : ∀ a ∈ l, badA a = false) (hl : l.length < 1000000) (h : Hp) : F_ref31_Version [.lst 4 b (l.map encA), I day] h = some (I ((versionL l day).getD (-1)), h) := by
  refine F_ref31_Version_run rfl ?_ h
  have := ref31_Version_L2 (P := Try.prog) (T := t_ref31_Version) (D := d_ref31_Version) (N := NN) (x0 := fun w18_5 h => f_ref31_Version_j1 Try.prog t_ref31_Version d_ref31_Version NN (fun v g => cvt false g v) w18_5 h) l b day hl [] NN [] l (-1) rfl (by have := NN_ge; omega)
  rw [verR_eq day l (-1) hs (fun a ha => by have := (badA_bd (hg a ha)).1; omega)] at this
  refine Eq.trans ?_ (this.trans ?_)
  · simp [f_ref31_Version]
  · simp [f_ref31_Version_j1]
theorem ref31_rate_L2 {x0 : Hp → Option β} {xr : AV → Hp → Option β} (l : List Allow) (b : Bool) (v cls mon : Int) (hl : l.length < 1000000) (h : Hp) : ∀ (n : Nat) (pre post : List Allow), l = pre ++ post → post.length < n →
    f_ref31_rate_L2 P T D N x0 xr n (.lst 4 b (l.map encA)) (I cls) (I v) (I mon) (I pre.length) h = match post.find? (fun a => decide (a.frm = v ∧ a.cls = cls ∧ a.mon = mon)) with | some a => xr (I a.rate) h | none => x0 h := by
  intro n
  induction n with
  | zero => intro pre post _ h2; omega
  | succ n ih =>
    intro pre post hc hn
    show f_ref31_rate_b2 P T D N (f_ref31_rate_L2 P T D N x0 xr n) x0 xr _ _ _ _ _ h = _
    cases post with
    | nil =>
      have : l = pre := by simpa using hc
      subst this
      simp [f_ref31_rate_b2]
    | cons c post =>
      have hi : pre.length < l.length := by rw [hc]; simp
      have hci : l[pre.length]? = some c := by rw [hc]; simp
      have hlt : ((pre.length : Int) < (l.length : Int)) := by omega
      have hw : IntKind.i64.wrap ((pre.length : Int) + 1) = (((pre ++ [c]).length : Nat) : Int) := by rw [wrap64 (by omega) (by omega)]; simp
      have ic : ∀ k : Go.AM.K β, iaK 4 (.lst 4 b (l.map encA)) (I pre.length) k = k (.ep (encA c) 0) := fun k => iaK_at pre.length rfl hci k
      have hlen : lenK (.lst 4 b (l.map encA)) = fun k : Go.AM.K β => k (I l.length) := by funext k; simp
      have step := ih (pre ++ [c]) post (by simpa using hc) (by simpa using hn)
      simp only [encA] at ic
      by_cases q : c.frm = v ∧ c.cls = cls ∧ c.mon = mon
      · rw [List.find?_cons_of_pos (by simpa using q)]
        obtain ⟨q1, q2, q3⟩ := q
        simp only [f_ref31_rate_b2, hlen, arithK_lss, hlt, decide_true, condK_bool, if_true, encA, ic]
        simp [q1, q2, q3]
      · rw [List.find?_cons_of_neg (by simpa using q), ← step]
        simp only [f_ref31_rate_b2, hlen, arithK_lss, hlt, decide_true, condK_bool, if_true, encA, ic]
        by_cases q1 : c.frm = v
        · by_cases q2 : c.cls = cls
          · have q3 : (c.mon == mon) = false := by simp; intro e; exact q ⟨q1, q2, e⟩
            simp [q1, q2, q3, hw]
          · have q2' : (c.cls == cls) = false := by simpa using q2
            simp [q1, q2, q2', hw]
        · have q1' : (c.frm == v) = false := by simpa using q1
          simp [q1, q1', hw]
theorem F_ref31_rate_val (l : List Allow) (b : Bool) (cls day : Int) (hs : l.Pairwise (fun a b => ltA a b = true)) (hg : ∀ a ∈ l, badA a = false) (hl : l.length < 1000000) (h0 : 0 ≤ day) (h1 : day ≤ 200000) (h : Hp) : F_ref31_rate [.lst 4 b (l.map encA), I cls, I day] h = some (I (rateOn l cls day), h) := by
  refine F_ref31_rate_run rfl ?_ h
  have fv := F_ref31_Version_val l b day hs hg hl
  have fm := F_ref31_Month_val day h0 h1
  have L := ref31_rate_L2 (P := Try.prog) (T := t_ref31_rate) (D := d_ref31_rate) (N := NN) (x0 := fun h => f_ref31_rate_j1 Try.prog t_ref31_rate d_ref31_rate NN (fun v g => cvt false g v) h) (xr := fun w30_6 h => cvt false h w30_6) l b ((versionL l day).getD (-1)) cls (Cal.monthOf day) hl [] NN [] l rfl (by have := NN_ge; omega)
  refine Eq.trans ?_ (L.trans ?_)
  · simp [f_ref31_rate, fv, fm]
  · unfold rateOn
    cases hv : versionL l day with
    | none =>
      have : l.find? (fun a => decide (a.frm = -1 ∧ a.cls = cls ∧ a.mon = Cal.monthOf day)) = none := by
        rw [List.find?_eq_none]
        intro a ha
        have := (badA_bd (hg a ha)).1
        simp; omega
      simp only [Option.getD_none, this]
      simp [f_ref31_rate_j1]
    | some v =>
      simp only [Option.getD_some]
      unfold rateAt
      cases l.find? (fun a => decide (a.frm = v ∧ a.cls = cls ∧ a.mon = Cal.monthOf day)) <;> simp [f_ref31_rate_j1]
theorem ref31_Sum_L2 (hT : T 39 = some F_ref31_rate) {x0 : AV → Hp → Option β} (l : List Allow) (b : Bool) (cls to : Int) (hs : l.Pairwise (fun a b => ltA a b = true)) (hg : ∀ a ∈ l, badA a = false) (hl : l.length < 1000000) (ht : to ≤ 100000) (h : Hp) : ∀ (n : Nat) (d acc : Int), 0 ≤ d → d ≤ to → (to - d).toNat < n → (0 ≤ acc ∧ acc ≤ 100000000000 - 1000000 * (to - d)) →
    f_ref31_Sum_L2 P T D N x0 n (.lst 4 b (l.map encA)) (I cls) (I to) (I acc) (I d) h = x0 (I (acc + sumA l cls d to)) h := by
  intro n
  induction n with
  | zero => intro d acc _ _ h; omega
  | succ n ih =>
    intro d acc h1 h2 h3 h4
    show f_ref31_Sum_b2 P T D N (f_ref31_Sum_L2 P T D N x0 n) x0 _ _ _ _ _ h = _
    by_cases hd : d < to
    · have fr := F_ref31_rate_val l b cls d hs hg hl h1 (by omega)
      have hr := rateOn_bd hg cls d
      have w1 : IntKind.i64.wrap (acc + rateOn l cls d) = acc + rateOn l cls d := wrap64 (by omega) (by omega)
      have w2 : IntKind.i64.wrap (d + 1) = d + 1 := wrap64 (by omega) (by omega)
      have e : sumA l cls d to = rateOn l cls d + sumA l cls (d + 1) to := by
        unfold sumA
        have : (to - d).toNat = (to - (d + 1)).toNat + 1 := by omega
        rw [this]; rfl
      rw [e, ← Int.add_assoc, ← ih (d + 1) (acc + rateOn l cls d) (by omega) (by omega) (by omega) (by omega)]
      simp [f_ref31_Sum_b2, hd, hT, fr, w1, w2]
    · have : d = to := by omega
      subst this
      have e : sumA l cls d d = 0 := by simp [sumA, sumN]
      simp [f_ref31_Sum_b2, e]
theorem F_ref31_Sum_val (l : List Allow) (b : Bool) (cls frm to : Int) (h : Hp) : F_ref31_Sum [.lst 4 b (l.map encA), I cls, I frm, I to] h = some (.tup [I (sumS l cls frm to).1, I (sumS l cls frm to).2], h) := by
  refine F_ref31_Sum_run rfl ?_ h
  unfold sumS
  cases hr : rightA l with
  | false => simp [f_ref31_Sum, F_ref31_Right_val, hr]
  | true =>
    obtain ⟨h1, h2, h3⟩ := rightA_ok hr
    cases c1 : win cls 1 9 <;> cases c2 : win frm 0 100000 <;> cases c3 : win to 0 100000 <;> simp [f_ref31_Sum, F_ref31_Right_val, hr, F_ref31_Class_val, F_ref31_Day_val, c1, c2, c3]
    simp only [win, Bool.and_eq_true, decide_eq_true_eq] at c2 c3
    by_cases hc : to < frm
    · simp [hc]
    · have := ref31_Sum_L2 (P := Try.prog) (T := t_ref31_Sum) (D := d_ref31_Sum) (N := NN) rfl (x0 := fun w10 h => f_ref31_Sum_j1 Try.prog t_ref31_Sum d_ref31_Sum NN (fun v g => cvt false g v) w10 h) l b cls to h3 h2 (by omega) (by omega) [] NN frm 0 (by omega) (by omega) (by have := NN_ge; omega) (by omega)
      simp [hc]
      refine this.trans ?_
      simp [f_ref31_Sum_j1]
theorem F_ref31_Rate_val (l : List Allow) (b : Bool) (cls day : Int) (h : Hp) : F_ref31_Rate [.lst 4 b (l.map encA), I cls, I day] h = some (.tup [I (rateS l cls day).1, I (rateS l cls day).2], h) := by
  refine F_ref31_Rate_run rfl ?_ h
  unfold rateS
  cases hr : rightA l with
  | false => simp [f_ref31_Rate, F_ref31_Right_val, hr]
  | true =>
    obtain ⟨h1, h2, h3⟩ := rightA_ok hr
    cases c1 : win cls 1 9 <;> cases c2 : win day 0 100000 <;> simp [f_ref31_Rate, F_ref31_Right_val, hr, F_ref31_Class_val, F_ref31_Day_val, c1, c2]
    simp only [win, Bool.and_eq_true, decide_eq_true_eq] at c2
    have hu := F_ref31_rate_val l b cls day h3 h2 (by omega) c2.1 (by omega)
    simp [hu]
theorem F_ref31_VersionChecked_val (l : List Allow) (b : Bool) (day : Int) (h : Hp) : F_ref31_VersionChecked [.lst 4 b (l.map encA), I day] h = some (.tup [I (versionS l day).1, I (versionS l day).2], h) := by
  refine F_ref31_VersionChecked_run rfl ?_ h
  unfold versionS
  cases hr : rightA l with
  | false => simp [f_ref31_VersionChecked, F_ref31_Right_val, hr]
  | true =>
    obtain ⟨h1, h2, h3⟩ := rightA_ok hr
    have fv := F_ref31_Version_val l b day h3 h2 (by omega)
    cases c2 : win day 0 100000
    · simp [f_ref31_VersionChecked, F_ref31_Right_val, hr, F_ref31_Day_val, c2]
    · cases hv : versionL l day with
      | none => rw [hv] at fv; simp at fv; simp [f_ref31_VersionChecked, F_ref31_Right_val, hr, F_ref31_Day_val, c2, fv]
      | some v =>
        rw [hv] at fv
        simp at fv
        have hv0 : ¬ v < 0 := by
          have : v ∈ l.map (·.frm) := by
            unfold versionL at hv
            obtain ⟨a, ha, rfl⟩ := Option.map_eq_some_iff.1 hv
            exact List.mem_map.2 ⟨a, List.mem_of_mem_take (List.mem_of_getLast? ha), rfl⟩
          obtain ⟨a, ha, rfl⟩ := List.mem_map.1 this
          have := (badA_bd (h2 a ha)).1
          omega
        simp [f_ref31_VersionChecked, F_ref31_Right_val, hr, F_ref31_Day_val, c2, fv, hv0]
theorem F_ref31_Allowed_val (l : List Allow) (b : Bool) (cls alc frm to : Int) (h : Hp) : F_ref31_Allowed [.lst 4 b (l.map encA), I cls, I alc, I frm, I to] h = some (.tup [I (allowedS l cls alc frm to).1, I (allowedS l cls alc frm to).2], h) := by
  refine F_ref31_Allowed_run rfl ?_ h
  have fs := F_ref31_Sum_val l b cls frm to
  unfold sumS at fs
  unfold allowedS
  cases hr : rightA l with
  | false => simp [f_ref31_Allowed, F_ref31_Right_val, hr]
  | true =>
    obtain ⟨h1, h2, h3⟩ := rightA_ok hr
    rw [hr] at fs
    have q : ∀ (a : Int) (lo hi : Int), win a lo hi = !(decide (a < lo) || decide (hi < a)) := by
      intro a lo hi
      by_cases q1 : a < lo <;> by_cases q2 : hi < a <;> simp [win, q1, q2] <;> omega
    have q4 := q alc 0 10737418240000
    cases c1 : win cls 1 9 <;> cases c2 : win frm 0 100000 <;> cases c3 : win to 0 100000 <;> rw [c1, c2, c3] at fs <;> simp [f_ref31_Allowed, F_ref31_Right_val, hr, F_ref31_Class_val, F_ref31_Day_val, c1, c2, c3]
    by_cases a1 : alc < 0
    · rw [show win alc 0 10737418240000 = false by rw [q4]; simp [a1]]
      simp [a1]
    by_cases a2 : 10737418240000 < alc
    · rw [show win alc 0 10737418240000 = false by rw [q4]; simp [a2]]
      simp [a1, a2]
    rw [show win alc 0 10737418240000 = true by rw [q4]; simp [a1, a2]]
    simp only [win, Bool.and_eq_true, decide_eq_true_eq] at c2 c3
    by_cases hc : to < frm
    · simp [hc] at fs
      simp [a1, a2, fs, hc]
    · have hb := sumA_bd h2 cls frm to (by omega)
      simp [hc] at fs
      generalize sumA l cls frm to = s at *
      obtain ⟨x, rfl⟩ := Int.eq_ofNat_of_zero_le (show 0 ≤ alc by omega)
      obtain ⟨z, rfl⟩ := Int.eq_ofNat_of_zero_le hb.1
      have hx0 : ¬ ((x : Int) < 0) := by omega
      by_cases hs : 1000000 ≤ (z : Int)
      · have hmin : min ((x : Int) * (z : Int) / 1000000) (x : Int) = x := by
          have : (x : Int) * 1000000 ≤ (x : Int) * (z : Int) := Int.mul_le_mul_of_nonneg_left hs (by omega)
          have : (x : Int) ≤ (x : Int) * (z : Int) / 1000000 := by omega
          omega
        rw [hmin]
        clear hmin
        clear q4 q h1 h2 h3 c1 c2 c3 hb
        generalize hxi : (x : Int) = xi at *
        generalize hzi : (z : Int) = zi at *
        clear hxi hzi
        have g1 : decide (1000000 ≤ zi) = true := by simpa using hs
        have g2 : ¬ (xi < 0 ∨ 10737418240000 < xi) := by omega
        simp only [if_neg hc]
        clear hs a2 hx0 hc
        simp [g1, fs]
        omega
      · have fp := F_ref01_Proportion_val x z 1000000 (by omega) (by omega) (by decide) (by decide)
        have hle : x * z ≤ x * 1000000 := Nat.mul_le_mul_left _ (by omega)
        have hq : x * z / 1000000 ≤ x := by omega
        rw [if_pos (by omega)] at fp
        have hmin : min ((x : Int) * (z : Int) / 1000000) (x : Int) = ((x * z / 1000000 : Nat) : Int) := by
          have : ((x : Int) * (z : Int) / 1000000) = ((x * z / 1000000 : Nat) : Int) := by rw [Int.natCast_ediv, Int.natCast_mul]; rfl
          rw [this]; omega
        rw [hmin]
        clear hmin
        have fp' : ∀ h : Hp, F_ref01_Proportion [I (x : Int), I (z : Int), I 1000000] h = some (.tup [I ((x * z / 1000000 : Nat) : Int), I ((x * z % 1000000 : Nat) : Int)], h) := fun h => fp h
        clear fp hle hq
        generalize ((x * z / 1000000 : Nat) : Int) = p at *
        generalize ((x * z % 1000000 : Nat) : Int) = r at *
        generalize hxi : (x : Int) = xi at *
        generalize hzi : (z : Int) = zi at *
        have g1 : decide (1000000 ≤ zi) = false := by simpa using hs
        have g2 : ¬ (xi < 0 ∨ 10737418240000 < xi) := by omega
        simp only [if_neg hc]
        clear hs a2 hx0 hc hxi hzi q4 q h1 h2 h3 c1 c2 c3 hb
        simp [g1, fs, fp']
        omega
theorem F_ref31_Few_val (l : List Allow) (b : Bool) (h : Hp) : F_ref31_Few [.lst 4 b (l.map encA)] h = some (B (decide (l.length ≤ 20) || decide (l.length = 129)), h) := by
  refine F_ref31_Few_run rfl ?_ h
  by_cases h1 : l.length ≤ 20
  · have h1' : (l.length : Int) ≤ 20 := by omega
    simp [f_ref31_Few, h1, h1']
  · have h1' : ¬ (l.length : Int) ≤ 20 := by omega
    by_cases h2 : l.length = 129
    · simp [f_ref31_Few, h1, h1', h2]
    · have h2' : ((l.length : Int) == 129) = false := by simp; omega
      simp [f_ref31_Few, h1, h1', h2, h2']
end
end Go.AM

/- The row: arguments opened, and what a call of a law tells. -/
namespace Go.AM
open Go.RowKit
set_option linter.unusedVariables false
/-- Ahead of a call all that is there is immutable. -/
def mu0 (w : World) : Mu := ⟨fun _ => .virt none, w, fun k => k < w.heap.size⟩
theorem rel0 (w : World) : Rel (mu0 w) [] w where
  obj := fun id o h => by simp at h
  sep := fun i j o p b x c y d h => by simp at h
  apart := fun i sz es nil b x c h => by simp at h
  imm := fun k hk => ⟨hk, rfl, fun ⟨id, o, off, c, h, _⟩ => by simp at h⟩
theorem own0 (w : World) (b : Nat) : ¬ Own (mu0 w) [] b := fun ⟨id, o, off, c, h, _⟩ => by simp at h
theorem below0 {w w' : World} {μ' : Mu} {h' : Hp} (s : Step (mu0 w) [] w μ' h' w') : Below w.heap.size w w' :=
  ⟨s.frame.os, s.frame.tape, s.frame.output, s.frame.size, fun k hk => s.frame.block k hk (own0 w k)⟩
/-- What a call of a law tells. -/
theorem row_calls {P : Program} {f : FuncId} {F : Fun} {args : List AV} {h' : Hp} {b : Bool} {W : World} {cargs : Array Value} (hc : CSound P f F) (hF : F args [] = some (.s (.bool b), h')) (hv : VRs (mu0 W) [] args cargs.toList) :
    Calls P f cargs W fun e W' => e = .returned (.bool b) ∧ Below W.heap.size W W' := by
  refine (hc args [] _ h' hF (mu0 W) W cargs (rel0 W) hv).2.mono fun e W' => ?_
  rintro ⟨cv, μ', rfl, s, hr⟩
  simp only [VR] at hr
  exact ⟨by rw [hr.2], below0 s⟩

/-! ### Types of arguments. -/
inductive Ty where
  | int (k : IntKind)
  | bool
  | str
  | sl (e : List Ty)
def tyFs (f : TypeId → Option (List Ty)) (size : TypeId → Nat) : List Field → Nat → Option (List Ty)
  | [], _ => some []
  | x :: l, pos => match f x.type, tyFs f size l (pos + size x.type) with
    | some a, some b => if x.offset = pos ∧ a.length = size x.type then some (a ++ b) else none
    | _, _ => none
def tyOf (P : Program) : Nat → TypeId → Option (List Ty)
  | 0, _ => none
  | n + 1, t => match P.underlying t with
    | some .bool => some [.bool]
    | some (.int k) => some [.int k]
    | some .string => some [.str]
    | some (.slice e) => match tyOf P n e with
      | some l => if l.length = P.cellsOf e ∧ 0 < l.length then some [.sl l] else none
      | none => none
    | some (.struct fs) => match tyFs (tyOf P n) P.cellsOf fs.toList 0 with
      | some l => if l.length = P.cellsOf t then some l else none
      | none => none
    | _ => none
mutual
def HasT : Ty → AV → Prop
  | .int k, a => ∃ n, a = .s (.int k n) ∧ (Lit.int k n).wf = true
  | .bool, a => ∃ b, a = .s (.bool b)
  | .str, a => ∃ s : ByteArray, a = .s (.string s) ∧ s.size ≤ maxLen
  | .sl ts, a => ∃ nil es, a = .lst ts.length nil es ∧ (nil = true → es = []) ∧ es.length ≤ maxLen ∧ ∀ e ∈ es, HasTs ts e
def HasTs : List Ty → List AV → Prop
  | [], asl => asl = []
  | t :: ts, asl => ∃ a as', asl = a :: as' ∧ HasT t a ∧ HasTs ts as'
end
theorem HasTs.app : ∀ {ts us : List Ty} {asl bs : List AV}, HasTs ts asl → HasTs us bs → HasTs (ts ++ us) (asl ++ bs)
  | [], us, asl, bs, h, k => by simp only [HasTs] at h; subst h; exact k
  | t :: ts, us, asl, bs, h, k => by
    simp only [HasTs] at h
    obtain ⟨a, as', rfl, h1, h2⟩ := h
    simp only [List.cons_append, HasTs]
    exact ⟨a, _, rfl, h1, HasTs.app h2 k⟩
theorem HasTs.len : ∀ {ts : List Ty} {asl : List AV}, HasTs ts asl → asl.length = ts.length
  | [], asl, h => by simp only [HasTs] at h; subst h; rfl
  | t :: ts, asl, h => by
    simp only [HasTs] at h
    obtain ⟨a, as', rfl, h1, h2⟩ := h
    simp [HasTs.len h2]
theorem HasT.ok : ∀ {t : Ty} {a : AV}, HasT t a → okC a = true
  | .int k, a, h => by simp only [HasT] at h; obtain ⟨n, rfl, _⟩ := h; rfl
  | .bool, a, h => by simp only [HasT] at h; obtain ⟨n, rfl⟩ := h; rfl
  | .str, a, h => by simp only [HasT] at h; obtain ⟨n, rfl, _⟩ := h; rfl
  | .sl ts, a, h => by simp only [HasT] at h; obtain ⟨n, es, rfl, _⟩ := h; rfl
theorem HasTs.ok : ∀ {ts : List Ty} {asl : List AV}, HasTs ts asl → ∀ x ∈ asl, okC x = true
  | [], asl, h, x, hx => by simp only [HasTs] at h; subst h; simp at hx
  | t :: ts, asl, h, x, hx => by
    simp only [HasTs] at h
    obtain ⟨a, as', rfl, h1, h2⟩ := h
    rcases List.mem_cons.1 hx with rfl | hx
    · exact h1.ok
    · exact h2.ok x hx
theorem VRs_app' {μ : Mu} {h : Hp} : ∀ {asl bs : List AV} {cs ds : List Value}, VRs μ h asl cs → VRs μ h bs ds → VRs μ h (asl ++ bs) (cs ++ ds)
  | [], bs, cs, ds, h1, h2 => by simp only [VRs] at h1; subst h1; exact h2
  | a :: asl, bs, cs, ds, h1, h2 => by
    simp only [VRs] at h1
    obtain ⟨v, vs, rfl, h3, h4⟩ := h1
    simp only [List.cons_append, VRs]
    exact ⟨v, _, rfl, h3, VRs_app' h4 h2⟩
section
variable {H : Type} {enc : TypeId × Value → H} {P : Program} {w : World} {base : Nat} {spare : Nat → Bool} {held : Bool}
/-- Cells of a type, opened. -/
def Opened (w : World) (ts : List Ty) (cs : List Value) : Prop := ∃ asl, HasTs ts asl ∧ VRs (mu0 w) [] asl cs ∧ ∀ u ∈ cs, u.oneCell' = true
theorem open_one {t : Ty} {u : Value} {a : AV} (h1 : HasT t a) (h2 : VR (mu0 w) [] a u) (h3 : u.oneCell' = true) : Opened w [t] [u] :=
  ⟨[a], by simp only [HasTs]; exact ⟨a, [], rfl, h1, rfl⟩, by simp only [VRs]; exact ⟨u, [], rfl, h2, rfl⟩, by simpa using h3⟩
theorem open_fs {f : TypeId → Option (List Ty)} {g : TypeId → List Value → Prop} {cs : List Value} (hg : ∀ t ts cs', f t = some ts → g t cs' → Opened w ts cs') : ∀ (l : List Field) (pos : Nat) (ts : List Ty), tyFs f P.cellsOf l pos = some ts →
    (∀ x ∈ l, g x.type ((cs.drop x.offset).take (P.cellsOf x.type))) → Opened w ts ((cs.drop pos).take ts.length)
  | [], pos, ts, h, _ => by
    simp only [tyFs, Option.some.injEq] at h
    subst h
    exact ⟨[], rfl, rfl, by simp⟩
  | x :: l, pos, ts, h, hx => by
    simp only [tyFs] at h
    split at h
    · rename_i a b h1 h2
      split at h
      · rename_i hc
        simp only [Option.some.injEq] at h
        subst h
        obtain ⟨h3, h4⟩ := hc
        obtain ⟨asl, p1, p2, p3⟩ := hg _ _ _ h1 (hx x (by simp))
        obtain ⟨bs, q1, q2, q3⟩ := open_fs hg l _ b h2 (fun y hy => hx y (by simp [hy]))
        have e : (cs.drop pos).take (a ++ b).length = (cs.drop x.offset).take (P.cellsOf x.type) ++ (cs.drop (pos + P.cellsOf x.type)).take b.length := by
          rw [List.length_append, h4, h3, ← List.drop_drop, List.take_add]
        rw [e]
        refine ⟨asl ++ bs, p1.app q1, VRs_app' p2 q2, ?_⟩
        intro u hu
        rcases List.mem_append.1 hu with hu | hu
        · exact p3 u hu
        · exact q3 u hu
      · simp at h
    · simp at h
/-- Elements, one behind the other, in one block. -/
theorem open_es {ts : List Ty} {sz b : Nat} (hts : ts.length = sz) : ∀ (n o : Nat), (∀ i, i < n → ∃ cs, Opened w ts cs ∧ cs.length = sz ∧ ∀ j u, cs[j]? = some u → w.cell? ⟨b, o + i * sz + j, none⟩ = some u) →
    ∃ es vs, es.length = n ∧ (∀ e ∈ es, HasTs ts e) ∧ VRf (mu0 w) [] es vs ∧ ∀ j u, vs[j]? = some u → w.cell? ⟨b, o + j, none⟩ = some u ∧ u.oneCell' = true
  | 0, o, h => ⟨[], [], rfl, by simp, rfl, by simp⟩
  | n + 1, o, h => by
    obtain ⟨cs, ⟨asl, h1, h2, h3⟩, h4, h5⟩ := h 0 (by omega)
    obtain ⟨es, vs, k1, k2, k3, k4⟩ := open_es hts n (o + sz) (fun i hi => by
      obtain ⟨cs', q1, q2, q3⟩ := h (i + 1) (by omega)
      refine ⟨cs', q1, q2, fun j u hu => ?_⟩
      rw [← q3 j u hu]
      congr 2
      rw [Nat.add_mul]; omega)
    refine ⟨asl :: es, cs ++ vs, by simp [k1], ?_, ?_, ?_⟩
    · intro e he
      rcases List.mem_cons.1 he with rfl | he
      · exact h1
      · exact k2 e he
    · simp only [VRf]; exact ⟨cs, vs, rfl, h2, k3⟩
    · intro j u hj
      by_cases hlt : j < cs.length
      · rw [List.getElem?_append_left hlt] at hj
        have := h5 j u hj
        exact ⟨by simpa using this, h3 u (List.mem_of_getElem? hj)⟩
      · rw [List.getElem?_append_right (by omega)] at hj
        have := k4 _ _ hj
        rw [show o + sz + (j - cs.length) = o + j by omega] at this
        exact this
theorem cell_lt {a : Addr} {v : Value} (h : w.cell? a = some v) : a.block < w.heap.size := by
  rcases Nat.lt_or_ge a.block w.heap.size with h1 | h1
  · exact h1
  · have : w.heap[a.block]? = none := by simpa using h1
    simp [World.cell?, this] at h
theorem open_cells : ∀ (fuel n : Nat) (t : TypeId) (ts : List Ty) (cs : List Value) (x : DataW H × List MemPlace), tyOf P n t = some ts → DataW.trod enc P w base spare held fuel t cs = some x → Opened w ts cs
  | 0, n, t, ts, cs, x, _, h => by simp [DataW.trod] at h
  | fuel + 1, 0, t, ts, cs, x, h0, _ => by simp [tyOf] at h0
  | fuel + 1, n + 1, t, ts, cs, x, h0, h => by
    unfold tyOf at h0
    cases hu : P.underlying t with
    | none => rw [hu] at h0; simp at h0
    | some T =>
      rw [hu] at h0
      cases T with
      | bool =>
        simp only [Option.some.injEq] at h0
        subst h0
        obtain ⟨b, rfl, _⟩ := DataW.trod_bool hu h
        exact open_one (a := .s (.bool b)) (by simp [HasT]) (by simp [VR, gv]) rfl
      | int k =>
        simp only [Option.some.injEq] at h0
        subst h0
        obtain ⟨m, rfl, _, hw⟩ := DataW.trod_int hu h
        exact open_one (a := .s (.int k m)) (by simp [HasT, hw]) (by simp [VR, gv]) rfl
      | string =>
        simp only [Option.some.injEq] at h0
        subst h0
        obtain ⟨s, rfl, _, hs⟩ := DataW.trod_string hu h
        exact open_one (a := .s (.string s)) (by simp [HasT, hs]) (by simp [VR, gv]) rfl
      | slice e =>
        simp only at h0
        cases he : tyOf P n e with
        | none => rw [he] at h0; simp at h0
        | some l =>
          rw [he] at h0
          simp only at h0
          split at h0
          · rename_i hl
            simp only [Option.some.injEq] at h0
            subst h0
            rcases DataW.trod_slice hu h with ⟨rfl, _⟩ | ⟨a, len, cap, elems, rest, m, hm, rfl, _, hb, h1, h2, h3, h4, _, _⟩
            · refine open_one (a := .lst l.length true []) ?_ ?_ rfl
              · simp only [HasT]; exact ⟨true, [], rfl, fun _ => rfl, by simp, by simp⟩
              · simp only [VR]
                exact ⟨none, 0, rfl, by simp, by simp, rfl, fun _ => rfl, by simp, by simp⟩
            · have hm' : m = fuel := by omega
              subst hm'
              have cell : ∀ i, i < len → ∃ cs, Opened w l cs ∧ cs.length = P.cellsOf e ∧ ∀ j, j < P.cellsOf e → w.cell? ((a.add (i * P.cellsOf e)).add j) = cs[j]? := by
                intro i hi
                have hi' := h4 i hi
                rw [List.getElem?_eq_getElem (by omega), Option.bind_eq_some_iff] at hi'
                obtain ⟨cs, q1, q2⟩ := hi'
                have q3 := World.cells?_some q1
                exact ⟨cs, open_cells m n e l cs _ he q2, q3.2.1, q3.2.2⟩
              obtain ⟨b, off, spot⟩ := a
              have hsp : len ≠ 0 → spot = none := fun hn => by
                obtain ⟨cs, _, q2, q3⟩ := cell 0 (by omega)
                have q4 := q3 0 (by omega)
                rw [List.getElem?_eq_getElem (by omega)] at q4
                simpa [Addr.add] using World.cell?_spot q4
              by_cases hn : len = 0
              · subst hn
                refine open_one (a := .lst l.length false []) ?_ ?_ rfl
                · simp only [HasT]; exact ⟨false, [], rfl, fun _ => rfl, by simp, by simp⟩
                · simp only [VR]
                  exact ⟨_, cap, rfl, by simp, h2, rfl, by simp, by simp, by simp⟩
              · have hs := hsp hn
                subst hs
                obtain ⟨es, vs, k1, k2, k3, k4⟩ := open_es (w := w) (ts := l) (sz := P.cellsOf e) (b := b) hl.1 len off (fun i hi => by
                  obtain ⟨cs, q1, q2, q3⟩ := cell i hi
                  refine ⟨cs, q1, q2, fun j u hj => ?_⟩
                  have hjl := (List.getElem?_eq_some_iff.1 hj).1
                  have := q3 j (by omega)
                  rw [hj] at this
                  rw [← this, Go.WideShapes.add_plain, Go.WideShapes.add_plain])
                refine open_one (a := .lst l.length false es) ?_ ?_ rfl
                · simp only [HasT]; exact ⟨false, es, rfl, by simp, by omega, k2⟩
                · simp only [VR]
                  refine ⟨_, cap, by rw [k1], by omega, h2, rfl, by simp, fun e' he' => ⟨(k2 e' he').len, (k2 e' he').ok⟩, fun _ => ⟨b, off, vs, rfl, ?_, k3, k4⟩⟩
                  obtain ⟨cs, q1, q2, q3⟩ := cell 0 (by omega)
                  have q4 := q3 0 (by omega)
                  rw [List.getElem?_eq_getElem (by omega)] at q4
                  show b < w.heap.size
                  rw [Go.WideShapes.add_plain, Go.WideShapes.add_plain] at q4
                  exact cell_lt q4
          · simp at h0
      | struct fs =>
        simp only at h0
        cases he : tyFs (tyOf P n) P.cellsOf fs.toList 0 with
        | none => rw [he] at h0; simp at h0
        | some l =>
          rw [he] at h0
          simp only at h0
          split at h0
          · rename_i hl
            simp only [Option.some.injEq] at h0
            subst h0
            obtain ⟨xs, m, hm, _, h2, h3, h4⟩ := DataW.trod_struct hu h
            have hm' : m = fuel := by omega
            subst hm'
            have := open_fs (w := w) (P := P) (f := tyOf P n) (g := fun t cs' => ∃ y, DataW.trod enc P w base spare held m t cs' = some y) (cs := cs) (fun t ts cs' q1 ⟨y, q2⟩ => open_cells m n t ts cs' y q1 q2) fs.toList 0 l he (fun y hy => by
              obtain ⟨i, hi⟩ := List.getElem?_of_mem hy
              have hi2 : fs[i]? = some y := by simpa using hi
              have := h4 i y hi2
              have hlt : i < xs.length := by rw [h3]; exact (Array.getElem?_eq_some_iff.1 hi2).1
              rw [List.getElem?_eq_getElem hlt] at this
              exact ⟨_, this⟩)
            rw [List.drop_zero, hl, ← h2, List.take_length] at this
            exact this
          · simp at h0
      | _ => simp at h0
/-- A struct that comes in. -/
theorem open_agg {t : TypeId} {fs : Array Field} {r : Reach} {b : Nat} {v : Value} {d : DataW H} {ps : List MemPlace} {n : Nat} {ts : List Ty} (hu : P.underlying t = some (.struct fs)) (ht : tyOf P n t = some ts) (hval : Value.okWide P w r b t v)
    (hd : DataW.Trod enc P w base spare held t v d ps) : ∃ asl, HasTs ts asl ∧ VR (mu0 w) [] (.agg asl) v := by
  obtain ⟨cs, rfl, _⟩ := WideShapes.okWide_struct hu hval
  obtain ⟨fuel, hf⟩ := hd
  obtain ⟨asl, h1, h2, _⟩ := open_cells fuel n t ts _ _ ht hf
  exact ⟨asl, h1, by simp only [VR]; exact ⟨cs, rfl, h2⟩⟩
/-- What is one cell, and comes in. -/
theorem open_cell {t : TypeId} {v : Value} {d : DataW H} {ps : List MemPlace} {n : Nat} {ty : Ty} (hv : v.cells = #[v]) (ht : tyOf P n t = some [ty]) (hd : DataW.Trod enc P w base spare held t v d ps) : ∃ a, HasT ty a ∧ VR (mu0 w) [] a v := by
  obtain ⟨fuel, hf⟩ := hd
  rw [hv] at hf
  obtain ⟨asl, h1, h2, _⟩ := open_cells fuel n t [ty] _ _ ht hf
  simp only [HasTs] at h1
  obtain ⟨a, as', rfl, h1, rfl⟩ := h1
  simp only [VRs] at h2
  obtain ⟨v', vs', h3, h4, _⟩ := h2
  simp at h3
  exact ⟨a, h1, by rw [h3.1]; exact h4⟩
end
theorem wf_u8 {n : Int} (h : (Lit.int .u8 n).wf = true) : 0 ≤ n ∧ n ≤ 255 := by
  simp [Lit.wf, IntKind.min, IntKind.max, IntKind.signed, IntKind.bits] at h; omega
theorem wf_u16 {n : Int} (h : (Lit.int .u16 n).wf = true) : 0 ≤ n ∧ n ≤ 65535 := by
  simp [Lit.wf, IntKind.min, IntKind.max, IntKind.signed, IntKind.bits] at h; omega
theorem wf_u64 {n : Int} (h : (Lit.int .u64 n).wf = true) : 0 ≤ n ∧ n ≤ 18446744073709551615 := by
  simp [Lit.wf, IntKind.min, IntKind.max, IntKind.signed, IntKind.bits] at h; omega
theorem wf_i64 {n : Int} (h : (Lit.int .i64 n).wf = true) : -9223372036854775808 ≤ n ∧ n ≤ 9223372036854775807 := by
  simp [Lit.wf, IntKind.min, IntKind.max, IntKind.signed, IntKind.bits] at h; omega
/-- A slice whose elements open. -/
theorem has_list {α : Type} {ts : List Ty} {f : α → List AV} (hf : ∀ cs, HasTs ts cs → ∃ x, cs = f x) {a : AV} (h : HasT (.sl ts) a) : ∃ (l : List α) (b : Bool), a = .lst ts.length (b && l.isEmpty) (l.map f) := by
  simp only [HasT] at h
  obtain ⟨nil, es, rfl, hn, hm, he⟩ := h
  have : ∃ l : List α, es = l.map f := by
    clear hn hm
    induction es with
    | nil => exact ⟨[], rfl⟩
    | cons e es ih =>
      obtain ⟨x, hx⟩ := hf e (he e (by simp))
      obtain ⟨l, hl⟩ := ih (fun e' h' => he e' (by simp [h']))
      exact ⟨x :: l, by simp [hx, hl]⟩
  obtain ⟨l, rfl⟩ := this
  refine ⟨l, nil, ?_⟩
  cases nil with
  | false => rfl
  | true =>
    have : l = [] := by simpa using hn rfl
    subst this; rfl
end Go.AM

/- season: the example, arguments; SeasonAllows, SeasonRates. -/
namespace Go.AM
open Go.Proofs
set_option linter.unusedVariables false
set_option linter.unusedSimpArgs false
set_option linter.constructorNameAsVariable false
set_option maxRecDepth 20000
section
variable {β : Type} {P : Program} {T : Tab} {D : DTab} {N : Nat} {K : AV → Hp → Option β}
/-- A slice as a list. -/
abbrev SL {α : Type} (sz : Nat) (f : α → List AV) (b : Bool) (l : List α) : AV := .lst sz (b && l.isEmpty) (l.map f)
theorem F_slices_Clone_Allowance_val (l : List Allow) (b : Bool) (hl : l.length < 1000000) (h : Hp) : F_slices_Clone_Allowance [SL 4 encA b l] h = some (SL 4 encA b l, h) := by
  refine (F_slices_Clone_Allowance_run (v := if b && l.isEmpty then nilS else SL 4 encA b l) rfl ?_ h).trans ?_
  · by_cases hb : (b && l.isEmpty) = true
    · simp [f_slices_Clone_Allowance, hb]
    · have hb' : (b && l.isEmpty) = false := by simpa using hb
      have hle : l.length * 32 ≤ 140737488355328 := by omega
      have h2 : ((l.map encA).all fun e => e.length == 4) = true := by simp [encA]
      have h3 : okE false (l.map encA) = true := okE_map (by intro x; simp [encA])
      simp [f_slices_Clone_Allowance, hb', bsE, fillS, appE, readSl, hle, h2, ap]
      rw [cvt_whole rfl (by simp) (by simp) h3, SL, hb']
  · by_cases hb : (b && l.isEmpty) = true
    · obtain ⟨rfl, hl0⟩ := Bool.and_eq_true_iff.1 hb
      have : l = [] := by simpa using hl0
      subst this
      rfl
    · rw [if_neg hb]
      rfl
end
/-- Time. -/
structure TimeA where
  cls : Int
  alc : Int
  frm : Int
  to : Int
def encT (t : TimeA) : List AV := [I t.cls, I t.alc, I t.frm, I t.to]
theorem has_Time {cs : List AV} (h : HasTs [.int .i64, .int .i64, .int .i64, .int .i64] cs) : ∃ p : TimeA, cs = encT p := by
  simp only [HasTs, HasT] at h
  obtain ⟨_, _, rfl, ⟨a, rfl, _⟩, _, _, rfl, ⟨b, rfl, _⟩, _, _, rfl, ⟨c, rfl, _⟩, _, _, rfl, ⟨d, rfl, _⟩, rfl⟩ := h
  exact ⟨⟨a, b, c, d⟩, rfl⟩
theorem has_Allow {cs : List AV} (h : HasTs [.int .i64, .int .i64, .int .i64, .int .i64] cs) : ∃ p : Allow, cs = encA p := by
  simp only [HasTs, HasT] at h
  obtain ⟨_, _, rfl, ⟨a, rfl, _⟩, _, _, rfl, ⟨b, rfl, _⟩, _, _, rfl, ⟨c, rfl, _⟩, _, _, rfl, ⟨d, rfl, _⟩, rfl⟩ := h
  exact ⟨⟨a, b, c, d⟩, rfl⟩
theorem has_Allows {a : AV} (h : HasT (.sl [.int .i64, .int .i64, .int .i64, .int .i64]) a) : ∃ (l : List Allow) (b : Bool), a = SL 4 encA b l := has_list (fun _ h => has_Allow h) h
def shortB (f t : Int) : Bool := decide (t ≤ f) || decide (f < 0) || decide (100000 < t) || decide (t - f ≤ 800)
theorem F_law31_short_val (f t : Int) (h : Hp) : F_law31_short [I f, I t] h = some (B (shortB f t), h) := by
  refine F_law31_short_run rfl ?_ h
  unfold shortB
  by_cases h1 : t ≤ f
  · simp [f_law31_short, h1]
  by_cases h2 : f < 0
  · simp [f_law31_short, h1, h2]
  by_cases h3 : 100000 < t
  · simp [f_law31_short, h1, h2, h3]
  have w : IntKind.i64.wrap (t - f) = t - f := wrap64 (by omega) (by omega)
  simp [f_law31_short, h1, h2, h3, w]
abbrev exA : List Allow := [⟨0, 1, 1, 50⟩, ⟨31, 1, 2, 60⟩]
theorem F_law31_example_val (h : Hp) : F_law31_example [] h = some (.lst 4 false (exA.map encA), h) := by
  refine (F_law31_example_run (v := .lst 4 false (exA.map encA)) rfl ?_ h).trans rfl
  simp [f_law31_example, buildK, fillA, bsE, fillS, encA]
  try rfl
theorem ex_rate (d v m r : Int) (h0 : 0 ≤ d) (hv : versionL exA d = some v) (hm : Cal.Is d 1900 m (d - Cal.dn 1900 m + 1)) (hr : rateAt exA v 1 m = r) : rateOn exA 1 d = r := by
  unfold rateOn
  rw [hv]
  show rateAt exA v 1 (Cal.monthOf d) = r
  rw [hm.month_eq h0, hr]
theorem ex29 : rateOn exA 1 29 = 50 := ex_rate 29 0 1 50 (by decide) (by decide) ⟨by decide, by decide, by decide, by decide⟩ (by decide)
theorem ex30 : rateOn exA 1 30 = 50 := ex_rate 30 0 1 50 (by decide) (by decide) ⟨by decide, by decide, by decide, by decide⟩ (by decide)
theorem ex31 : rateOn exA 1 31 = 60 := ex_rate 31 31 2 60 (by decide) (by decide) ⟨by decide, by decide, by decide, by decide⟩ (by decide)
theorem ex32 : rateOn exA 1 32 = 60 := ex_rate 32 31 2 60 (by decide) (by decide) ⟨by decide, by decide, by decide, by decide⟩ (by decide)
theorem ex_sum : sumA exA 1 29 33 = 220 := by
  show sumN (rateOn exA 1) 29 4 = 220
  simp only [sumN]
  rw [show (29 : Int) + 1 = 30 from rfl, show (30 : Int) + 1 = 31 from rfl, show (31 : Int) + 1 = 32 from rfl, ex29, ex30, ex31, ex32]
  rfl
theorem ex_right : rightA exA = true := by decide
theorem F_law31_awake_val (h : Hp) : F_law31_awake [] h = some (B true, h) := by
  refine F_law31_awake_run rfl ?_ h
  have r1 : rateS exA 1 30 = (50, 0) := by unfold rateS; rw [ex_right, ex30]; rfl
  have r2 : rateS exA 1 31 = (60, 0) := by unfold rateS; rw [ex_right, ex31]; rfl
  have s1 : sumS exA 1 29 33 = (220, 0) := by unfold sumS; rw [ex_right, ex_sum]; rfl
  have a1 : allowedS exA 1 1000000 29 33 = (220, 0) := by unfold allowedS; rw [ex_right, ex_sum]; rfl
  have a2 : allowedS exA 1 10000 29 33 = (2, 0) := by unfold allowedS; rw [ex_right, ex_sum]; rfl
  have f1 := F_season_Rate_val exA false 1 30
  have f2 := F_season_Rate_val exA false 1 31
  have f3 := F_season_Sum_val exA false 1 29 33
  have f4 := F_season_Allowed_val exA false 1 1000000 29 33
  have f5 := F_season_Allowed_val exA false 1 10000 29 33
  rw [r1] at f1
  rw [r2] at f2
  rw [s1] at f3
  rw [a1] at f4
  rw [a2] at f5
  have fe := F_law31_example_val
  generalize exA.map encA = L at *
  simp [f_law31_awake, fe, f1, f2, f3, f4, f5, show IntKind.i64.wrap 0 = 0 from by kernel_rfl]
theorem G_slices_Clone_Allowance_val (l : List Allow) (b : Bool) (hl : l.length < 1000000) (h : Hp) (base : Nat) : G_slices_Clone_Allowance [SL 4 encA b l] h base = some (SL 4 encA b l, EF []) := (closedXD_val (F_slices_Clone_Allowance_val l b hl h) base).trans (by simp [idss, ids])
theorem G_season_Sum_val (l : List Allow) (b : Bool) (cls frm to : Int) (h : Hp) (base : Nat) : G_season_Sum [.lst 4 b (l.map encA), I cls, I frm, I to] h base = some (.tup [I (sumS l cls frm to).1, I (sumS l cls frm to).2], EF []) := (closedXD_val (F_season_Sum_val l b cls frm to h) base).trans (by simp [idss, ids])
theorem G_season_Allowed_val (l : List Allow) (b : Bool) (cls alc frm to : Int) (h : Hp) (base : Nat) : G_season_Allowed [.lst 4 b (l.map encA), I cls, I alc, I frm, I to] h base = some (.tup [I (allowedS l cls alc frm to).1, I (allowedS l cls alc frm to).2], EF []) := (closedXD_val (F_season_Allowed_val l b cls alc frm to h) base).trans (by simp [idss, ids])
theorem G_season_Rate_val (l : List Allow) (b : Bool) (cls day : Int) (h : Hp) (base : Nat) : G_season_Rate [.lst 4 b (l.map encA), I cls, I day] h base = some (.tup [I (rateS l cls day).1, I (rateS l cls day).2], EF []) := (closedXD_val (F_season_Rate_val l b cls day h) base).trans (by simp [idss, ids])
theorem G_season_Version_val (l : List Allow) (b : Bool) (day : Int) (h : Hp) (base : Nat) : G_season_Version [.lst 4 b (l.map encA), I day] h base = some (.tup [I (versionS l day).1, I (versionS l day).2], EF []) := (closedXD_val (F_season_Version_val l b day h) base).trans (by simp [idss, ids])
def fewA (n : Nat) : Bool := decide (n ≤ 20) || decide (n = 129)
theorem fewA_bd {n : Nat} (h : fewA n = true) : n ≤ 129 := by simp [fewA] at h; omega
set_option maxHeartbeats 1000000 in
theorem allows_law (l : List Allow) (b : Bool) (t : TimeA) : F_law31_SeasonAllows [SL 4 encA b l, .agg (encT t)] [] = some (B true, []) := by
  refine F_law31_SeasonAllows_run rfl ?_ []
  have ff := F_ref31_Few_val l (b && l.isEmpty)
  have fs := F_law31_short_val t.frm t.to
  change ∀ h, _ = some (B (fewA l.length), h) at ff
  cases hf : fewA l.length with
  | false => rw [hf] at ff; simp [f_law31_SeasonAllows, boxE, encT, F_law31_awake_val, ff]
  | true =>
    have hl := fewA_bd hf
    rw [hf] at ff
    cases hs : shortB t.frm t.to with
    | false => rw [hs] at fs; simp [f_law31_SeasonAllows, boxE, encT, F_law31_awake_val, ff, fs]
    | true =>
      rw [hs] at fs
      have c1 := F_slices_Clone_Allowance_val l b (by omega)
      have c0 := G_slices_Clone_Allowance_val l b (by omega)
      have s1 := G_season_Sum_val l (b && l.isEmpty) t.cls t.frm t.to
      have s2 := F_ref31_Sum_val l (b && l.isEmpty) t.cls t.frm t.to
      have a1 := G_season_Allowed_val l (b && l.isEmpty) t.cls t.alc t.frm t.to
      have a2 := F_ref31_Allowed_val l (b && l.isEmpty) t.cls t.alc t.frm t.to
      simp [f_law31_SeasonAllows, boxE, encT, F_law31_awake_val, ff, fs, c0, s1, s2, a1, a2, disjAll, disj2, wrOf, ap, idsOf, EF]
theorem rates_law (l : List Allow) (b : Bool) (cls day : Int) : F_law31_SeasonRates [SL 4 encA b l, I cls, I day] [] = some (B true, []) := by
  refine F_law31_SeasonRates_run rfl ?_ []
  have ff := F_ref31_Few_val l (b && l.isEmpty)
  change ∀ h, _ = some (B (fewA l.length), h) at ff
  cases hf : fewA l.length with
  | false => rw [hf] at ff; simp [f_law31_SeasonRates, F_law31_awake_val, ff]
  | true =>
    have hl := fewA_bd hf
    rw [hf] at ff
    have c1 := F_slices_Clone_Allowance_val l b (by omega)
    have s1 := F_season_Check_val l (b && l.isEmpty)
    have s2 := F_ref31_Check_val l (b && l.isEmpty)
    have a1 := F_season_Version_val l (b && l.isEmpty) day
    have a2 := F_ref31_VersionChecked_val l (b && l.isEmpty) day
    have b1 := F_season_Rate_val l (b && l.isEmpty) cls day
    have b2 := F_ref31_Rate_val l (b && l.isEmpty) cls day
    simp [f_law31_SeasonRates, F_law31_awake_val, ff, c1, s1, s2, a1, a2, b1, b2]
end Go.AM

/- season: SeasonParts, SeasonBounded. -/
namespace Go.AM
open Go.Proofs
set_option linter.unusedVariables false
set_option linter.unusedSimpArgs false
set_option linter.constructorNameAsVariable false
set_option maxRecDepth 20000
theorem sumS_ok {l : List Allow} {cls frm to : Int} (h : (sumS l cls frm to).2 = 0) : rightA l = true ∧ win cls 1 9 = true ∧ (0 ≤ frm ∧ frm ≤ 100000) ∧ (0 ≤ to ∧ to ≤ 100000) ∧ frm ≤ to ∧ sumS l cls frm to = (sumA l cls frm to, 0) := by
  unfold sumS at h ⊢
  cases hr : rightA l with
  | false => rw [hr] at h; simp at h
  | true =>
    rw [hr] at h
    cases hw : (win cls 1 9 && win frm 0 100000 && win to 0 100000) with
    | false => rw [hw] at h; simp at h
    | true =>
      rw [hw] at h
      simp only [Bool.and_eq_true] at hw
      have w2 := hw.1.2
      have w3 := hw.2
      simp only [win, Bool.and_eq_true, decide_eq_true_eq] at w2 w3
      by_cases hc : to < frm
      · simp [hc] at h
      · exact ⟨rfl, hw.1.1, by omega, by omega, by omega, by simp [hc]⟩
theorem sumS_err {l : List Allow} {cls frm to : Int} (h : (sumS l cls frm to).2 ≠ 0) : (sumS l cls frm to).1 = 0 := by
  unfold sumS at h ⊢
  split
  · rfl
  · split
    · rfl
    · split
      · rfl
      · rename_i h1 h2 h3; simp [h1, h2, h3] at h
theorem sumS_of {l : List Allow} {cls frm to : Int} (h1 : rightA l = true) (h2 : win cls 1 9 = true) (h3 : 0 ≤ frm ∧ frm ≤ 100000) (h4 : 0 ≤ to ∧ to ≤ 100000) (h5 : frm ≤ to) : sumS l cls frm to = (sumA l cls frm to, 0) := by
  have w1 : win frm 0 100000 = true := by simp [win]; omega
  have w2 : win to 0 100000 = true := by simp [win]; omega
  unfold sumS
  rw [h1, h2, w1, w2]
  simp
  omega
theorem rateS_of {l : List Allow} {cls day : Int} (h1 : rightA l = true) (h2 : win cls 1 9 = true) (h3 : 0 ≤ day ∧ day ≤ 100000) : rateS l cls day = (rateOn l cls day, 0) := by
  have w1 : win day 0 100000 = true := by simp [win]; omega
  unfold rateS
  rw [h1, h2, w1]
  simp
theorem sumA_split (l : List Allow) (cls frm mid to : Int) (h1 : frm ≤ mid) (h2 : mid ≤ to) : sumA l cls frm to = sumA l cls frm mid + sumA l cls mid to := by
  unfold sumA
  have e : (to - frm).toNat = (mid - frm).toNat + (to - mid).toNat := by omega
  rw [e, sumN_add]
  congr 2
  omega
theorem sumA_one (l : List Allow) (cls day : Int) : sumA l cls day (day + 1) = rateOn l cls day := by
  unfold sumA
  have e : (day + 1 - day).toNat = 1 := by omega
  rw [e]
  simp [sumN]
set_option maxHeartbeats 1000000 in
theorem parts_law (l : List Allow) (b : Bool) (t : TimeA) (day : Int) : F_law31_SeasonParts [SL 4 encA b l, .agg (encT t), I day] [] = some (B true, []) := by
  refine F_law31_SeasonParts_run rfl ?_ []
  have ff := F_ref31_Few_val l (b && l.isEmpty)
  have fs := F_law31_short_val t.frm t.to
  change ∀ h, _ = some (B (fewA l.length), h) at ff
  cases hf : fewA l.length with
  | false => rw [hf] at ff; simp [f_law31_SeasonParts, boxE, encT, F_law31_awake_val, ff]
  | true =>
    have hl := fewA_bd hf
    rw [hf] at ff
    cases hs : shortB t.frm t.to with
    | false => rw [hs] at fs; simp [f_law31_SeasonParts, boxE, encT, F_law31_awake_val, ff, fs]
    | true =>
      rw [hs] at fs
      have c0 := G_slices_Clone_Allowance_val l b (by omega)
      have s1 := G_season_Sum_val l (b && l.isEmpty) t.cls t.frm t.to
      by_cases he : (sumS l t.cls t.frm t.to).2 = 0
      · obtain ⟨k1, k2, k3, k4, k5, k6⟩ := sumS_ok he
        rw [k6] at s1
        by_cases d1 : day < t.frm
        · simp [f_law31_SeasonParts, boxE, encT, F_law31_awake_val, ff, fs, c0, s1, d1, disjAll, disj2, wrOf, ap, idsOf, EF]
        by_cases d2 : t.to ≤ day
        · simp [f_law31_SeasonParts, boxE, encT, F_law31_awake_val, ff, fs, c0, s1, d1, d2, disjAll, disj2, wrOf, ap, idsOf, EF]
        have s2 := G_season_Sum_val l (b && l.isEmpty) t.cls t.frm day
        have s3 := G_season_Sum_val l (b && l.isEmpty) t.cls (day + 1) t.to
        have s4 := G_season_Rate_val l (b && l.isEmpty) t.cls day
        have w1 : IntKind.i64.wrap (day + 1) = day + 1 := wrap64 (by omega) (by omega)
        rw [sumS_of k1 k2 k3 (by omega) (by omega)] at s2
        rw [sumS_of k1 k2 (by omega) k4 (by omega)] at s3
        rw [rateS_of k1 k2 (by omega)] at s4
        obtain ⟨g1, g2, g3⟩ := rightA_ok k1
        have hr := rateOn_bd g2 t.cls day
        have b1 := sumA_bd g2 t.cls t.frm day (by omega)
        have b2 := sumA_bd g2 t.cls (day + 1) t.to (by omega)
        have e1 := sumA_split l t.cls t.frm day t.to (by omega) (by omega)
        have e2 := sumA_split l t.cls day (day + 1) t.to (by omega) (by omega)
        rw [sumA_one] at e2
        rw [e2] at e1
        rw [e1] at s1
        generalize sumA l t.cls t.frm day = x1 at *
        generalize sumA l t.cls (day + 1) t.to = x2 at *
        generalize rateOn l t.cls day = r at *
        have w2 : IntKind.i64.wrap (x1 + r) = x1 + r := wrap64 (by omega) (by omega)
        have w3 : IntKind.i64.wrap (x1 + r + x2) = x1 + (r + x2) := by rw [wrap64 (by omega) (by omega)]; omega
        have r1 : 0 ≤ r := hr.1
        have r2 : r ≤ 10000 := hr.2
        simp [f_law31_SeasonParts, boxE, encT, F_law31_awake_val, ff, fs, c0, s1, s2, s3, s4, d1, d2, w1, w2, w3, r1, r2, disjAll, disj2, wrOf, ap, idsOf, EF]
      · have hz := sumS_err he
        have he' : ((sumS l t.cls t.frm t.to).2 == 0) = false := by simpa using he
        simp [f_law31_SeasonParts, boxE, encT, F_law31_awake_val, ff, fs, c0, s1, hz, he, he', disjAll, disj2, wrOf, ap, idsOf, EF]
end Go.AM

/- season: SeasonBounded. -/
namespace Go.AM
open Go.Proofs
set_option linter.unusedVariables false
set_option linter.unusedSimpArgs false
set_option linter.constructorNameAsVariable false
set_option maxRecDepth 20000
def alw (alc s : Int) : Int := min (alc * s / 1000000) alc
theorem allowedS_ok {l : List Allow} {cls alc frm to : Int} (h : (allowedS l cls alc frm to).2 = 0) : rightA l = true ∧ win cls 1 9 = true ∧ (0 ≤ frm ∧ frm ≤ 100000) ∧ (0 ≤ to ∧ to ≤ 100000) ∧ frm ≤ to ∧ (0 ≤ alc ∧ alc ≤ 10737418240000) ∧ allowedS l cls alc frm to = (alw alc (sumA l cls frm to), 0) := by
  unfold allowedS at h ⊢
  cases hr : rightA l with
  | false => rw [hr] at h; simp at h
  | true =>
    rw [hr] at h
    cases hw : (win cls 1 9 && win frm 0 100000 && win to 0 100000 && win alc 0 10737418240000) with
    | false => rw [hw] at h; simp at h
    | true =>
      rw [hw] at h
      simp only [Bool.and_eq_true] at hw
      have w2 := hw.1.1.2
      have w3 := hw.1.2
      have w4 := hw.2
      simp only [win, Bool.and_eq_true, decide_eq_true_eq] at w2 w3 w4
      by_cases hc : to < frm
      · simp [hc] at h
      · exact ⟨rfl, hw.1.1.1, by omega, by omega, by omega, by omega, by simp [hc, alw]⟩
theorem allowedS_err {l : List Allow} {cls alc frm to : Int} (h : (allowedS l cls alc frm to).2 ≠ 0) : (allowedS l cls alc frm to).1 = 0 := by
  unfold allowedS at h ⊢
  split
  · rfl
  · split
    · rfl
    · split
      · rfl
      · rename_i h1 h2 h3; simp [h1, h2, h3] at h
theorem allowedS_of {l : List Allow} {cls alc frm to : Int} (h1 : rightA l = true) (h2 : win cls 1 9 = true) (h3 : 0 ≤ frm ∧ frm ≤ 100000) (h4 : 0 ≤ to ∧ to ≤ 100000) (h5 : frm ≤ to) (h6 : 0 ≤ alc ∧ alc ≤ 10737418240000) : allowedS l cls alc frm to = (alw alc (sumA l cls frm to), 0) := by
  have w1 : win frm 0 100000 = true := by simp [win]; omega
  have w2 : win to 0 100000 = true := by simp [win]; omega
  have w3 : win alc 0 10737418240000 = true := by simp [win]; omega
  unfold allowedS alw
  rw [h1, h2, w1, w2, w3]
  simp
  omega
theorem alw_bd {alc s : Int} (h1 : 0 ≤ alc) (h2 : 0 ≤ s) : 0 ≤ alw alc s ∧ alw alc s ≤ alc := by
  unfold alw
  have : 0 ≤ alc * s / 1000000 := Int.ediv_nonneg (Int.mul_nonneg h1 h2) (by omega)
  omega
theorem alw_add {a b s : Int} (h1 : 0 ≤ a) (h2 : 0 ≤ b) (h3 : 0 ≤ s) : alw a s + alw b s ≤ alw (a + b) s := by
  unfold alw
  rw [Int.add_mul]
  generalize a * s = p
  generalize b * s = q
  omega
theorem alw_mono {a s s' : Int} (h1 : 0 ≤ a) (h2 : s ≤ s') : alw a s ≤ alw a s' := by
  unfold alw
  have := Int.mul_le_mul_of_nonneg_left h2 h1
  generalize a * s = p at *
  generalize a * s' = q at *
  omega
set_option maxHeartbeats 8000000 in
theorem bounded_law (l : List Allow) (b : Bool) (t : TimeA) (part : Int) (hp : 0 ≤ part ∧ part ≤ 65535) : F_law31_SeasonBounded [SL 4 encA b l, .agg (encT t), .s (.int .u16 part)] [] = some (B true, []) := by
  refine F_law31_SeasonBounded_run rfl ?_ []
  have ff := F_ref31_Few_val l (b && l.isEmpty)
  have fs := F_law31_short_val t.frm t.to
  change ∀ h, _ = some (B (fewA l.length), h) at ff
  cases hf : fewA l.length with
  | false => rw [hf] at ff; simp (maxSteps := 10000000) [f_law31_SeasonBounded, boxE, encT, F_law31_awake_val, ff]
  | true =>
    have hl := fewA_bd hf
    rw [hf] at ff
    cases hs : shortB t.frm t.to with
    | false => rw [hs] at fs; simp (maxSteps := 10000000) [f_law31_SeasonBounded, boxE, encT, F_law31_awake_val, ff, fs]
    | true =>
      rw [hs] at fs
      have c0 := G_slices_Clone_Allowance_val l b (by omega)
      have s1 := G_season_Allowed_val l (b && l.isEmpty) t.cls t.alc t.frm t.to
      have cw : ∀ k : Go.AM.K AV, convK Try.prog 38 3 (.s (.int .u16 part)) k = k (I part) := fun k => by rw [convK_int un_38 un_3, wrap64 (by omega) (by omega)]
      by_cases he : (allowedS l t.cls t.alc t.frm t.to).2 = 0
      · obtain ⟨k1, k2, k3, k4, k5, k6, k7⟩ := allowedS_ok he
        rw [k7] at s1
        obtain ⟨g1, g2, g3⟩ := rightA_ok k1
        have w1 : IntKind.i64.wrap (1 + part) = 1 + part := wrap64 (by omega) (by omega)
        have q1 := fun k : Go.AM.K AV => reck_quoZ (P := Try.prog) (ty := 3) t.alc (1 + part) (by omega) (by omega) (by omega) k
        have hq : 0 ≤ t.alc / (1 + part) ∧ t.alc / (1 + part) ≤ t.alc := ⟨Int.ediv_nonneg (by omega) (by omega), Int.ediv_le_self _ (by omega)⟩
        generalize t.alc / (1 + part) = y at *
        have w2 : IntKind.i64.wrap (t.alc - y) = t.alc - y := wrap64 (by omega) (by omega)
        have w3 : IntKind.i64.wrap (t.to - t.frm) = t.to - t.frm := wrap64 (by omega) (by omega)
        have w4 : IntKind.i64.wrap (t.to - t.frm + 1) = t.to - t.frm + 1 := wrap64 (by omega) (by omega)
        have q2 := fun k : Go.AM.K AV => reck_remZ (P := Try.prog) (ty := 3) part (t.to - t.frm + 1) (by omega) (by omega) k
        have hm1 := Int.emod_nonneg part (show t.to - t.frm + 1 ≠ 0 by omega)
        have hm2 := Int.emod_lt_of_pos part (show 0 < t.to - t.frm + 1 by omega)
        generalize part % (t.to - t.frm + 1) = m at *
        have w5 : IntKind.i64.wrap (t.frm + m) = t.frm + m := wrap64 (by omega) (by omega)
        have s2 := G_season_Allowed_val l (b && l.isEmpty) t.cls y t.frm t.to
        have s3 := G_season_Allowed_val l (b && l.isEmpty) t.cls (t.alc - y) t.frm t.to
        have s4 := G_season_Allowed_val l (b && l.isEmpty) t.cls t.alc t.frm (t.frm + m)
        rw [allowedS_of k1 k2 k3 k4 k5 (by omega)] at s2 s3
        rw [allowedS_of k1 k2 k3 (by omega) (by omega) k6] at s4
        have e1 := sumA_split l t.cls t.frm (t.frm + m) t.to (by omega) (by omega)
        have b1 := sumA_bd g2 t.cls t.frm (t.frm + m) (by omega)
        have b2 := sumA_bd g2 t.cls (t.frm + m) t.to (by omega)
        have b3 := sumA_bd g2 t.cls t.frm t.to (by omega)
        have x1 := alw_bd k6.1 b3.1
        have x2 := alw_bd hq.1 b3.1
        have x3 := alw_bd (show 0 ≤ t.alc - y by omega) b3.1
        have x4 := alw_mono k6.1 (show sumA l t.cls t.frm (t.frm + m) ≤ sumA l t.cls t.frm t.to by omega)
        have x5 := alw_add hq.1 (show 0 ≤ t.alc - y by omega) b3.1
        rw [show y + (t.alc - y) = t.alc by omega] at x5
        generalize alw t.alc (sumA l t.cls t.frm t.to) = v1 at *
        generalize alw y (sumA l t.cls t.frm t.to) = v2 at *
        generalize alw (t.alc - y) (sumA l t.cls t.frm t.to) = v3 at *
        generalize alw t.alc (sumA l t.cls t.frm (t.frm + m)) = v4 at *
        have w6 : IntKind.i64.wrap (v2 + v3) = v2 + v3 := wrap64 (by omega) (by omega)
        have i1 : ¬ t.to < t.frm := by omega
        have i2 : ¬ v1 < 0 := by omega
        have i3 : ¬ t.alc < v1 := by omega
        have i4 : ¬ v2 < 0 := by omega
        have i5 : ¬ v1 < v2 := by omega
        have i6 : ¬ v1 < v2 + v3 := by omega
        clear b1 b2 b3 e1 x1 x2 x3 x5 k1 k2 k3 k4 k5 k6 k7 g1 g2 g3 he hq hm1 hm2
        simp (maxSteps := 10000000) [f_law31_SeasonBounded, boxE, encT, F_law31_awake_val, ff, fs, c0, s1, s2, s3, s4, cw, w1, w2, w3, w4, w5, w6, q1, q2, i1, i2, i3, i4, i5, i6, x4, disjAll, disj2, wrOf, ap, idsOf, EF]
      · have hz := allowedS_err he
        have he' : ((allowedS l t.cls t.alc t.frm t.to).2 == 0) = false := by simpa using he
        simp (maxSteps := 10000000) [f_law31_SeasonBounded, boxE, encT, F_law31_awake_val, ff, fs, c0, s1, hz, he, he', disjAll, disj2, wrOf, ap, idsOf, EF]
end Go.AM

/- season: SeasonFound. -/
namespace Go.AM
open Go.Proofs
set_option linter.unusedVariables false
set_option linter.unusedSimpArgs false
set_option linter.constructorNameAsVariable false
set_option maxRecDepth 20000
section
variable {β : Type} {P : Program} {T : Tab} {D : DTab} {N : Nat} {K : AV → Hp → Option β}
theorem IndexFunc_Allowance_L2 {x0 : Hp → Option β} {xr : AV → Hp → Option β} {l : List Allow} {b : Bool} {fv : AV} {h : Hp} {p : Allow → Bool} (hl : l.length < 4611686018427387904) (hp : ∀ x ∈ l, ∀ k : AV → Hp → Option β, callVK T fv [.agg (encA x)] h k = k (B (p x)) h) :
    ∀ (n i : Nat), i ≤ l.length → l.length < i + n → f_slices_IndexFunc_Allowance_L2 P T D N x0 xr n (.lst 4 b (l.map encA)) fv (I l.length) (I i) h = match (l.drop i).findIdx? p with | some j => xr (I ((i + j : Nat) : Int)) h | none => x0 h := by
  intro n
  induction n with
  | zero => intro i h1 h2; omega
  | succ n ih =>
    intro i h1 h2
    show f_slices_IndexFunc_Allowance_b2 P T D N (f_slices_IndexFunc_Allowance_L2 P T D N x0 xr n) x0 xr _ _ _ _ h = _
    unfold f_slices_IndexFunc_Allowance_b2
    rcases Nat.lt_or_ge i l.length with hi | hi
    · have hx : l[i]? = some l[i] := List.getElem?_eq_getElem hi
      have hlt : ((i : Int) < (l.length : Int)) := by omega
      have hw : IntKind.i64.wrap ((i : Int) + 1) = ((i + 1 : Nat) : Int) := by rw [wrap64 (by omega) (by omega)]; omega
      have hpx := hp l[i] (List.getElem_mem hi)
      rw [List.drop_eq_getElem_cons hi, List.findIdx?_cons]
      simp [hlt, hx, hw, encA] at hpx ⊢
      rw [hpx]
      cases hc : p l[i] with
      | true => simp
      | false =>
        have h3 := ih (i + 1) hi (by omega)
        rw [show ((i : Int) + 1) = ((i + 1 : Nat) : Int) by omega]
        simp only [Bool.false_eq_true, if_false]
        refine h3.trans ?_
        cases (List.drop (i + 1) l).findIdx? p with
        | none => rfl
        | some j =>
          show xr (I ((i + 1 + j : Nat) : Int)) h = xr (I ((i + (j + 1) : Nat) : Int)) h
          rw [show i + 1 + j = i + (j + 1) by omega]
    · have : i = l.length := by omega
      subst this
      simp
theorem IndexFunc_Allowance_K {l : List Allow} {b : Bool} {fv : AV} {h : Hp} {p : Allow → Bool} {K : AV → Hp → Option β} (hl : l.length < N) (hN : N < 4611686018427387904) (hp : ∀ x ∈ l, ∀ k : AV → Hp → Option β, callVK T fv [.agg (encA x)] h k = k (B (p x)) h) :
    f_slices_IndexFunc_Allowance P T D N K (.lst 4 b (l.map encA)) fv h = K (I (match l.findIdx? p with | some j => (j : Int) | none => -1)) h := by
  unfold f_slices_IndexFunc_Allowance
  simp only [lenK_lst, List.length_map]
  have := IndexFunc_Allowance_L2 (P := P) (D := D) (N := N) (b := b) (x0 := fun h => f_slices_IndexFunc_Allowance_j1 P T D N K h) (xr := fun a h => K a h) (by omega) hp N 0 (Nat.zero_le _) (by omega)
  simp only [List.drop_zero] at this
  refine this.trans ?_
  cases l.findIdx? p with
  | none => rfl
  | some j => simp
end
theorem F_Contains_Allow {l : List Allow} {b : Bool} {fv : AV} {h : Hp} {p : Allow → Bool} (hl : l.length < 1000000) (hp : ∀ x ∈ l, ∀ k : AV → Hp → Option (AV × Hp), callVK t_slices_IndexFunc_Allowance__x0 fv [.agg (encA x)] h k = k (B (p x)) h) :
    F_slices_ContainsFunc_Allowance__x0 [.lst 4 b (l.map encA), fv] h = some (B (l.any p), h) := by
  have e : F_slices_IndexFunc_Allowance__x0 [.lst 4 b (l.map encA), fv] h = some (I (match l.findIdx? p with | some j => (j : Int) | none => -1), h) := by
    refine F_slices_IndexFunc_Allowance__x0_q (g := []) ?_ rfl
    rw [List.append_nil, IndexFunc_Allowance_K (p := p) (by have := NN_ge; omega) NN_lt hp]
  refine F_slices_ContainsFunc_Allowance__x0_q (g := []) ?_ rfl
  have : l.any p = (l.findIdx? p).isSome := by rw [List.findIdx?_isSome]
  rw [this]
  simp only [f_slices_ContainsFunc_Allowance, t_slices_ContainsFunc_Allowance__x0_47, callK_F, e]
  cases l.findIdx? p <;> simp
theorem F_Found_1 (l : List Allow) (b : Bool) (hl : l.length < 1000000) (day : Int) (i : Nat) {h : Hp} (h1 : h[i]? = some (.arr 1 [[I day]] true false)) : F_slices_ContainsFunc_Allowance__x0 [.lst 4 b (l.map encA), .fn 25 [.ptr i 0 0 1]] h = some (B (l.any fun x => decide (x.frm ≤ day)), h) := by
  refine F_Contains_Allow hl fun x _ k => ?_
  have : F_law31_SeasonFound_1 [.agg (encA x), .ptr i 0 0 1] h = some (B (decide (x.frm ≤ day)), h) := by
    refine F_law31_SeasonFound_1_q (g := [.arr 4 [encA x] true false]) ?_ rfl
    have h1' := get_app (g := [.arr 4 [encA x] true false]) h1
    simp only [encA] at h1'
    simp [f_law31_SeasonFound_1, boxE, encA, h1']
  simp [this]
theorem F_Found_2 (l : List Allow) (b : Bool) (hl : l.length < 1000000) (v : Int) (i : Nat) {h : Hp} (h1 : h[i]? = some (.arr 1 [[I v]] true false)) : F_slices_ContainsFunc_Allowance__x0 [.lst 4 b (l.map encA), .fn 26 [.ptr i 0 0 1]] h = some (B (l.any fun x => x.frm == v), h) := by
  refine F_Contains_Allow hl fun x _ k => ?_
  have : F_law31_SeasonFound_2 [.agg (encA x), .ptr i 0 0 1] h = some (B (x.frm == v), h) := by
    refine F_law31_SeasonFound_2_q (g := [.arr 4 [encA x] true false]) ?_ rfl
    have h1' := get_app (g := [.arr 4 [encA x] true false]) h1
    simp only [encA] at h1'
    simp [f_law31_SeasonFound_2, boxE, encA, h1']
  simp [this]
theorem F_Found_3 (l : List Allow) (b : Bool) (hl : l.length < 1000000) (v day : Int) (i j : Nat) {h : Hp} (h1 : h[i]? = some (.arr 1 [[I v]] true false)) (h2 : h[j]? = some (.arr 1 [[I day]] true false)) : F_slices_ContainsFunc_Allowance__x0 [.lst 4 b (l.map encA), .fn 27 [.ptr i 0 0 1, .ptr j 0 0 1]] h = some (B (l.any fun x => decide (v < x.frm) && decide (x.frm ≤ day)), h) := by
  refine F_Contains_Allow hl fun x _ k => ?_
  have : F_law31_SeasonFound_3 [.agg (encA x), .ptr i 0 0 1, .ptr j 0 0 1] h = some (B (decide (v < x.frm) && decide (x.frm ≤ day)), h) := by
    refine F_law31_SeasonFound_3_q (g := [.arr 4 [encA x] true false]) ?_ rfl
    have h1' := get_app (g := [.arr 4 [encA x] true false]) h1
    have h2' := get_app (g := [.arr 4 [encA x] true false]) h2
    simp only [encA] at h1' h2'
    by_cases c : v < x.frm <;> simp [f_law31_SeasonFound_3, boxE, encA, h1', h2', c]
  simp [this]
theorem F_Found_4 (l : List Allow) (b : Bool) (hl : l.length < 1000000) (v cls r : Int) (i j m : Nat) {h : Hp} (h1 : h[i]? = some (.arr 1 [[I v]] true false)) (h2 : h[j]? = some (.arr 1 [[I cls]] true false)) (h3 : h[m]? = some (.arr 1 [[I r]] true false)) : F_slices_ContainsFunc_Allowance__x0 [.lst 4 b (l.map encA), .fn 28 [.ptr i 0 0 1, .ptr j 0 0 1, .ptr m 0 0 1]] h = some (B (l.any fun x => x.frm == v && (x.cls == cls) && (x.rate == r)), h) := by
  refine F_Contains_Allow hl fun x _ k => ?_
  have : F_law31_SeasonFound_4 [.agg (encA x), .ptr i 0 0 1, .ptr j 0 0 1, .ptr m 0 0 1] h = some (B (x.frm == v && (x.cls == cls) && (x.rate == r)), h) := by
    refine F_law31_SeasonFound_4_q (g := [.arr 4 [encA x] true false]) ?_ rfl
    have h1' := get_app (g := [.arr 4 [encA x] true false]) h1
    have h2' := get_app (g := [.arr 4 [encA x] true false]) h2
    have h3' := get_app (g := [.arr 4 [encA x] true false]) h3
    simp only [encA] at h1' h2' h3'
    cases c : (x.frm == v) <;> cases d : (x.cls == cls) <;> simp [f_law31_SeasonFound_4, boxE, encA, h1', h2', h3', c, d]
  simp [this]
theorem versionL_none {l : List Allow} (hs : l.Pairwise (fun a b => ltA a b = true)) {day : Int} (h : versionL l day = none) : ∀ a ∈ l, ¬ a.frm ≤ day := by
  intro a ha
  obtain ⟨j, hj, rfl⟩ := List.getElem_of_mem ha
  have hu : upto l day = 0 := by
    unfold versionL at h
    rw [Option.map_eq_none_iff, List.getLast?_eq_none_iff, List.take_eq_nil_iff] at h
    rcases h with h | h
    · exact h
    · subst h; simp at hj
  have := upto_get hs day (List.getElem?_eq_getElem hj)
  rw [hu] at this
  simpa using this
theorem versionL_some {l : List Allow} (hs : l.Pairwise (fun a b => ltA a b = true)) {day v : Int} (h : versionL l day = some v) : (∃ a ∈ l, a.frm = v) ∧ v ≤ day ∧ ∀ a ∈ l, a.frm ≤ day → a.frm ≤ v := by
  unfold versionL at h
  obtain ⟨c, hc, rfl⟩ := Option.map_eq_some_iff.1 h
  have hu := upto_le l day
  have h0 : upto l day ≠ 0 := fun e => by rw [e] at hc; simp at hc
  have hj : upto l day - 1 < l.length := by omega
  have hcj : l[upto l day - 1]? = some c := by
    rw [List.getLast?_eq_getElem?, List.length_take, Nat.min_eq_left hu, List.getElem?_take] at hc
    simpa [show upto l day - 1 < upto l day by omega] using hc
  have hcd := upto_get hs day hcj
  rw [decide_eq_true (show upto l day - 1 < upto l day by omega)] at hcd
  refine ⟨⟨c, List.mem_of_getElem? hcj, rfl⟩, by simpa using hcd, ?_⟩
  intro a ha hd
  obtain ⟨k, hk, rfl⟩ := List.getElem_of_mem ha
  have := upto_get hs day (List.getElem?_eq_getElem hk)
  rw [decide_eq_true hd] at this
  have hkl : k < upto l day := of_decide_eq_true this.symm
  by_cases e : k = upto l day - 1
  · subst e
    rw [List.getElem?_eq_getElem hk] at hcj
    rw [Option.some.inj hcj]
    exact Int.le_refl _
  · have := List.pairwise_iff_getElem.1 hs k (upto l day - 1) hk hj (by omega)
    obtain ⟨_, e2⟩ := List.getElem?_eq_some_iff.1 hcj
    rw [e2] at this
    exact ltA_frm this
theorem rateAt_found {l : List Allow} {v cls mon : Int} (h : rateAt l v cls mon ≠ 0) : ∃ a ∈ l, a.frm = v ∧ a.cls = cls ∧ a.rate = rateAt l v cls mon := by
  unfold rateAt at h ⊢
  cases hf : l.find? (fun a => decide (a.frm = v ∧ a.cls = cls ∧ a.mon = mon)) with
  | none => rw [hf] at h; simp at h
  | some a =>
    have h1 := List.find?_some hf
    have h2 := List.mem_of_find?_eq_some hf
    simp at h1
    exact ⟨a, h2, h1.1, h1.2.1, rfl⟩
set_option maxHeartbeats 4000000 in
theorem found_law (l : List Allow) (b : Bool) (cls day : Int) : F_law31_SeasonFound [SL 4 encA b l, I cls, I day] [] = some (B true, []) := by
  refine F_law31_SeasonFound_run rfl ?_ []
  have ff := F_ref31_Few_val l (b && l.isEmpty)
  change ∀ h, _ = some (B (fewA l.length), h) at ff
  cases hf : fewA l.length with
  | false => rw [hf] at ff; simp (maxSteps := 10000000) [f_law31_SeasonFound, boxE, F_law31_awake_val, ff]
  | true =>
    have hl := fewA_bd hf
    rw [hf] at ff
    have c0 := G_slices_Clone_Allowance_val l b (by omega)
    have s1 := G_season_Version_val l (b && l.isEmpty) day
    have s2 := G_season_Rate_val l (b && l.isEmpty) cls day
    have run : ∀ v e r f : Int, versionS l day = (v, e) → rateS l cls day = (r, f) →
        (e = 7 → r = 0 ∧ ∀ a ∈ l, ¬ a.frm ≤ day) → (e ≠ 7 → e ≠ 0 → v = 0 ∧ f = e ∧ r = 0) → (e = 0 → (∃ a ∈ l, a.frm = v) ∧ v ≤ day ∧ (∀ a ∈ l, a.frm ≤ day → a.frm ≤ v) ∧ (r ≠ 0 → ∃ a ∈ l, a.frm = v ∧ a.cls = cls ∧ a.rate = r)) →
        f_law31_SeasonFound Try.prog t_law31_SeasonFound d_law31_SeasonFound NN (fun v g => cvt false g v) (.lst 4 (b && l.isEmpty) (l.map encA)) (I cls) (I day) [] = some (B true) := by
      intro v e r f hv hr k1 k2 k3
      rw [hv] at s1
      rw [hr] at s2
      by_cases e7 : e = 7
      · obtain ⟨rfl, ha⟩ := k1 e7
        subst e7
        have f1 := F_Found_1 l (b && l.isEmpty) (by omega) day 1 (h := [.arr 1 [[I cls]] true false, .arr 1 [[I day]] true false, .arr 1 [[I v]] true false, .arr 1 [[I 0]] true false]) rfl
        rw [show (l.any fun x => decide (x.frm ≤ day)) = false by simpa using ha] at f1
        simp (maxSteps := 10000000) [f_law31_SeasonFound, boxE, F_law31_awake_val, ff, c0, s1, s2, f1, disjAll, disj2, wrOf, ap, idsOf, EF, stE]
      · have e7' : (e == 7) = false := by simpa using e7
        by_cases e0 : e = 0
        · obtain ⟨⟨a0, p0, p1⟩, p2, p3, p4⟩ := k3 e0
          subst e0
          have f2 := F_Found_2 l (b && l.isEmpty) (by omega) v 2 (h := [.arr 1 [[I cls]] true false, .arr 1 [[I day]] true false, .arr 1 [[I v]] true false, .arr 1 [[I r]] true false]) rfl
          have f3 := F_Found_3 l (b && l.isEmpty) (by omega) v day 2 1 (h := [.arr 1 [[I cls]] true false, .arr 1 [[I day]] true false, .arr 1 [[I v]] true false, .arr 1 [[I r]] true false]) rfl rfl
          have f4 := F_Found_4 l (b && l.isEmpty) (by omega) v cls r 2 0 3 (h := [.arr 1 [[I cls]] true false, .arr 1 [[I day]] true false, .arr 1 [[I v]] true false, .arr 1 [[I r]] true false]) rfl rfl rfl
          rw [show (l.any fun x => x.frm == v) = true by simp; exact ⟨a0, p0, p1⟩] at f2
          rw [show (l.any fun x => decide (v < x.frm) && decide (x.frm ≤ day)) = false by
            rw [Bool.eq_false_iff]; simp
            intro x hx h1; by_cases h2 : x.frm ≤ day
            · have := p3 x hx h2; omega
            · omega] at f3
          have i1 : ¬ day < v := by omega
          by_cases hr0 : r = 0
          · subst hr0
            simp (maxSteps := 10000000) [f_law31_SeasonFound, boxE, F_law31_awake_val, ff, c0, s1, s2, f2, f3, f4, i1, disjAll, disj2, wrOf, ap, idsOf, EF, stE]
          · obtain ⟨a1, q0, q1, q2, q3⟩ := p4 hr0
            have hr0' : (r == 0) = false := by simpa using hr0
            rw [show (l.any fun x => x.frm == v && (x.cls == cls) && (x.rate == r)) = true by simp; exact ⟨a1, q0, ⟨q1, q2⟩, q3⟩] at f4
            simp (maxSteps := 10000000) [f_law31_SeasonFound, boxE, F_law31_awake_val, ff, c0, s1, s2, f2, f3, f4, i1, hr0', disjAll, disj2, wrOf, ap, idsOf, EF, stE]
        · obtain ⟨rfl, rfl, rfl⟩ := k2 e7 e0
          have e0' : (f == 0) = false := by simpa using e0
          simp (maxSteps := 10000000) [f_law31_SeasonFound, boxE, F_law31_awake_val, ff, c0, s1, s2, e7', e0', disjAll, disj2, wrOf, ap, idsOf, EF, stE]
    refine run (versionS l day).1 (versionS l day).2 (rateS l cls day).1 (rateS l cls day).2 rfl rfl ?_ ?_ ?_
    · intro he
      unfold versionS at he
      cases hr : rightA l with
      | false => rw [hr] at he; simp at he
      | true =>
        rw [hr] at he
        obtain ⟨h1, h2, h3⟩ := rightA_ok hr
        cases hw : win day 0 100000 with
        | false => rw [hw] at he; simp at he
        | true =>
          rw [hw] at he
          cases hv : versionL l day with
          | some v => rw [hv] at he; simp at he
          | none =>
            refine ⟨?_, versionL_none h3 hv⟩
            unfold rateS rateOn
            rw [hr, hw, hv]
            cases win cls 1 9 <;> rfl
    · intro h7 he
      unfold versionS at h7 he ⊢
      unfold rateS
      cases hr : rightA l with
      | false => simp
      | true =>
        rw [hr] at he h7
        cases hw : win day 0 100000 with
        | false => simp
        | true =>
          rw [hw] at he h7
          cases hv : versionL l day with
          | some v => rw [hv] at he; simp at he
          | none => rw [hv] at h7; simp at h7
    · intro he
      unfold versionS at he ⊢
      cases hr : rightA l with
      | false => rw [hr] at he; simp at he
      | true =>
        rw [hr] at he
        obtain ⟨h1, h2, h3⟩ := rightA_ok hr
        cases hw : win day 0 100000 with
        | false => rw [hw] at he; simp at he
        | true =>
          rw [hw] at he
          cases hv : versionL l day with
          | none => rw [hv] at he; simp at he
          | some v =>
            obtain ⟨p1, p2, p3⟩ := versionL_some h3 hv
            refine ⟨p1, p2, p3, ?_⟩
            unfold rateS rateOn
            rw [hr, hw, hv]
            cases win cls 1 9
            · intro h; exact absurd rfl h
            · intro h; exact rateAt_found h
end Go.AM

/- season: Add. -/
namespace Go.AM
open Go.Proofs
set_option linter.unusedVariables false
set_option linter.unusedSimpArgs false
set_option linter.constructorNameAsVariable false
set_option maxRecDepth 20000
section
variable {β : Type} {P : Program} {T : Tab} {D : DTab} {N : Nat} {K : AV → Hp → Option β}
section
variable {x0 : AV → AV → Hp → Option β} {x2 : AV → Hp → Option β} {ps : List (AV × List Allow)} {nl : Bool}
theorem Grow_Allowance_val (n : Nat) (h : Hp) (hn : n < 1000000) : R_slices_Grow_Allowance [nilS, I n] h = some (if n = 0 then (nilS, h) else (.sl 4 h.length 0 0 n false, h ++ [.arr 4 (List.replicate n [I 0,I 0,I 0,I 0]) true false])) := by
  rw [R_slices_Grow_Allowance_raw]
  have w0 : IntKind.i64.wrap 0 = 0 := wrap64 (by omega) (by omega)
  by_cases h0 : n = 0
  · subst h0
    simp [f_slices_Grow_Allowance, f_slices_Grow_Allowance_j1, f_slices_Grow_Allowance_j2, capK, w0]
  · have h1 : ¬ (n : Int) < 0 := by omega
    have h2 : (0 : Int) < (n : Int) := by omega
    have h3 : (n : Int) * 32 ≤ 140737488355328 := by omega
    have w1 : IntKind.i64.wrap (n : Int) = (n : Int) := wrap64 (by omega) (by omega)
    simp [f_slices_Grow_Allowance, f_slices_Grow_Allowance_j1, f_slices_Grow_Allowance_j2, capK, w0, h0, h1, h2, h3, show 0 < n by omega, w1, sliceK, boundOr, mkE, effK, ap]
theorem Concat_Allowance_L4 {v0 : AV} {h : Hp} (hp : ∀ p ∈ ps, Part encA h p) (hm : ps.length < 1000000) (ht : total ps < 1000000) : ∀ (n : Nat) (pre post : List (AV × List Allow)), ps = pre ++ post → post.length < n →
    f_slices_Concat_Allowance_L4 P T D N x0 n v0 (I (total pre)) (.lst 1 nl (ps.map fun p => [p.1])) (I ps.length) (I pre.length) h = x0 v0 (I (total ps)) h := by
  intro n
  induction n with
  | zero => intro pre post _ h; omega
  | succ n ih =>
    intro pre post hc hn
    show f_slices_Concat_Allowance_b4 P T D N (f_slices_Concat_Allowance_L4 P T D N x0 n) x0 _ _ _ _ _ h = _
    cases post with
    | nil =>
      have : ps = pre := by simpa using hc
      subst this
      simp [f_slices_Concat_Allowance_b4]
    | cons p post =>
      have hi : pre.length < ps.length := by rw [hc]; simp
      have hx : ps[pre.length]? = some p := by rw [hc]; simp
      have hlt : ((pre.length : Int) < (ps.length : Int)) := by omega
      have hw : IntKind.i64.wrap ((pre.length : Int) + 1) = (((pre ++ [p]).length : Nat) : Int) := by rw [wrap64 (by omega) (by omega)]; simp
      have htp : total ps = total pre + (p.2.length + total post) := by rw [hc, total_app, total_cons]
      have hw2 : IntKind.i64.wrap ((total pre : Int) + (p.2.length : Int)) = ((total (pre ++ [p]) : Nat) : Int) := by rw [wrap64 (by omega) (by omega), total_snoc]; omega
      have h0 : ¬ ((total (pre ++ [p]) : Nat) : Int) < 0 := by omega
      have hL := fun k => (hp p (List.mem_of_getElem? hx)).lenK (β := β) k
      rw [← ih (pre ++ [p]) post (by simpa using hc) (by simpa using hn)]
      simp [f_slices_Concat_Allowance_b4, hlt, hx, hL, hw2, h0, f_slices_Concat_Allowance_j6, f_slices_Concat_Allowance_j5, hw]
theorem Concat_Allowance_L3 {h : Hp} (hp : ∀ p ∈ ps, Part encA h p) (hm : ps.length < 1000000) (ht : total ps < 1000000) : ∀ (n : Nat) (pre post : List (AV × List Allow)), ps = pre ++ post → post.length < n →
    f_slices_Concat_Allowance_L3 P T D N x2 n (.sl 4 h.length 0 ((flat pre).map encA).length (total ps) false) (.lst 1 nl (ps.map fun p => [p.1])) (I ps.length) (I pre.length) (h ++ [.arr 4 ((flat pre).map encA ++ List.replicate (total ps - total pre) [I 0,I 0,I 0,I 0]) true false]) =
      x2 (.sl 4 h.length 0 (total ps) (total ps) false) (h ++ [.arr 4 ((flat ps).map encA) true false]) := by
  intro n
  induction n with
  | zero => intro pre post _ h; omega
  | succ n ih =>
    intro pre post hc hn
    show f_slices_Concat_Allowance_b3 P T D N (f_slices_Concat_Allowance_L3 P T D N x2 n) x2 _ _ _ _ _ = _
    cases post with
    | nil =>
      have : ps = pre := by simpa using hc
      subst this
      simp [f_slices_Concat_Allowance_b3, flat_length']
    | cons p post =>
      have hi : pre.length < ps.length := by rw [hc]; simp
      have hx : ps[pre.length]? = some p := by rw [hc]; simp
      have hlt : ((pre.length : Int) < (ps.length : Int)) := by omega
      have hw : IntKind.i64.wrap ((pre.length : Int) + 1) = (((pre ++ [p]).length : Nat) : Int) := by rw [wrap64 (by omega) (by omega)]; simp
      have htp : total ps = total pre + (p.2.length + total post) := by rw [hc, total_app, total_cons]
      have hP := (hp p (List.mem_of_getElem? hx)).app [.arr 4 ((flat pre).map encA ++ List.replicate (total ps - total pre) [I 0,I 0,I 0,I 0]) true false]
      have hf := appE_fill (by_ := 32) (sz := 4) (n := total ps) (base := h.length + 1) hP.read (get_new0 h [.arr 4 ((flat pre).map encA ++ List.replicate (total ps - total pre) [I 0,I 0,I 0,I 0]) true false]) (by simp [flat_length']; omega) (by simp; omega) (by simp [encA]) (by omega)
      have e1 : ((flat pre).map encA).length + (p.2.map encA).length = ((flat (pre ++ [p])).map encA).length := by rw [flat_snoc]; simp
      have e2 : (flat pre).map encA ++ p.2.map encA ++ (List.replicate (total ps - total pre) [I 0,I 0,I 0,I 0]).drop (p.2.map encA).length = (flat (pre ++ [p])).map encA ++ List.replicate (total ps - total (pre ++ [p])) [I 0,I 0,I 0,I 0] := by
        rw [flat_snoc, List.map_append, List.drop_replicate, total_snoc, List.length_map, Nat.sub_sub]
      rw [e1, e2] at hf
      rw [← ih (pre ++ [p]) post (by simpa using hc) (by simpa using hn)]
      generalize ((flat pre).map encA).length = k1 at *
      generalize ((flat (pre ++ [p])).map encA).length = k2 at *
      generalize (flat pre).map encA ++ List.replicate (total ps - total pre) [I 0,I 0,I 0,I 0] = o1 at *
      generalize (flat (pre ++ [p])).map encA ++ List.replicate (total ps - total (pre ++ [p])) [I 0,I 0,I 0,I 0] = o2 at *
      simp [f_slices_Concat_Allowance_b3, hlt, hx, hf, hw]
theorem Concat_Allowance_L3_0 {h : Hp} (hp : ∀ p ∈ ps, Part encA h p) (hm : ps.length < 1000000) (ht : total ps = 0) : ∀ (n : Nat) (pre post : List (AV × List Allow)), ps = pre ++ post → post.length < n →
    f_slices_Concat_Allowance_L3 P T D N x2 n nilS (.lst 1 nl (ps.map fun p => [p.1])) (I ps.length) (I pre.length) h = x2 nilS h := by
  intro n
  induction n with
  | zero => intro pre post _ h; omega
  | succ n ih =>
    intro pre post hc hn
    show f_slices_Concat_Allowance_b3 P T D N (f_slices_Concat_Allowance_L3 P T D N x2 n) x2 _ _ _ _ _ = _
    cases post with
    | nil =>
      have : ps = pre := by simpa using hc
      subst this
      simp [f_slices_Concat_Allowance_b3]
    | cons p post =>
      have hi : pre.length < ps.length := by rw [hc]; simp
      have hx : ps[pre.length]? = some p := by rw [hc]; simp
      have hlt : ((pre.length : Int) < (ps.length : Int)) := by omega
      have hw : IntKind.i64.wrap ((pre.length : Int) + 1) = (((pre ++ [p]).length : Nat) : Int) := by rw [wrap64 (by omega) (by omega)]; simp
      have htp : total ps = total pre + (p.2.length + total post) := by rw [hc, total_app, total_cons]
      have hP := (hp p (List.mem_of_getElem? hx)).read
      have hpe : p.2 = [] := List.eq_nil_of_length_eq_zero (by omega)
      rw [hpe] at hP
      rw [← ih (pre ++ [p]) post (by simpa using hc) (by simpa using hn)]
      simp [f_slices_Concat_Allowance_b3, hlt, hx, appE, hP, hw]
end
/-- Concat: a new array. -/
theorem F_slices_Concat_Allowance_val (ps : List (AV × List Allow)) (nl : Bool) (h : Hp) {x0 : AV} (ha : cvts false h [x0] = some [.lst 1 nl (ps.map fun p => [p.1])]) (hp : ∀ p ∈ ps, (p.1 = nilS ∧ p.2 = []) ∨ ∃ b, p.1 = .lst 4 b (p.2.map encA)) (hm : ps.length < 1000000) (ht : total ps < 1000000) :
    F_slices_Concat_Allowance [x0] h = some (SL 4 encA (flat ps).isEmpty (flat ps), h) := by
  have hP : ∀ (h : Hp), ∀ p ∈ ps, Part encA h p := fun h p hm => by
    obtain ⟨v, l⟩ := p
    rcases hp _ hm with ⟨e1, e2⟩ | ⟨b, e1⟩
    · dsimp only at e1 e2; subst e1 e2; exact .nil
    · dsimp only at e1; subst e1; exact .lst 4 b l
  have run : ∀ st, f_slices_Concat_Allowance Try.prog t_slices_Concat_Allowance d_slices_Concat_Allowance NN (fun v g => cvt st g v) (nrm (.l 1) (.lst 1 nl (ps.map fun p => [p.1]))) [] = some (if total ps = 0 then nilS else .lst 4 false ((flat ps).map encA)) := by
    intro st
    have l4 := Concat_Allowance_L4 (P := Try.prog) (T := t_slices_Concat_Allowance) (D := d_slices_Concat_Allowance) (N := NN) (x0 := fun w19_0 w19_3 h => f_slices_Concat_Allowance_j1 Try.prog t_slices_Concat_Allowance d_slices_Concat_Allowance NN (fun v g => cvt st g v) w19_0 w19_3 h) (v0 := .lst 1 nl (ps.map fun p => [p.1])) (nl := nl) (hP []) hm ht NN [] ps rfl (by have := NN_ge; omega)
    refine Eq.trans ?_ (l4.trans ?_)
    · simp [f_slices_Concat_Allowance, total]
    · have g := Grow_Allowance_val (total ps) [] ht
      by_cases h0 : total ps = 0
      · have l3 := Concat_Allowance_L3_0 (P := Try.prog) (T := t_slices_Concat_Allowance) (D := d_slices_Concat_Allowance) (N := NN) (x2 := fun w11_6 h => f_slices_Concat_Allowance_j2 Try.prog t_slices_Concat_Allowance d_slices_Concat_Allowance NN (fun v g => cvt st g v) w11_6 h) (nl := nl) (hP []) hm h0 NN [] ps rfl (by have := NN_ge; omega)
        rw [if_pos h0] at g ⊢
        simp [f_slices_Concat_Allowance_j1, g]
        refine Eq.trans ?_ (l3.trans ?_) <;> simp [flat, total, f_slices_Concat_Allowance_j2]
      · have l3 := Concat_Allowance_L3 (P := Try.prog) (T := t_slices_Concat_Allowance) (D := d_slices_Concat_Allowance) (N := NN) (x2 := fun w11_6 h => f_slices_Concat_Allowance_j2 Try.prog t_slices_Concat_Allowance d_slices_Concat_Allowance NN (fun v g => cvt st g v) w11_6 h) (nl := nl) (hP []) hm ht NN [] ps rfl (by have := NN_ge; omega)
        rw [if_neg h0] at g ⊢
        simp [f_slices_Concat_Allowance_j1, g]
        refine Eq.trans ?_ (l3.trans ?_)
        · simp [flat, total]
        · have hok : okE st ((flat ps).map encA) = true := okE_map (by intro x; cases st <;> simp [encA, isS])
          simp only [f_slices_Concat_Allowance_j2]
          exact cvt_whole (by simp) (by simp [flat_length']) (by simp [flat_length']) hok
  refine (F_slices_Concat_Allowance_own ha run).trans ?_
  by_cases h0 : total ps = 0
  · have : flat ps = [] := List.eq_nil_of_length_eq_zero (by rw [flat_length', h0])
    rw [if_pos h0, this]; rfl
  · have : (flat ps).isEmpty = false := by
      rw [List.isEmpty_eq_false_iff]; intro e; rw [← flat_length', e] at h0; exact h0 rfl
    rw [if_neg h0, this]; rfl
end
def addE (l m : List Allow) : Int :=
  if rightA l = false ∨ rightA m = false then 1 else match m with
    | [] => 9
    | c :: _ => if (m.any fun a => a.frm != c.frm) = true then 10 else if (l.any fun a => decide (c.frm ≤ a.frm)) = true then 5 else if 128 < l.length + m.length then 8 else 0
def addL (l m : List Allow) : List Allow := if addE l m = 0 then l ++ m else []
theorem last_max {l : List Allow} (hs : l.Pairwise (fun a b => ltA a b = true)) {c : Allow} (hc : l.getLast? = some c) : ∀ a ∈ l, a.frm ≤ c.frm := by
  intro a ha
  obtain ⟨ys, rfl⟩ := List.getLast?_eq_some_iff.1 hc
  rcases List.mem_append.1 ha with h | h
  · have := (List.pairwise_append.1 hs).2.2 a h c (by simp)
    exact ltA_frm this
  · simp at h; subst h; exact Int.le_refl _
theorem head_min {c : Allow} {m : List Allow} (hs : (c :: m).Pairwise (fun a b => ltA a b = true)) : ∀ a ∈ c :: m, c.frm ≤ a.frm := by
  intro a ha
  rcases List.mem_cons.1 ha with rfl | h
  · exact Int.le_refl _
  · exact ltA_frm ((List.pairwise_cons.1 hs).1 a h)
theorem any_ne {c d : Allow} {m : List Allow} (hs : (c :: m).Pairwise (fun a b => ltA a b = true)) (hd : (c :: m).getLast? = some d) : ((c :: m).any fun a => a.frm != c.frm) = (d.frm != c.frm) := by
  have h1 := head_min hs
  have h2 := last_max hs hd
  have h3 : d ∈ c :: m := List.mem_of_getLast? hd
  rw [Bool.eq_iff_iff, List.any_eq_true]
  constructor
  · rintro ⟨a, ha, h⟩
    have := h1 a ha
    have := h2 a ha
    have : a.frm ≠ c.frm := by simpa using h
    simp; omega
  · intro h; exact ⟨d, h3, h⟩
theorem any_le {x : Int} {d : Allow} {l : List Allow} (hs : l.Pairwise (fun a b => ltA a b = true)) (hd : l.getLast? = some d) : (l.any fun a => decide (x ≤ a.frm)) = decide (x ≤ d.frm) := by
  have h2 := last_max hs hd
  have h3 : d ∈ l := List.mem_of_getLast? hd
  rw [Bool.eq_iff_iff, List.any_eq_true]
  constructor
  · rintro ⟨a, ha, h⟩
    have := h2 a ha
    have : x ≤ a.frm := by simpa using h
    simp; omega
  · intro h; exact ⟨d, h3, h⟩
theorem F_season_Add_val (l m : List Allow) (b1 b2 : Bool) (h : Hp) : F_season_Add [.lst 4 b1 (l.map encA), .lst 4 b2 (m.map encA)] h = some (.tup [.lst 4 (!decide (addE l m = 0)) ((addL l m).map encA), I (addE l m)], h) := by
  have bad : ∀ e : Int, e ≠ 0 → addE l m = e → some (nrmR [.l 4, .o] (.tup [nilS, I e]), h) = some (.tup [.lst 4 (!decide (addE l m = 0)) ((addL l m).map encA), I (addE l m)], h) := by
    intro e he hx
    unfold addL
    rw [hx, if_neg he, decide_eq_false he]
    rfl
  have f1 := F_season_right_val l b1
  have f2 := F_season_right_val m b2
  cases r1 : rightA l with
  | false =>
    rw [r1] at f1
    refine (F_season_Add_run (v := .tup [nilS, I 1]) rfl ?_ h).trans (bad 1 (by decide) (by simp [addE, r1]))
    simp [f_season_Add, f1]
  | true =>
    rw [r1] at f1
    cases r2 : rightA m with
    | false =>
      rw [r2] at f2
      refine (F_season_Add_run (v := .tup [nilS, I 1]) rfl ?_ h).trans (bad 1 (by decide) (by simp [addE, r2]))
      simp [f_season_Add, f1, f2]
    | true =>
      rw [r2] at f2
      obtain ⟨l1, l2, l3⟩ := rightA_ok r1
      obtain ⟨m1, m2, m3⟩ := rightA_ok r2
      cases m with
      | nil =>
        refine (F_season_Add_run (v := .tup [nilS, I 9]) rfl ?_ h).trans (bad 9 (by decide) (by simp [addE, r1, r2]))
        simp at f2
        simp [f_season_Add, f1, f2]
      | cons c m =>
        obtain ⟨mm, hmm⟩ : ∃ mm, mm = c :: m := ⟨_, rfl⟩
        have hlm : mm.length ≠ 0 := by rw [hmm]; simp
        have hm0 : mm[0]? = some c := by rw [hmm]; rfl
        obtain ⟨d, hd⟩ : ∃ d, mm.getLast? = some d := by
          cases hx : mm.getLast? with
          | none => rw [List.getLast?_eq_none_iff] at hx; rw [hx] at hlm; simp at hlm
          | some d => exact ⟨d, rfl⟩
        have a10 := any_ne (c := c) (d := d) (m := m) m3 (by rw [← hmm]; exact hd)
        have eE : addE l (c :: m) = if (d.frm != c.frm) = true then 10 else if (l.any fun a => decide (c.frm ≤ a.frm)) = true then 5 else if 128 < l.length + mm.length then 8 else 0 := by
          unfold addE; rw [r1, r2, if_neg (by simp)]
          show (if ((c :: m).any fun a => a.frm != c.frm) = true then _ else _) = _
          rw [a10, hmm]
        rw [← hmm] at f2 eE m1 m2 m3 bad ⊢
        clear a10 r1 r2 hmm m2
        have hdi : mm[mm.length - 1]? = some d := by rw [← hd, List.getLast?_eq_getElem?]
        have hml : (mm.length : Int) ≤ 128 := by omega
        have hm1 : ((mm.length : Int) == 0) = false := by simp; exact fun e => hlm (by rw [e]; rfl)
        have i0 : ∀ (k : Go.AM.K AV), iaK 4 (.lst 4 b2 (mm.map encA)) (I 0) k = k (.ep (encA c) 0) := fun k => iaK_at 0 rfl hm0 k
        have i1 : ∀ (k : Go.AM.K AV), iaK 4 (.lst 4 b2 (mm.map encA)) (I ((mm.length : Int) - 1)) k = k (.ep (encA d) 0) := fun k => iaK_at (mm.length - 1) (by omega) hdi k
        have w1 : IntKind.i64.wrap ((mm.length : Int) - 1) = (mm.length : Int) - 1 := wrap64 (by omega) (by omega)
        have ln1 : ∀ k : Go.AM.K AV, lenK (.lst 4 b1 (l.map encA)) k = k (I l.length) := fun k => by simp
        have ln2 : ∀ k : Go.AM.K AV, lenK (.lst 4 b2 (mm.map encA)) k = k (I mm.length) := fun k => by simp
        simp only [encA] at i0 i1
        have w3 : IntKind.i64.wrap ((l.length : Int) + (mm.length : Int)) = (l.length : Int) + (mm.length : Int) := wrap64 (by omega) (by omega)
        have ps : ∀ H : Hp, H = [.arr 1 [[.lst 4 b1 (l.map encA)], [.lst 4 b2 (mm.map encA)]] true false] → F_slices_Concat_Allowance [.sl 1 0 0 2 2 true] H = some (.lst 4 false ((l ++ mm).map encA), H) := by
          intro H hH
          have hf2 : flat [((.lst 4 b1 (l.map encA) : AV), l), (.lst 4 b2 (mm.map encA), mm)] = l ++ mm := by simp [flat]
          have ht : total [((.lst 4 b1 (l.map encA) : AV), l), (.lst 4 b2 (mm.map encA), mm)] < 1000000 := by
            simp [total]; omega
          have := F_slices_Concat_Allowance_val [((.lst 4 b1 (l.map encA) : AV), l), (.lst 4 b2 (mm.map encA), mm)] false H (x0 := .sl 1 0 0 2 2 true)
            (by rw [hH]; simp [cvts, cvt, cvtE, cvtCs, cvtC, cvt1, okE, plain]) (by simp) (by simp) ht
          rw [hf2] at this
          rw [this, SL]
          have : (l ++ mm).isEmpty = false := by
            cases hx : (l ++ mm) with
            | nil => simp at hx; exact absurd (by rw [hx.2]; rfl) hlm
            | cons _ _ => rfl
          rw [this]
          rfl
        have pc := ps _ rfl
        have good : addE l mm = 0 → f_season_Add Try.prog t_season_Add d_season_Add NN (fun v g => cvt false g v) (nrm (.l 4) (.lst 4 b1 (l.map encA))) (nrm (.l 4) (.lst 4 b2 (mm.map encA))) [] = some (.tup [.lst 4 false ((l ++ mm).map encA), I 0]) → F_season_Add [.lst 4 b1 (l.map encA), .lst 4 b2 (mm.map encA)] h = some (.tup [.lst 4 (!decide (addE l mm = 0)) ((addL l mm).map encA), I (addE l mm)], h) := by
          intro e hv
          refine (F_season_Add_run rfl hv h).trans ?_
          unfold addL
          rw [e]
          rfl
        simp only [nrm] at good ⊢
        by_cases q1 : d.frm = c.frm
        · have q1' : (d.frm != c.frm) = false := by simpa using q1
          rw [q1'] at eE
          by_cases hl0 : l = []
          · subst hl0
            have hc8 : ¬ (128 < (mm.length : Int)) := by omega
            refine good (by rw [eE]; simp; omega) ?_
            simp at f1 w3 pc
            generalize (mm.length : Int) = n at *
            simp [f_season_Add, f1, f2, ln2, hm1, w1, i0, i1, q1, w3, bsE, fillS, pc, hc8]
          · obtain ⟨e, he⟩ : ∃ e, l.getLast? = some e := by
              cases hx : l.getLast? with
              | none => rw [List.getLast?_eq_none_iff] at hx; exact absurd hx hl0
              | some d => exact ⟨d, rfl⟩
            have hei : l[l.length - 1]? = some e := by rw [← he, List.getLast?_eq_getElem?]
            have hll : l.length ≠ 0 := fun e => hl0 (List.eq_nil_of_length_eq_zero e)
            have i2 : ∀ (k : Go.AM.K AV), iaK 4 (.lst 4 b1 (l.map encA)) (I ((l.length : Int) - 1)) k = k (.ep (encA e) 0) := fun k => iaK_at (l.length - 1) (by omega) hei k
            simp only [encA] at i2
            have w2 : IntKind.i64.wrap ((l.length : Int) - 1) = (l.length : Int) - 1 := wrap64 (by omega) (by omega)
            have hl1 : (0 : Int) < (l.length : Int) := by omega
            rw [any_le l3 he] at eE
            have hN : (128 < l.length + mm.length) = (128 < (l.length : Int) + (mm.length : Int)) := by simp; omega
            simp only [hN] at eE
            generalize hA : l.map encA = L at *
            generalize hB : mm.map encA = M at *
            generalize (mm.length : Int) = n at *
            generalize (l.length : Int) = n' at *
            by_cases q2 : c.frm ≤ e.frm
            · refine (F_season_Add_run (v := .tup [nilS, I 5]) rfl ?_ h).trans (bad 5 (by decide) (by rw [eE]; simp [q2]))
              simp [f_season_Add, f1, f2, ln1, ln2, hm1, w1, i0, i1, q1, hl1, i2, w2, q2]
            · by_cases q3 : 128 < n' + n
              · refine (F_season_Add_run (v := .tup [nilS, I 8]) rfl ?_ h).trans (bad 8 (by decide) (by rw [eE]; simp [q2, q3]))
                simp [f_season_Add, f1, f2, ln1, ln2, hm1, w1, i0, i1, q1, hl1, i2, w2, q2, w3, q3]
              · refine good (by rw [eE]; simp [q2, q3]) ?_
                simp [f_season_Add, f1, f2, ln1, ln2, hm1, w1, i0, i1, q1, hl1, i2, w2, q2, w3, q3, bsE, fillS, pc]
        · have q1' : (d.frm != c.frm) = true := by simpa using q1
          have q1'' : (d.frm == c.frm) = false := by simpa using q1
          rw [q1'] at eE
          refine (F_season_Add_run (v := .tup [nilS, I 10]) rfl ?_ h).trans (bad 10 (by decide) (by rw [eE]; rfl))
          simp [f_season_Add, f1, f2, ln2, hm1, w1, i0, i1, q1, q1'']
end Go.AM

/- season: Add of the reference; SeasonAdds. -/
namespace Go.AM
open Go.Proofs
set_option linter.unusedVariables false
set_option linter.unusedSimpArgs false
set_option linter.constructorNameAsVariable false
set_option maxRecDepth 20000
section
variable {β : Type} {P : Program} {T : Tab} {D : DTab} {N : Nat} {K : AV → Hp → Option β}
theorem ref31_Add_L4 {x0 : AV → AV → Hp → Option β} {xr : AV → AV → Hp → Option β} (v0 : AV) (m : List Allow) (b : Bool) (c : Allow) (hm0 : m[0]? = some c) (hl : m.length < 1000000) (h : Hp) : ∀ (n : Nat) (pre post : List Allow), m = pre ++ post → post.length < n →
    f_ref31_Add_L4 P T D N x0 xr n v0 (.lst 4 b (m.map encA)) (I pre.length) h = if (post.any fun a => a.frm != c.frm) = true then xr nilS (I 10) h else x0 v0 (.lst 4 b (m.map encA)) h := by
  intro n
  induction n with
  | zero => intro pre post _ h2; omega
  | succ n ih =>
    intro pre post hc hn
    show f_ref31_Add_b4 P T D N (f_ref31_Add_L4 P T D N x0 xr n) x0 xr _ _ _ h = _
    cases post with
    | nil =>
      have : m = pre := by simpa using hc
      subst this
      simp [f_ref31_Add_b4]
    | cons d post =>
      have hi : pre.length < m.length := by rw [hc]; simp
      have hci : m[pre.length]? = some d := by rw [hc]; simp
      have hlt : ((pre.length : Int) < (m.length : Int)) := by omega
      have hw : IntKind.i64.wrap ((pre.length : Int) + 1) = (((pre ++ [d]).length : Nat) : Int) := by rw [wrap64 (by omega) (by omega)]; simp
      have ic : ∀ k : Go.AM.K β, iaK 4 (.lst 4 b (m.map encA)) (I pre.length) k = k (.ep (encA d) 0) := fun k => iaK_at pre.length rfl hci k
      have i0 : ∀ k : Go.AM.K β, iaK 4 (.lst 4 b (m.map encA)) (I 0) k = k (.ep (encA c) 0) := fun k => iaK_at 0 rfl hm0 k
      have hlen : lenK (.lst 4 b (m.map encA)) = fun k : Go.AM.K β => k (I m.length) := by funext k; simp
      have step := ih (pre ++ [d]) post (by simpa using hc) (by simpa using hn)
      simp only [encA] at ic i0
      rw [List.any_cons]
      simp only [f_ref31_Add_b4, hlen, arithK_lss, hlt, decide_true, condK_bool, if_true, encA, ic, i0]
      by_cases q : d.frm = c.frm
      · have q' : (d.frm == c.frm) = true := by simpa using q
        have q2 : (d.frm != c.frm) = false := by simpa using q
        rw [q2, Bool.false_or, ← step]
        simp [q', hw]
      · have q' : (d.frm == c.frm) = false := by simpa using q
        have q2 : (d.frm != c.frm) = true := by simpa using q
        rw [q2, Bool.true_or]
        simp [q']
theorem ref31_Add_L3 {x0 : AV → AV → Hp → Option β} {xr : AV → AV → Hp → Option β} (l m : List Allow) (b1 b : Bool) (c : Allow) (hm0 : m[0]? = some c) (hl : l.length < 1000000) (h : Hp) : ∀ (n : Nat) (pre post : List Allow), l = pre ++ post → post.length < n →
    f_ref31_Add_L3 P T D N x0 xr n (.lst 4 b1 (l.map encA)) (.lst 4 b (m.map encA)) (I pre.length) h = if (post.any fun a => decide (c.frm ≤ a.frm)) = true then xr nilS (I 5) h else x0 (.lst 4 b1 (l.map encA)) (.lst 4 b (m.map encA)) h := by
  intro n
  induction n with
  | zero => intro pre post _ h2; omega
  | succ n ih =>
    intro pre post hc hn
    show f_ref31_Add_b3 P T D N (f_ref31_Add_L3 P T D N x0 xr n) x0 xr _ _ _ h = _
    cases post with
    | nil =>
      have : l = pre := by simpa using hc
      subst this
      simp [f_ref31_Add_b3]
    | cons d post =>
      have hi : pre.length < l.length := by rw [hc]; simp
      have hci : l[pre.length]? = some d := by rw [hc]; simp
      have hlt : ((pre.length : Int) < (l.length : Int)) := by omega
      have hw : IntKind.i64.wrap ((pre.length : Int) + 1) = (((pre ++ [d]).length : Nat) : Int) := by rw [wrap64 (by omega) (by omega)]; simp
      have ic : ∀ k : Go.AM.K β, iaK 4 (.lst 4 b1 (l.map encA)) (I pre.length) k = k (.ep (encA d) 0) := fun k => iaK_at pre.length rfl hci k
      have i0 : ∀ k : Go.AM.K β, iaK 4 (.lst 4 b (m.map encA)) (I 0) k = k (.ep (encA c) 0) := fun k => iaK_at 0 rfl hm0 k
      have hlen : lenK (.lst 4 b1 (l.map encA)) = fun k : Go.AM.K β => k (I l.length) := by funext k; simp
      have step := ih (pre ++ [d]) post (by simpa using hc) (by simpa using hn)
      simp only [encA] at ic i0
      rw [List.any_cons]
      simp only [f_ref31_Add_b3, hlen, arithK_lss, hlt, decide_true, condK_bool, if_true, encA, ic, i0]
      by_cases q : c.frm ≤ d.frm
      · have q2 : decide (c.frm ≤ d.frm) = true := by simpa using q
        rw [q2, Bool.true_or]
        simp [q]
      · have q2 : decide (c.frm ≤ d.frm) = false := by simpa using q
        rw [q2, Bool.false_or, ← step]
        simp [q, hw]
end
theorem F_ref31_Add_val (l m : List Allow) (b1 b2 : Bool) (h : Hp) : F_ref31_Add [.lst 4 b1 (l.map encA), .lst 4 b2 (m.map encA)] h = some (.tup [.lst 4 (!decide (addE l m = 0)) ((addL l m).map encA), I (addE l m)], h) := by
  have bad : ∀ e : Int, e ≠ 0 → addE l m = e → some (nrmR [.l 4, .o] (.tup [nilS, I e]), h) = some (.tup [.lst 4 (!decide (addE l m = 0)) ((addL l m).map encA), I (addE l m)], h) := by
    intro e he hx
    unfold addL
    rw [hx, if_neg he, decide_eq_false he]
    rfl
  have f1 := F_ref31_Right_val l b1
  have f2 := F_ref31_Right_val m b2
  cases r1 : rightA l with
  | false =>
    rw [r1] at f1
    refine (F_ref31_Add_run (v := .tup [nilS, I 1]) rfl ?_ h).trans (bad 1 (by decide) (by simp [addE, r1]))
    simp [f_ref31_Add, f1]
  | true =>
    rw [r1] at f1
    cases r2 : rightA m with
    | false =>
      rw [r2] at f2
      refine (F_ref31_Add_run (v := .tup [nilS, I 1]) rfl ?_ h).trans (bad 1 (by decide) (by simp [addE, r2]))
      simp [f_ref31_Add, f1, f2]
    | true =>
      rw [r2] at f2
      obtain ⟨l1, l2, l3⟩ := rightA_ok r1
      obtain ⟨m1, m2, m3⟩ := rightA_ok r2
      cases m with
      | nil =>
        refine (F_ref31_Add_run (v := .tup [nilS, I 9]) rfl ?_ h).trans (bad 9 (by decide) (by simp [addE, r1, r2]))
        simp at f2
        simp [f_ref31_Add, f1, f2]
      | cons c m =>
        obtain ⟨mm, hmm⟩ : ∃ mm, mm = c :: m := ⟨_, rfl⟩
        have hlm : mm.length ≠ 0 := by rw [hmm]; simp
        have hm0 : mm[0]? = some c := by rw [hmm]; rfl
        have eE : addE l (c :: m) = if (mm.any fun a => a.frm != c.frm) = true then 10 else if (l.any fun a => decide (c.frm ≤ a.frm)) = true then 5 else if 128 < l.length + mm.length then 8 else 0 := by
          unfold addE; rw [r1, r2, if_neg (by simp), hmm]
        rw [← hmm] at f2 eE m1 m2 m3 bad ⊢
        clear r1 r2 hmm m2
        have hm1 : ((mm.length : Int) == 0) = false := by simp; exact fun e => hlm (by rw [e]; rfl)
        have L4 := ref31_Add_L4 (P := Try.prog) (T := t_ref31_Add) (D := d_ref31_Add) (N := NN) (x0 := fun w44_0 w44_1 h => f_ref31_Add_j1 Try.prog t_ref31_Add d_ref31_Add NN (fun v g => cvt false g v) w44_0 w44_1 h) (xr := fun w45_4 w45_5 h => cvt false h (.tup [w45_4, w45_5])) (.lst 4 b1 (l.map encA)) mm b2 c hm0 (by omega) [] NN [] mm rfl (by have := NN_ge; omega)
        have L3 := ref31_Add_L3 (P := Try.prog) (T := t_ref31_Add) (D := d_ref31_Add) (N := NN) (x0 := fun w44_0 w44_1 h => f_ref31_Add_j2 Try.prog t_ref31_Add d_ref31_Add NN (fun v g => cvt false g v) w44_0 w44_1 h) (xr := fun w45_4 w45_5 h => cvt false h (.tup [w45_4, w45_5])) l mm b1 b2 c hm0 (by omega) [] NN [] l rfl (by have := NN_ge; omega)
        have run : f_ref31_Add Try.prog t_ref31_Add d_ref31_Add NN (fun v g => cvt false g v) (nrm (.l 4) (.lst 4 b1 (l.map encA))) (nrm (.l 4) (.lst 4 b2 (mm.map encA))) [] = if (mm.any fun a => a.frm != c.frm) = true then some (.tup [nilS, I 10]) else if (l.any fun a => decide (c.frm ≤ a.frm)) = true then some (.tup [nilS, I 5]) else f_ref31_Add_j2 Try.prog t_ref31_Add d_ref31_Add NN (fun v g => cvt false g v) (.lst 4 b1 (l.map encA)) (.lst 4 b2 (mm.map encA)) [] := by
          refine Eq.trans ?_ (L4.trans ?_)
          · simp [f_ref31_Add, f1, f2, hm1]
          · split
            · rfl
            · exact L3
        by_cases q1 : (mm.any fun a => a.frm != c.frm) = true
        · rw [if_pos q1] at run eE
          exact (F_ref31_Add_run rfl run h).trans (bad 10 (by decide) eE)
        rw [if_neg q1] at run eE
        by_cases q2 : (l.any fun a => decide (c.frm ≤ a.frm)) = true
        · rw [if_pos q2] at run eE
          exact (F_ref31_Add_run rfl run h).trans (bad 5 (by decide) eE)
        rw [if_neg q2] at run eE
        have w3 : IntKind.i64.wrap ((l.length : Int) + (mm.length : Int)) = (l.length : Int) + (mm.length : Int) := wrap64 (by omega) (by omega)
        by_cases q3 : 128 < l.length + mm.length
        · have q3' : 128 < (l.length : Int) + (mm.length : Int) := by omega
          rw [if_pos q3] at eE
          refine (F_ref31_Add_run rfl (run.trans ?_) h).trans (bad 8 (by decide) eE)
          simp [f_ref31_Add_j2, w3, q3']
        · have q3' : ¬ 128 < (l.length : Int) + (mm.length : Int) := by omega
          rw [if_neg q3] at eE
          refine (F_ref31_Add_run (v := .tup [.lst 4 false ((l ++ mm).map encA), I 0]) rfl (run.trans ?_) h).trans ?_
          · have z1 : ((l.map encA).all fun e => e.length == 4) = true := by simp [encA]
            have z2 : ((mm.map encA).all fun e => e.length == 4) = true := by simp [encA]
            have y1 : l.length * 32 ≤ 140737488355328 := by omega
            have y2 : (l.length + mm.length) * 32 ≤ 140737488355328 := by omega
            have ok : okE false ((l ++ mm).map encA) = true := okE_map (by intro x; simp [encA])
            simp [f_ref31_Add_j2, w3, q3', bsE, fillS, appE, readSl, z1, z2, y1, y2, ap]
            have cw := cvt_whole (st := false) (h := [.arr 4 [] true false, .arr 4 ((l ++ mm).map encA) true false]) (sz := 4) (id := 1) (n := l.length + mm.length) (fr := l.length + mm.length) (full := false) rfl (by simp) (by simp) ok
            simp at cw
            rw [cw]
          · unfold addL
            rw [eE]
            rfl
theorem ref31_Same_L2 {β : Type} {T : Tab} {D : DTab} {N : Nat} {x0 : Hp → Option β} {xr : AV → Hp → Option β} (l : List Allow) (b1 b2 : Bool) (hl : l.length < 1000000) (h : Hp) : ∀ (n : Nat) (pre post : List Allow), l = pre ++ post → post.length < n →
    f_ref31_Same_L2 Try.prog T D N x0 xr n (.lst 4 b1 (l.map encA)) (.lst 4 b2 (l.map encA)) (I pre.length) h = x0 h := by
  intro n
  induction n with
  | zero => intro pre post _ h2; omega
  | succ n ih =>
    intro pre post hc hn
    show f_ref31_Same_b2 Try.prog T D N (f_ref31_Same_L2 Try.prog T D N x0 xr n) x0 xr _ _ _ h = _
    cases post with
    | nil =>
      have : l = pre := by simpa using hc
      subst this
      simp [f_ref31_Same_b2]
    | cons d post =>
      have hi : pre.length < l.length := by rw [hc]; simp
      have hci : l[pre.length]? = some d := by rw [hc]; simp
      have hlt : ((pre.length : Int) < (l.length : Int)) := by omega
      have hw : IntKind.i64.wrap ((pre.length : Int) + 1) = (((pre ++ [d]).length : Nat) : Int) := by rw [wrap64 (by omega) (by omega)]; simp
      have ic : ∀ (b : Bool) (k : Go.AM.K β), iaK 4 (.lst 4 b (l.map encA)) (I pre.length) k = k (.ep (encA d) 0) := fun b k => iaK_at pre.length rfl hci k
      have hlen : lenK (.lst 4 b1 (l.map encA)) = fun k : Go.AM.K β => k (I l.length) := by funext k; simp
      have step := ih (pre ++ [d]) post (by simpa using hc) (by simpa using hn)
      simp only [encA] at ic
      rw [← step]
      simp only [f_ref31_Same_b2, hlen, arithK_lss, hlt, decide_true, condK_bool, if_true, encA, ic]
      simp [hw]
theorem F_ref31_Same_val (l : List Allow) (b1 b2 : Bool) (hl : l.length < 1000000) (h : Hp) : F_ref31_Same [.lst 4 b1 (l.map encA), .lst 4 b2 (l.map encA)] h = some (B true, h) := by
  refine F_ref31_Same_run rfl ?_ h
  have := ref31_Same_L2 (T := t_ref31_Same) (D := d_ref31_Same) (N := NN) (x0 := fun h => f_ref31_Same_j1 Try.prog t_ref31_Same d_ref31_Same NN (fun v g => cvt false g v) h) (xr := fun w13_4 h => cvt false h w13_4) l b1 b2 hl [] NN [] l rfl (by have := NN_ge; omega)
  refine Eq.trans ?_ (this.trans ?_)
  · simp [f_ref31_Same]
  · simp [f_ref31_Same_j1]
theorem addL_len (l m : List Allow) : (addL l m).length ≤ l.length + m.length := by
  unfold addL
  split <;> simp
theorem adds_law (l : List Allow) (b1 : Bool) (m : List Allow) (b2 : Bool) : F_law31_SeasonAdds [SL 4 encA b1 l, SL 4 encA b2 m] [] = some (B true, []) := by
  refine F_law31_SeasonAdds_run rfl ?_ []
  have ff := F_ref31_Few_val l (b1 && l.isEmpty)
  have fm := F_ref31_Few_val m (b2 && m.isEmpty)
  change ∀ h, _ = some (B (fewA l.length), h) at ff
  change ∀ h, _ = some (B (fewA m.length), h) at fm
  cases hf : fewA l.length with
  | false => rw [hf] at ff; simp [f_law31_SeasonAdds, F_law31_awake_val, ff]
  | true =>
    have hl := fewA_bd hf
    rw [hf] at ff
    cases hg : fewA m.length with
    | false => rw [hg] at fm; simp [f_law31_SeasonAdds, F_law31_awake_val, ff, fm]
    | true =>
      have hm := fewA_bd hg
      rw [hg] at fm
      have c0 := F_slices_Clone_Allowance_val l b1 (by omega)
      have c1 := F_slices_Clone_Allowance_val m b2 (by omega)
      have a1 := F_season_Add_val l m (b1 && l.isEmpty) (b2 && m.isEmpty)
      have a2 := F_ref31_Add_val l m (b1 && l.isEmpty) (b2 && m.isEmpty)
      have hal := addL_len l m
      have s1 := F_ref31_Same_val (addL l m) (!decide (addE l m = 0)) (!decide (addE l m = 0)) (by omega)
      generalize (addL l m).map encA = L at *
      simp [f_law31_SeasonAdds, F_law31_awake_val, ff, fm, c0, c1, a1, a2]
      simp [s1]
end Go.AM

/- season: SeasonVersions. -/
namespace Go.AM
open Go.Proofs
set_option linter.unusedVariables false
set_option linter.unusedSimpArgs false
set_option linter.constructorNameAsVariable false
set_option maxRecDepth 20000
theorem addE_ok {l m : List Allow} (h : addE l m = 0) : rightA l = true ∧ rightA m = true ∧ ∃ c t, m = c :: t ∧ (∀ a ∈ m, a.frm = c.frm) ∧ (∀ a ∈ l, a.frm < c.frm) ∧ l.length + m.length ≤ 128 := by
  unfold addE at h
  by_cases h0 : rightA l = false ∨ rightA m = false
  · rw [if_pos h0] at h; simp at h
  rw [if_neg h0] at h
  have h1 : rightA l = true ∧ rightA m = true := by
    cases e1 : rightA l <;> cases e2 : rightA m <;> simp [e1, e2] at h0 <;> simp
  cases m with
  | nil => simp at h
  | cons c t =>
    dsimp only at h
    by_cases q1 : ((c :: t).any fun a => a.frm != c.frm) = true
    · rw [if_pos q1] at h; simp at h
    rw [if_neg q1] at h
    by_cases q2 : (l.any fun a => decide (c.frm ≤ a.frm)) = true
    · rw [if_pos q2] at h; simp at h
    rw [if_neg q2] at h
    by_cases q3 : 128 < l.length + (c :: t).length
    · rw [if_pos q3] at h; simp at h
    refine ⟨h1.1, h1.2, c, t, rfl, ?_, ?_, by omega⟩
    · intro a ha
      have q1' := Bool.eq_false_iff.2 q1
      rw [List.any_eq_false] at q1'
      simpa using q1' a ha
    · intro a ha
      have q2' := Bool.eq_false_iff.2 q2
      rw [List.any_eq_false] at q2'
      simpa using q2' a ha
theorem right_append {l m : List Allow} (h1 : rightA l = true) (h2 : rightA m = true) (h3 : ∀ a ∈ l, ∀ b ∈ m, a.frm < b.frm) (h4 : l.length + m.length ≤ 128) : rightA (l ++ m) = true := by
  obtain ⟨l1, l2, l3⟩ := rightA_ok h1
  obtain ⟨m1, m2, m3⟩ := rightA_ok h2
  have hp : (l ++ m).Pairwise (fun a b => ltA a b = true) := by
    rw [List.pairwise_append]
    exact ⟨l3, m3, fun a ha b hb => (ltA_iff a b).2 (.inl (h3 a ha b hb))⟩
  have hg : ∀ a ∈ l ++ m, badA a = false := by
    intro a ha
    rcases List.mem_append.1 ha with h | h
    · exact l2 a h
    · exact m2 a h
  have hc : checkG badA ltA none (l ++ m) 0 = none := by
    exact checkG_good _ none 0 hg hp (by simp)
  unfold rightA checkA
  rw [if_neg (by simp; omega), hc]
  rfl
theorem upto_all {l : List Allow} {day : Int} (h : ∀ a ∈ l, a.frm ≤ day) : upto l day = l.length := by
  unfold upto
  induction l with
  | nil => rfl
  | cons a l ih => rw [List.takeWhile_cons_of_pos (by simpa using h a (by simp)), List.length_cons, List.length_cons, ih (fun b hb => h b (by simp [hb]))]
theorem upto_app_lt {l m : List Allow} {day : Int} (h : ∀ a ∈ m, day < a.frm) : upto (l ++ m) day = upto l day := by
  unfold upto
  induction l with
  | nil =>
    cases m with
    | nil => rfl
    | cons c t =>
      rw [List.nil_append, List.takeWhile_cons_of_neg (by have := h c (by simp); simp; omega)]
      rfl
  | cons a l ih =>
    rw [List.cons_append]
    by_cases q : a.frm ≤ day
    · rw [List.takeWhile_cons_of_pos (by simpa using q), List.takeWhile_cons_of_pos (by simpa using q), List.length_cons, List.length_cons, ih]
    · rw [List.takeWhile_cons_of_neg (by simpa using q), List.takeWhile_cons_of_neg (by simpa using q)]
theorem versionL_app_lt {l m : List Allow} {day : Int} (h : ∀ a ∈ m, day < a.frm) : versionL (l ++ m) day = versionL l day := by
  unfold versionL
  rw [upto_app_lt h, List.take_append_of_le_length (upto_le l day)]
theorem versionL_new {l m : List Allow} {v day : Int} (hm : m ≠ []) (h1 : ∀ a ∈ m, a.frm = v) (h2 : ∀ a ∈ l, a.frm ≤ day) (h3 : v ≤ day) : versionL (l ++ m) day = some v := by
  have hu : upto (l ++ m) day = (l ++ m).length := upto_all fun a ha => by
    rcases List.mem_append.1 ha with h | h
    · exact h2 a h
    · rw [h1 a h]; exact h3
  unfold versionL
  rw [hu, List.take_length]
  cases hx : m.getLast? with
  | none => rw [List.getLast?_eq_none_iff] at hx; exact absurd hx hm
  | some d =>
    rw [List.getLast?_append, hx]
    show some d.frm = some v
    rw [h1 d (List.mem_of_getLast? hx)]
theorem rateAt_left {l m : List Allow} {v cls mon : Int} (h : ∀ a ∈ m, a.frm ≠ v) : rateAt (l ++ m) v cls mon = rateAt l v cls mon := by
  unfold rateAt
  rw [List.find?_append]
  have : m.find? (fun a => decide (a.frm = v ∧ a.cls = cls ∧ a.mon = mon)) = none := by
    rw [List.find?_eq_none]
    intro a ha e
    simp at e
    exact h a ha e.1
  rw [this, Option.or_none]
theorem rateAt_right {l m : List Allow} {v cls mon : Int} (h : ∀ a ∈ l, a.frm ≠ v) : rateAt (l ++ m) v cls mon = rateAt m v cls mon := by
  unfold rateAt
  rw [List.find?_append]
  have : l.find? (fun a => decide (a.frm = v ∧ a.cls = cls ∧ a.mon = mon)) = none := by
    rw [List.find?_eq_none]
    intro a ha e
    simp at e
    exact h a ha e.1
  rw [this, Option.none_or]
theorem versions_plain {l m : List Allow} (h : addE l m = 0) (cls day : Int) : ∃ c t, m = c :: t ∧
    ((∃ e : Int, e ≠ 0 ∧ rateS (l ++ m) cls day = (0, e) ∧ rateS l cls day = (0, e) ∧ rateS m cls day = (0, e)) ∨
     (∃ x y z : Int, rateS (l ++ m) cls day = (x, 0) ∧ rateS l cls day = (y, 0) ∧ rateS m cls day = (z, 0) ∧ (day < c.frm → x = y ∧ z = 0) ∧ (¬ day < c.frm → x = z ∧ versionS (l ++ m) day = (c.frm, 0)))) := by
  obtain ⟨h1, h2, c, t, hm, h3, h4, h5⟩ := addE_ok h
  refine ⟨c, t, hm, ?_⟩
  have hr : rightA (l ++ m) = true := right_append h1 h2 (fun a ha b hb => by rw [h3 b hb]; exact h4 a ha) h5
  cases hw : (win cls 1 9 && win day 0 100000) with
  | false => exact .inl ⟨2, by decide, by unfold rateS; rw [hr, hw]; rfl, by unfold rateS; rw [h1, hw]; rfl, by unfold rateS; rw [h2, hw]; rfl⟩
  | true =>
    have hw2 : win day 0 100000 = true := (Bool.and_eq_true_iff.1 hw).2
    refine .inr ⟨rateOn (l ++ m) cls day, rateOn l cls day, rateOn m cls day, by unfold rateS; rw [hr, hw]; rfl, by unfold rateS; rw [h1, hw]; rfl, by unfold rateS; rw [h2, hw]; rfl, ?_, ?_⟩
    · intro hd
      have hd' : ∀ a ∈ m, day < a.frm := fun a ha => by rw [h3 a ha]; exact hd
      have e1 : versionL (l ++ m) day = versionL l day := versionL_app_lt hd'
      have e2 : versionL m day = none := by
        have := versionL_app_lt (l := []) hd'
        exact this
      unfold rateOn
      rw [e1, e2]
      refine ⟨?_, rfl⟩
      cases hv : versionL l day with
      | none => rfl
      | some v =>
        obtain ⟨p1, p2, p3⟩ := versionL_some (rightA_ok h1).2.2 hv
        exact rateAt_left fun a ha => by have := hd' a ha; omega
    · intro hd
      have hmn : m ≠ [] := by rw [hm]; simp
      have e1 : versionL (l ++ m) day = some c.frm := versionL_new hmn h3 (fun a ha => by have := h4 a ha; omega) (by omega)
      have e2 : versionL m day = some c.frm := versionL_new (l := []) hmn h3 (by simp) (by omega)
      refine ⟨?_, ?_⟩
      · unfold rateOn
        rw [e1, e2]
        exact rateAt_right fun a ha => by have := h4 a ha; omega
      · unfold versionS
        rw [hr, hw2, e1]
        rfl
set_option maxHeartbeats 8000000 in
theorem versions_law (l : List Allow) (b1 : Bool) (m : List Allow) (b2 : Bool) (t : TimeA) : F_law31_SeasonVersions [SL 4 encA b1 l, SL 4 encA b2 m, .agg (encT t)] [] = some (B true, []) := by
  refine F_law31_SeasonVersions_run rfl ?_ []
  have ff := F_ref31_Few_val l (b1 && l.isEmpty)
  have fm := F_ref31_Few_val m (b2 && m.isEmpty)
  change ∀ h, _ = some (B (fewA l.length), h) at ff
  change ∀ h, _ = some (B (fewA m.length), h) at fm
  cases hf : fewA l.length with
  | false => rw [hf] at ff; simp [f_law31_SeasonVersions, boxE, encT, F_law31_awake_val, ff]
  | true =>
    have hl := fewA_bd hf
    rw [hf] at ff
    cases hg : fewA m.length with
    | false => rw [hg] at fm; simp [f_law31_SeasonVersions, boxE, encT, F_law31_awake_val, ff, fm]
    | true =>
      have hm := fewA_bd hg
      rw [hg] at fm
      have c0 := F_slices_Clone_Allowance_val l b1 (by omega)
      have c1 := F_slices_Clone_Allowance_val m b2 (by omega)
      have a1 := F_season_Add_val l m (b1 && l.isEmpty) (b2 && m.isEmpty)
      by_cases he : addE l m = 0
      · obtain ⟨c, tl, hmc, hcase⟩ := versions_plain he t.cls t.frm
        have hL : addL l m = l ++ m := by unfold addL; rw [if_pos he]
        rw [he, hL] at a1
        have d0 := G_slices_Clone_Allowance_val l b1 (by omega)
        have d1 := G_slices_Clone_Allowance_val m b2 (by omega)
        have hne : (l ++ m).isEmpty = false := by rw [hmc]; simp
        have d2 : ∀ (h : Hp) (base : Nat), G_slices_Clone_Allowance [.lst 4 false ((l ++ m).map encA)] h base = some (.lst 4 false ((l ++ m).map encA), EF []) := G_slices_Clone_Allowance_val (l ++ m) false (by simp; omega)
        have r1 := G_season_Rate_val (l ++ m) false t.cls t.frm
        have r2 := G_season_Rate_val l (b1 && l.isEmpty) t.cls t.frm
        have r3 := G_season_Rate_val m (b2 && m.isEmpty) t.cls t.frm
        have v1 := F_season_Version_val (l ++ m) false t.frm
        have hm0 : m[0]? = some c := by rw [hmc]; rfl
        have hml : ((m.length : Int) == 0) = false := by rw [hmc]; simp; omega
        have i0 : ∀ (b : Bool) (k : Go.AM.K AV), iaK 4 (.lst 4 b (m.map encA)) (I 0) k = k (.ep (encA c) 0) := fun b k => iaK_at 0 rfl hm0 k
        have ln2 : ∀ (b : Bool) (k : Go.AM.K AV), lenK (.lst 4 b (m.map encA)) k = k (I m.length) := fun b k => by simp
        simp only [encA] at i0
        simp only [SL] at *
        generalize (l ++ m).map encA = LM at *
        generalize m.map encA = M at *
        generalize l.map encA = L at *
        rcases hcase with ⟨e, h0, k1, k2, k3⟩ | ⟨x, y, z, k1, k2, k3, k4, k5⟩
        · rw [k1] at r1
          rw [k2] at r2
          rw [k3] at r3
          have h0' : (e == 0) = false := by simpa using h0
          simp (maxSteps := 10000000) [f_law31_SeasonVersions, boxE, encT, F_law31_awake_val, ff, fm, c0, c1, a1, d0, d1, d2, r1, r2, r3, hml, ln2, h0', disjAll, disj2, wrOf, ap, idsOf, EF]
        · rw [k1] at r1
          rw [k2] at r2
          rw [k3] at r3
          by_cases hd : t.frm < c.frm
          · obtain ⟨rfl, rfl⟩ := k4 hd
            simp (maxSteps := 10000000) [f_law31_SeasonVersions, boxE, encT, F_law31_awake_val, ff, fm, c0, c1, a1, d0, d1, d2, r1, r2, r3, hml, ln2, i0, hd, disjAll, disj2, wrOf, ap, idsOf, EF]
          · obtain ⟨rfl, k6⟩ := k5 hd
            rw [k6] at v1
            simp (maxSteps := 10000000) [f_law31_SeasonVersions, boxE, encT, F_law31_awake_val, ff, fm, c0, c1, a1, d0, d1, d2, r1, r2, r3, hml, ln2, i0, hd, v1, disjAll, disj2, wrOf, ap, idsOf, EF]
      · have hL : addL l m = [] := by unfold addL; rw [if_neg he]
        have he' : (addE l m == 0) = false := by simpa using he
        rw [hL] at a1
        simp (maxSteps := 10000000) [f_law31_SeasonVersions, boxE, encT, F_law31_awake_val, ff, fm, c0, c1, a1, he, he', disjAll, disj2, wrOf, ap, idsOf, EF]
end Go.AM

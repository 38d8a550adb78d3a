import Derived.Test.YtoamikbdfedngaaGreatG6
set_option linter.unusedSectionVars false
set_option linter.unusedVariables false
set_option linter.unusedSimpArgs false
set_option linter.constructorNameAsVariable false
namespace Go.AM
open Go.Proofs
set_option linter.unusedVariables false
set_option linter.unusedSimpArgs false
set_option linter.constructorNameAsVariable false
set_option maxRecDepth 20000
def ofk (mv k : Int) (l : List Msg) : List Msg := l.filter fun m => m.mv == mv && m.kind == k
theorem ofk_snoc (mv k : Int) (l : List Msg) (m : Msg) : ofk mv k (l ++ [m]) = if m.mv = mv ∧ m.kind = k then ofk mv k l ++ [m] else ofk mv k l := by
  unfold ofk
  rw [List.filter_append]
  by_cases h : m.mv = mv ∧ m.kind = k
  · simp [h]
  · rw [if_neg h]
    have : (m.mv == mv && m.kind == k) = false := by
      rw [Bool.eq_false_iff]; intro q; simp at q; exact h q
    simp [this]
theorem mem_ofk {mv k : Int} {l : List Msg} {m : Msg} : m ∈ ofk mv k l ↔ m ∈ l ∧ m.mv = mv ∧ m.kind = k := by unfold ofk; simp
def docS (mv : Int) (l : List Msg) : Docu :=
  match (ofk mv 1 l).getLast? with
  | none => noneD mv
  | some d =>
    if 1 < (ofk mv 1 l).length ∨ 1 < (ofk mv 3 l).length + (ofk mv 4 l).length ∨ ¬ ((ofk mv 2 l).map (·.num)).Nodup then confD mv
    else ⟨mv, if ofk mv 3 l = [] ∧ ofk mv 4 l = [] then 1 else if ofk mv 5 l ≠ [] then 4 else if ofk mv 4 l = [] then 2 else 3, d.frm, match (ofk mv 2 l).getLast? with | some c => c.to | none => d.to, d.alc, (((ofk mv 3 l).getLast?).map (·.alc)).getD 0, (ofk mv 2 l).length⟩
theorem checkM_kind {m : Msg} (h : checkM m = 0) : 1 ≤ m.kind ∧ m.kind ≤ 5 ∧ 1 ≤ m.mv ∧ m.mv ≤ 1073741824 ∧ formM m = true := by
  unfold checkM at h
  split at h
  · simp at h
  · rename_i hr
    split at h
    · rename_i hf
      simp [rangeM] at hr
      exact ⟨by omega, by omega, by omega, by omega, hf⟩
    · simp at h
theorem checkM_num {m : Msg} (h : checkM m = 0) : m.kind = 1 ∨ m.kind = 3 ∨ m.kind = 4 ∨ m.kind = 5 → m.num = 0 := by
  obtain ⟨-, -, -, -, hf⟩ := checkM_kind h
  rintro (k | k | k | k) <;> simp [formM, k] at hf <;> simp_all
theorem ltM_lex {a b : Msg} (h : ltM a b = true) : a.mv ≤ b.mv ∧ (a.mv = b.mv → a.kind ≤ b.kind ∧ (a.kind = b.kind → a.num ≤ b.num)) := by
  unfold ltM cellsM at h
  simp only [ltZ_cons, Bool.or_eq_true, Bool.and_eq_true, decide_eq_true_eq] at h
  omega
def partM (m : Msg) : Option (Int × Int) := if m.kind = 5 then none else if m.kind = 4 then some (3, m.num) else some (m.kind, m.num)
abbrev keysD {α : Type} (c : List ((Int × Int) × α)) : Prop := c.Pairwise fun a b => a.1 ≠ b.1
theorem updT_mem {α : Type} : ∀ {c : List ((Int × Int) × α)} {p : Int × Int} {x : α} {e : (Int × Int) × α}, e ∈ updT c p x → e = (p, x) ∨ e ∈ c
  | [], p, x, e, h => by simp [updT] at h; exact .inl h
  | (q, y) :: c, p, x, e, h => by
    simp only [updT] at h
    split at h
    · rcases List.mem_cons.1 h with h | h
      · exact .inl h
      · exact .inr (by simp [h])
    · rcases List.mem_cons.1 h with h | h
      · exact .inr (by simp [h])
      · rcases updT_mem h with h | h
        · exact .inl h
        · exact .inr (by simp [h])
theorem keysD_upd {α : Type} : ∀ {c : List ((Int × Int) × α)} (p : Int × Int) (x : α), keysD c → keysD (updT c p x)
  | [], p, x, h => by simp [updT]
  | (q, y) :: c, p, x, h => by
    rw [keysD, List.pairwise_cons] at h
    simp only [updT]
    split
    · rename_i e
      subst e
      rw [keysD, List.pairwise_cons]
      exact h
    · rename_i e
      rw [keysD, List.pairwise_cons]
      refine ⟨fun z hz => ?_, keysD_upd p x h.2⟩
      rcases updT_mem hz with rfl | hz
      · exact fun q => e q.symm
      · exact h.1 z hz
theorem fndT_of_mem {α : Type} : ∀ {c : List ((Int × Int) × α)} {e : (Int × Int) × α}, keysD c → e ∈ c → (fndT c e.1).map (·.2) = some e.2
  | [], e, _, h => by simp at h
  | (q, y) :: c, e, hk, h => by
    rw [keysD, List.pairwise_cons] at hk
    rcases List.mem_cons.1 h with rfl | h
    · simp [fndT]
    · have : ¬ e.1 = q := fun q => hk.1 e h q.symm
      simp only [fndT, if_neg this, Option.map_map]
      have ih := fndT_of_mem hk.2 h
      rw [← ih]
      rfl
theorem cntP_bump (c : List ((Int × Int) × Int)) (p q : Int × Int) : cntP (bumpP c p) q = if q = p then IntKind.i64.wrap (cntP c p + 1) else cntP c q := by
  unfold cntP bumpP
  rw [fndT_upd]
  split <;> rfl
theorem any_cnt {c : List ((Int × Int) × Int)} (hk : keysD c) : (c.any fun e => decide (1 < e.2)) = true ↔ ∃ p, 1 < cntP c p := by
  rw [List.any_eq_true]
  constructor
  · rintro ⟨e, he, h⟩
    refine ⟨e.1, ?_⟩
    unfold cntP
    rw [fndT_of_mem hk he]
    simpa using h
  · rintro ⟨p, h⟩
    unfold cntP at h
    cases hf : fndT c p with
    | none => rw [hf] at h; simp at h
    | some r =>
      obtain ⟨j, x⟩ := r
      rw [hf] at h
      exact ⟨(p, x), List.mem_of_getElem? (fndT_get hf).1, by simpa using h⟩
structure InF (mv : Int) (l : List Msg) (s : Fol) : Prop where
  mve : s.d.mv = mv
  stage : s.d.stage = if ofk mv 1 l = [] then 0 else 1
  frm : s.d.frm = (((ofk mv 1 l).getLast?).map (·.frm)).getD 0
  sent : s.d.sent = (((ofk mv 1 l).getLast?).map (·.alc)).getD 0
  to : s.d.to = match (ofk mv 2 l).getLast? with | some c => c.to | none => (((ofk mv 1 l).getLast?).map (·.to)).getD 0
  got : s.d.got = (((ofk mv 3 l).getLast?).map (·.alc)).getD 0
  chg : s.d.chg = (ofk mv 2 l).length
  en : s.en = !(ofk mv 5 l).isEmpty
  an : s.an = if ofk mv 4 l ≠ [] then 3 else if ofk mv 3 l ≠ [] then 2 else 0
  cnt : ∀ p, cntP s.cnt p = (l.countP fun m => m.mv == mv && partM m == some p : Nat)
  keys : keysD s.cnt
theorem ofk_len (mv k : Int) (l : List Msg) : (ofk mv k l).length ≤ l.length := List.length_filter_le _ _
theorem InF.step {mv : Int} {l : List Msg} {s : Fol} {m : Msg} (H : InF mv l s) (hs : Srt (l ++ [m])) (hm : checkM m = 0) (hl : l.length < 1000000) : InF mv (l ++ [m]) (stepF mv s m) := by
  obtain ⟨k0, k5, -⟩ := checkM_kind hm
  have hlt : ∀ x ∈ l, ltM x m = true := fun x hx => by
    rw [Srt, List.pairwise_append] at hs
    exact hs.2.2 x hx m (by simp)
  by_cases hmv : m.mv = mv
  · have noK : ∀ k, m.kind < k → ofk mv k l = [] := fun k hk => by
      rw [List.eq_nil_iff_forall_not_mem]
      intro x hx
      obtain ⟨h1, h2, h3⟩ := mem_ofk.1 hx
      have := ltM_lex (hlt x h1)
      have h4 := this.2 (by omega)
      omega
    have wr : IntKind.i64.wrap (((ofk mv 2 l).length : Int) + 1) = (((ofk mv 2 l).length + 1 : Nat) : Int) := by
      have := ofk_len mv 2 l
      rw [wrap64 (by omega) (by omega)]; rfl
    have cn : ∀ (p q : Int × Int) (b : Bool), ((partM m == some q) = b) → cntP s.cnt q = (l.countP fun m => m.mv == mv && partM m == some q : Nat) → (((l ++ [m]).countP fun m => m.mv == mv && partM m == some q : Nat) : Int) = cntP s.cnt q + if b = true then 1 else 0 := by
      intro p q b hb hc
      rw [List.countP_append, hc]
      simp [hmv, hb]
      cases b <;> rfl
    have wc : ∀ q, IntKind.i64.wrap (cntP s.cnt q + 1) = cntP s.cnt q + 1 := fun q => by
      have h1 := H.cnt q
      have h2 := List.countP_le_length (p := fun m : Msg => m.mv == mv && partM m == some q) (l := l)
      rw [wrap64 (by omega) (by omega)]
    have cb : ∀ p, partM m = some p → ∀ q, cntP (bumpP s.cnt p) q = ((l ++ [m]).countP fun m => m.mv == mv && partM m == some q : Nat) := fun p hp q => by
      rw [cntP_bump]
      by_cases e : q = p
      · subst e
        rw [if_pos rfl, wc, cn q q true (by simp [hp]) (H.cnt q)]; simp
      · rw [if_neg e, cn p q false (by simp [hp]; exact fun h => e h.symm) (H.cnt q)]; simp
    have kb : ∀ p, keysD (bumpP s.cnt p) := fun p => keysD_upd p _ H.keys
    have hk : m.kind = 1 ∨ m.kind = 2 ∨ m.kind = 3 ∨ m.kind = 4 ∨ m.kind = 5 := by omega
    rcases hk with k | k | k | k | k
    · have e2 := noK 2 (by omega)
      have st : stepF mv s m = { s with d := { s.d with stage := 1, frm := m.frm, to := m.to, sent := m.alc }, cnt := bumpP s.cnt (m.kind, m.num) } := by simp [stepF, hmv, k]
      rw [st]
      exact ⟨H.mve, by simp [ofk_snoc, hmv, k], by simp [ofk_snoc, hmv, k], by simp [ofk_snoc, hmv, k], by simp [ofk_snoc, hmv, k, e2], by simp [ofk_snoc, hmv, k, H.got], by simp [ofk_snoc, hmv, k, H.chg], by simp [ofk_snoc, hmv, k, H.en], by simp [ofk_snoc, hmv, k, H.an], cb _ (by simp [partM, k]), kb _⟩
    · have st : stepF mv s m = { s with d := { s.d with to := m.to, chg := IntKind.i64.wrap (s.d.chg + 1) }, cnt := bumpP s.cnt (m.kind, m.num) } := by simp [stepF, hmv, k]
      rw [st]
      exact ⟨H.mve, by simp [ofk_snoc, hmv, k, H.stage], by simp [ofk_snoc, hmv, k, H.frm], by simp [ofk_snoc, hmv, k, H.sent], by simp [ofk_snoc, hmv, k], by simp [ofk_snoc, hmv, k, H.got], by simp [ofk_snoc, hmv, k, H.chg, wr], by simp [ofk_snoc, hmv, k, H.en], by simp [ofk_snoc, hmv, k, H.an], cb _ (by simp [partM, k]), kb _⟩
    · have e4 := noK 4 (by omega)
      have st : stepF mv s m = { s with d := { s.d with got := m.alc }, an := 2, cnt := bumpP s.cnt (m.kind, m.num) } := by simp [stepF, hmv, k]
      rw [st]
      exact ⟨H.mve, by simp [ofk_snoc, hmv, k, H.stage], by simp [ofk_snoc, hmv, k, H.frm], by simp [ofk_snoc, hmv, k, H.sent], by simp [ofk_snoc, hmv, k, H.to], by simp [ofk_snoc, hmv, k], by simp [ofk_snoc, hmv, k, H.chg], by simp [ofk_snoc, hmv, k, H.en], by simp [ofk_snoc, hmv, k, e4], cb _ (by simp [partM, k]), kb _⟩
    · have st : stepF mv s m = { s with an := 3, cnt := bumpP s.cnt (3, m.num) } := by simp [stepF, hmv, k]
      rw [st]
      exact ⟨H.mve, by simp [ofk_snoc, hmv, k, H.stage], by simp [ofk_snoc, hmv, k, H.frm], by simp [ofk_snoc, hmv, k, H.sent], by simp [ofk_snoc, hmv, k, H.to], by simp [ofk_snoc, hmv, k, H.got], by simp [ofk_snoc, hmv, k, H.chg], by simp [ofk_snoc, hmv, k, H.en], by simp [ofk_snoc, hmv, k], cb _ (by simp [partM, k]), kb _⟩
    · have st : stepF mv s m = { s with en := true } := by simp [stepF, hmv, k]
      rw [st]
      exact ⟨H.mve, by simp [ofk_snoc, hmv, k, H.stage], by simp [ofk_snoc, hmv, k, H.frm], by simp [ofk_snoc, hmv, k, H.sent], by simp [ofk_snoc, hmv, k, H.to], by simp [ofk_snoc, hmv, k, H.got], by simp [ofk_snoc, hmv, k, H.chg], by simp [ofk_snoc, hmv, k], by simp [ofk_snoc, hmv, k, H.an], fun q => by rw [cn q q false (by simp [partM, k]) (H.cnt q)]; simp, H.keys⟩
  · have st : stepF mv s m = s := by simp [stepF, hmv]
    have ek : ∀ k, ofk mv k (l ++ [m]) = ofk mv k l := fun k => by rw [ofk_snoc, if_neg (by simp [hmv])]
    rw [st]
    exact ⟨H.mve, by rw [ek]; exact H.stage, by rw [ek]; exact H.frm, by rw [ek]; exact H.sent, by rw [ek, ek]; exact H.to, by rw [ek]; exact H.got, by rw [ek]; exact H.chg, by rw [ek]; exact H.en, by rw [ek, ek]; exact H.an, fun p => by rw [List.countP_append, H.cnt p]; simp [hmv], H.keys⟩
theorem InF.beg (mv : Int) : InF mv [] (begF mv) := ⟨rfl, rfl, rfl, rfl, rfl, rfl, rfl, rfl, rfl, fun p => rfl, .nil⟩
theorem InF.all {mv : Int} {l : List Msg} (hs : Srt l) (hv : ∀ m ∈ l, checkM m = 0) (hl : l.length < 1000000) : ∀ i, i ≤ l.length → InF mv (l.take i) (folF mv (l.take i))
  | 0, _ => by rw [List.take_zero]; exact InF.beg mv
  | i + 1, hi => by
    have ih := InF.all (mv := mv) hs hv hl i (by omega)
    have hx : l[i]? = some l[i] := List.getElem?_eq_getElem (by omega)
    have ht := take_succ_get hx
    have : folF mv (l.take (i + 1)) = stepF mv (folF mv (l.take i)) l[i] := by
      unfold folF; rw [ht, List.foldl_append]; rfl
    rw [this, ht]
    refine ih.step ?_ (hv _ (List.getElem_mem _)) (by simp; omega)
    rw [← ht]
    exact hs.sublist (List.take_sublist _ _)
theorem conflict_iff {mv : Int} {l : List Msg} (hv : ∀ m ∈ l, checkM m = 0) : (∃ p, 1 < (l.countP fun m => m.mv == mv && partM m == some p)) ↔ (1 < (ofk mv 1 l).length ∨ 1 < (ofk mv 3 l).length + (ofk mv 4 l).length ∨ ¬ ((ofk mv 2 l).map (·.num)).Nodup) := by
  have h1 : (l.countP fun m => m.mv == mv && partM m == some (1, 0)) = (ofk mv 1 l).length := by
    unfold ofk
    rw [← List.countP_eq_length_filter]
    refine List.countP_congr fun m hm => ?_
    have hk := checkM_kind (hv m hm)
    have hn := checkM_num (hv m hm)
    simp only [Bool.and_eq_true, beq_iff_eq, partM]
    constructor
    · rintro ⟨a, b⟩
      refine ⟨a, ?_⟩
      split at b
      · simp at b
      · split at b
        · simp at b
        · simp at b; exact b.1
    · rintro ⟨a, b⟩
      exact ⟨a, by simp [b, hn (.inl b)]⟩
  have h3 : (l.countP fun m => m.mv == mv && partM m == some (3, 0)) = (ofk mv 3 l).length + (ofk mv 4 l).length := by
    unfold ofk
    rw [← List.countP_eq_length_filter, ← List.countP_eq_length_filter]
    clear h1
    induction l with
    | nil => rfl
    | cons m l ih =>
      have ih := ih fun x hx => hv x (by simp [hx])
      have hn := checkM_num (hv m (by simp))
      simp only [List.countP_cons, ih]
      by_cases hmv : m.mv = mv
      · by_cases q5 : m.kind = 5
        · simp [partM, hmv, q5]
        · by_cases q4 : m.kind = 4
          · simp [partM, hmv, q4, hn (.inr (.inr (.inl q4)))]; omega
          · by_cases q3 : m.kind = 3
            · simp [partM, hmv, q3, hn (.inr (.inl q3))]; omega
            · simp [partM, hmv, q5, q4, q3]
      · simp [hmv]
  have h2 : ∀ j, (l.countP fun m => m.mv == mv && partM m == some (2, j)) = ((ofk mv 2 l).map (·.num)).count j := by
    intro j
    clear h1 h3
    rw [List.count_eq_countP, List.countP_map]
    unfold ofk
    rw [List.countP_filter]
    refine List.countP_congr fun m hm => ?_
    simp only [Bool.and_eq_true, beq_iff_eq, partM, Function.comp]
    constructor
    · rintro ⟨a, b⟩
      split at b
      · simp at b
      · split at b
        · simp at b
        · simp at b; exact ⟨b.2, a, b.1⟩
    · rintro ⟨a, b, c⟩
      exact ⟨b, by simp [c, a]⟩
  constructor
  · rintro ⟨⟨a, b⟩, h⟩
    -- the key is one of these
    obtain ⟨m, hm, hp⟩ := List.countP_pos_iff.1 (by omega : 0 < l.countP fun m => m.mv == mv && partM m == some (a, b))
    simp only [Bool.and_eq_true, beq_iff_eq] at hp
    have hk := checkM_kind (hv m hm)
    have hn := checkM_num (hv m hm)
    have hpp := hp.2
    unfold partM at hpp
    split at hpp
    · simp at hpp
    · split at hpp
      · rename_i q5 q4
        simp at hpp
        obtain ⟨rfl, rfl⟩ := hpp
        rw [hn (.inr (.inr (.inl q4))), h3] at h
        exact .inr (.inl h)
      · rename_i q5 q4
        simp at hpp
        obtain ⟨rfl, rfl⟩ := hpp
        have : m.kind = 1 ∨ m.kind = 2 ∨ m.kind = 3 := by omega
        rcases this with k | k | k
        · rw [k, hn (.inl k), h1] at h; exact .inl h
        · rw [k, h2] at h
          refine .inr (.inr fun hnd => ?_)
          rw [List.nodup_iff_count] at hnd
          have := hnd m.num
          omega
        · rw [k, hn (.inr (.inl k)), h3] at h; exact .inr (.inl h)
  · rintro (h | h | h)
    · exact ⟨(1, 0), by rw [h1]; exact h⟩
    · exact ⟨(3, 0), by rw [h3]; exact h⟩
    · rw [List.nodup_iff_count] at h
      simp only [Classical.not_forall] at h
      obtain ⟨j, hj⟩ := h
      exact ⟨(2, j), by rw [h2]; omega⟩
theorem docF_eq {mv : Int} {l : List Msg} (hs : Srt l) (hv : ∀ m ∈ l, checkM m = 0) (hl : l.length < 1000000) : docF mv l = docS mv l := by
  have H := InF.all (mv := mv) hs hv hl l.length (Nat.le_refl _)
  rw [List.take_length] at H
  unfold docF
  generalize folF mv l = s at *
  unfold endF docS
  cases hd : (ofk mv 1 l).getLast? with
  | none =>
    have h0 : ofk mv 1 l = [] := List.getLast?_eq_none_iff.1 hd
    rw [if_pos (by rw [H.stage, if_pos h0])]
  | some d =>
    have h0 : ofk mv 1 l ≠ [] := fun e => by rw [e] at hd; simp at hd
    have hst : s.d.stage = 1 := by rw [H.stage, if_neg h0]
    rw [if_neg (by rw [hst]; decide)]
    simp only []
    have hc : (s.cnt.any fun e => decide (1 < e.2)) = true ↔ (1 < (ofk mv 1 l).length ∨ 1 < (ofk mv 3 l).length + (ofk mv 4 l).length ∨ ¬ ((ofk mv 2 l).map (·.num)).Nodup) := by
      rw [any_cnt H.keys, ← conflict_iff hv]
      constructor
      · rintro ⟨p, h⟩; rw [H.cnt] at h; exact ⟨p, by omega⟩
      · rintro ⟨p, h⟩; exact ⟨p, by rw [H.cnt]; omega⟩
    by_cases hcc : (s.cnt.any fun e => decide (1 < e.2)) = true
    · rw [if_pos hcc, if_pos (hc.1 hcc)]
    · rw [if_neg hcc, if_neg fun h => hcc (hc.2 h)]
      obtain ⟨⟨d0, d1, d2, d3, d4, d5, d6⟩, en, an, c⟩ := s
      obtain ⟨q1, q2, q3, q4, q5, q6, q7, q8, q9, -, -⟩ := H
      simp only at q1 q2 q3 q4 q5 q6 q7 q8 q9 hst
      rw [hd] at q3 q4 q5
      subst q1 q3 q4 q6 q7 q8 q9 hst
      simp only [Option.map_some, Option.getD_some] at q5 ⊢
      subst q5
      by_cases r3 : ofk d0 3 l = []
      · by_cases r4 : ofk d0 4 l = []
        · simp [r3, r4]
        · by_cases r5 : ofk d0 5 l = []
          · simp [r3, r4, r5]
          · simp [r3, r4, r5]
      · by_cases r4 : ofk d0 4 l = []
        · by_cases r5 : ofk d0 5 l = []
          · simp [r3, r4, r5]
          · simp [r3, r4, r5]
        · by_cases r5 : ofk d0 5 l = []
          · simp [r3, r4, r5]
          · simp [r3, r4, r5]
end Go.AM


namespace Go.AM
open Go.Proofs
set_option linter.unusedVariables false
set_option linter.unusedSimpArgs false
set_option linter.constructorNameAsVariable false
set_option maxRecDepth 20000
attribute [local congr] arithK_cg eqK_cg notK_cg convK_cg pickK_cg buildK_cg ldK_cg nilK_cg sliceK_cg faK_cg fldK_cg iaK_cg iaA_cg lookK_cg capK_cg exK_cg lenK_cg minK_cg maxK_cg effK_cg callK_cg callVK_cg effD_cg gopD_cg grpK_cg condK_cg cond_cg
structure Frs where
  d : Docu
  dis : Int
  ans : Int
  en : Int
  cf : Bool
  rf : Bool
def stepR (mv : Int) (p : Msg) (s : Frs) (m : Msg) : Frs :=
  if m.mv ≠ mv then s
  else if m.kind = 1 then { s with d := { s.d with frm := m.frm, to := m.to, sent := m.alc }, dis := IntKind.i64.wrap (s.dis + 1) }
  else if m.kind = 2 then { s with d := { s.d with to := m.to, chg := IntKind.i64.wrap (s.d.chg + 1) }, cf := s.cf || (p.mv == mv && p.kind == m.kind && p.num == m.num) }
  else if m.kind = 3 then { s with d := { s.d with got := m.alc }, ans := IntKind.i64.wrap (s.ans + 1) }
  else if m.kind = 4 then { s with ans := IntKind.i64.wrap (s.ans + 1), rf := true }
  else { s with en := IntKind.i64.wrap (s.en + 1) }
def foldR (mv : Int) : Msg → Frs → List Msg → Frs
  | _, s, [] => s
  | p, s, m :: l => foldR mv m (stepR mv p s m) l
def begR (mv : Int) : Frs := ⟨noneD mv, 0, 0, 0, false, false⟩
def zeroM : Msg := ⟨0, 0, 0, 0, 0, 0, 0⟩
section
variable {β : Type}
variable {o0 o1 : AObj} {g t : Hp} {m : Msg}
end
end Go.AM


namespace Go.AM
open Go.Proofs
set_option linter.unusedVariables false
set_option linter.unusedSimpArgs false
set_option linter.constructorNameAsVariable false
set_option maxRecDepth 20000
structure InR (mv : Int) (l : List Msg) (s : Frs) : Prop where
  mve : s.d.mv = mv
  stage : s.d.stage = 0
  frm : s.d.frm = (((ofk mv 1 l).getLast?).map (·.frm)).getD 0
  sent : s.d.sent = (((ofk mv 1 l).getLast?).map (·.alc)).getD 0
  to : s.d.to = match (ofk mv 2 l).getLast? with | some c => c.to | none => (((ofk mv 1 l).getLast?).map (·.to)).getD 0
  got : s.d.got = (((ofk mv 3 l).getLast?).map (·.alc)).getD 0
  chg : s.d.chg = (ofk mv 2 l).length
  dis : s.dis = (ofk mv 1 l).length
  ans : s.ans = ((ofk mv 3 l).length + (ofk mv 4 l).length : Nat)
  en : s.en = (ofk mv 5 l).length
  rf : s.rf = !(ofk mv 4 l).isEmpty
  cf : s.cf = decide (¬ ((ofk mv 2 l).map (·.num)).Nodup)
theorem srt_last {l : List Msg} {m p x : Msg} (hs : Srt (l ++ [m])) (hp : (zeroM :: l).getLast? = some p) (hx : x ∈ l) : p ∈ l ∧ (x = p ∨ ltM x p = true) := by
  rcases List.eq_nil_or_concat l with rfl | ⟨l', q, rfl⟩
  · simp at hx
  · rw [List.concat_eq_append] at *
    have : p = q := by rw [← List.cons_append, List.getLast?_append] at hp; simpa using hp.symm
    subst this
    refine ⟨by simp, ?_⟩
    rcases List.mem_append.1 hx with hx | hx
    · right
      rw [Srt, List.append_assoc, List.pairwise_append] at hs
      exact hs.2.2 x hx p (by simp)
    · simp at hx; exact .inl hx
theorem InR.step {mv : Int} {l : List Msg} {s : Frs} {m p : Msg} (H : InR mv l s) (hs : Srt (l ++ [m])) (hm : checkM m = 0) (hp : (zeroM :: l).getLast? = some p) (h0 : mv ≠ 0) (hl : l.length < 1000000) : InR mv (l ++ [m]) (stepR mv p s m) := by
  obtain ⟨k0, k5, -⟩ := checkM_kind hm
  have hlt : ∀ x ∈ l, ltM x m = true := fun x hx => by
    rw [Srt, List.pairwise_append] at hs
    exact hs.2.2 x hx m (by simp)
  by_cases hmv : m.mv = mv
  · have noK : ∀ k, m.kind < k → ofk mv k l = [] := fun k hk => by
      rw [List.eq_nil_iff_forall_not_mem]
      intro x hx
      obtain ⟨h1, h2, h3⟩ := mem_ofk.1 hx
      have := ltM_lex (hlt x h1)
      have h4 := this.2 (by omega)
      omega
    have wr : ∀ k, IntKind.i64.wrap (((ofk mv k l).length : Int) + 1) = ((ofk mv k l).length : Int) + 1 := fun k => by
      have := ofk_len mv k l
      rw [wrap64 (by omega) (by omega)]
    have wa : IntKind.i64.wrap (((((ofk mv 3 l).length + (ofk mv 4 l).length : Nat)) : Int) + 1) = ((((ofk mv 3 l).length + (ofk mv 4 l).length : Nat)) : Int) + 1 := by
      have h3 := ofk_len mv 3 l
      have h4 := ofk_len mv 4 l
      rw [wrap64 (by omega) (by omega)]
    have hk : m.kind = 1 ∨ m.kind = 2 ∨ m.kind = 3 ∨ m.kind = 4 ∨ m.kind = 5 := by omega
    rcases hk with k | k | k | k | k
    · have e2 := noK 2 (by omega)
      have st : stepR mv p s m = { s with d := { s.d with frm := m.frm, to := m.to, sent := m.alc }, dis := IntKind.i64.wrap (s.dis + 1) } := by simp [stepR, hmv, k]
      rw [st]
      exact ⟨H.mve, H.stage, by simp [ofk_snoc, hmv, k], by simp [ofk_snoc, hmv, k], by simp [ofk_snoc, hmv, k, e2], by simp [ofk_snoc, hmv, k, H.got], by simp [ofk_snoc, hmv, k, H.chg], by simp [ofk_snoc, hmv, k, H.dis, wr], by simp [ofk_snoc, hmv, k, H.ans], by simp [ofk_snoc, hmv, k, H.en], by simp [ofk_snoc, hmv, k, H.rf], by simp [ofk_snoc, hmv, k, H.cf]⟩
    · have st : stepR mv p s m = { s with d := { s.d with to := m.to, chg := IntKind.i64.wrap (s.d.chg + 1) }, cf := s.cf || (p.mv == mv && p.kind == m.kind && p.num == m.num) } := by simp [stepR, hmv, k]
      rw [st]
      refine ⟨H.mve, H.stage, by simp [ofk_snoc, hmv, k, H.frm], by simp [ofk_snoc, hmv, k, H.sent], by simp [ofk_snoc, hmv, k], by simp [ofk_snoc, hmv, k, H.got], by simp [ofk_snoc, hmv, k, H.chg, wr], by simp [ofk_snoc, hmv, k, H.dis], by simp [ofk_snoc, hmv, k, H.ans], by simp [ofk_snoc, hmv, k, H.en], by simp [ofk_snoc, hmv, k, H.rf], ?_⟩
      rw [ofk_snoc, if_pos ⟨hmv, k⟩, List.map_append, H.cf]
      rw [Bool.eq_iff_iff]
      simp only [Bool.or_eq_true, Bool.and_eq_true, beq_iff_eq, decide_eq_true_eq]
      rw [List.nodup_append]
      have key : (p.mv = mv ∧ p.kind = m.kind) ∧ p.num = m.num ↔ ∃ x ∈ ofk mv 2 l, x.num = m.num := by
        constructor
        · rintro ⟨⟨h1, h2⟩, h3⟩
          have hpl : p ∈ l := by
            rcases List.eq_nil_or_concat l with rfl | ⟨l', q, rfl⟩
            · simp at hp; subst hp; exact absurd h1.symm h0
            · rw [List.concat_eq_append, ← List.cons_append, List.getLast?_append] at hp
              have : q = p := by simpa using hp
              simp [this]
          exact ⟨p, mem_ofk.2 ⟨hpl, h1, by omega⟩, h3⟩
        · rintro ⟨x, hx, h3⟩
          obtain ⟨h1, h2, h4⟩ := mem_ofk.1 hx
          obtain ⟨hpl, hxp⟩ := srt_last hs hp h1
          rcases hxp with rfl | hxp
          · exact ⟨⟨h2, by omega⟩, h3⟩
          · have a1 := ltM_lex hxp
            have a2 := ltM_lex (hlt p hpl)
            omega
      constructor
      · rintro (h | h)
        · exact fun q => h q.1
        · obtain ⟨x, hx, hxn⟩ := key.1 h
          intro q
          exact q.2.2 x.num (List.mem_map.2 ⟨x, hx, rfl⟩) m.num (by simp) hxn
      · intro h
        by_cases hn : ((ofk mv 2 l).map (·.num)).Nodup
        · right
          refine key.2 ?_
          rcases Classical.em (∃ x ∈ ofk mv 2 l, x.num = m.num) with h2 | h2
          · exact h2
          · refine absurd ⟨hn, by simp, ?_⟩ h
            intro a ha b hb hab
            obtain ⟨x, hx, rfl⟩ := List.mem_map.1 ha
            simp at hb
            exact h2 ⟨x, hx, by rw [hab, hb]⟩
        · exact .inl hn
    · have st : stepR mv p s m = { s with d := { s.d with got := m.alc }, ans := IntKind.i64.wrap (s.ans + 1) } := by simp [stepR, hmv, k]
      rw [st]
      exact ⟨H.mve, H.stage, by simp [ofk_snoc, hmv, k, H.frm], by simp [ofk_snoc, hmv, k, H.sent], by simp [ofk_snoc, hmv, k, H.to], by simp [ofk_snoc, hmv, k], by simp [ofk_snoc, hmv, k, H.chg], by simp [ofk_snoc, hmv, k, H.dis], by rw [H.ans, wa, ofk_snoc, ofk_snoc, if_pos ⟨hmv, k⟩, if_neg (by omega), List.length_append]; simp; omega, by simp [ofk_snoc, hmv, k, H.en], by simp [ofk_snoc, hmv, k, H.rf], by simp [ofk_snoc, hmv, k, H.cf]⟩
    · have st : stepR mv p s m = { s with ans := IntKind.i64.wrap (s.ans + 1), rf := true } := by simp [stepR, hmv, k]
      rw [st]
      exact ⟨H.mve, H.stage, by simp [ofk_snoc, hmv, k, H.frm], by simp [ofk_snoc, hmv, k, H.sent], by simp [ofk_snoc, hmv, k, H.to], by simp [ofk_snoc, hmv, k, H.got], by simp [ofk_snoc, hmv, k, H.chg], by simp [ofk_snoc, hmv, k, H.dis], by rw [H.ans, wa, ofk_snoc, ofk_snoc, if_neg (by omega), if_pos ⟨hmv, k⟩, List.length_append]; simp; omega, by simp [ofk_snoc, hmv, k, H.en], by simp [ofk_snoc, hmv, k], by simp [ofk_snoc, hmv, k, H.cf]⟩
    · have st : stepR mv p s m = { s with en := IntKind.i64.wrap (s.en + 1) } := by simp [stepR, hmv, k]
      rw [st]
      exact ⟨H.mve, H.stage, by simp [ofk_snoc, hmv, k, H.frm], by simp [ofk_snoc, hmv, k, H.sent], by simp [ofk_snoc, hmv, k, H.to], by simp [ofk_snoc, hmv, k, H.got], by simp [ofk_snoc, hmv, k, H.chg], by simp [ofk_snoc, hmv, k, H.dis], by simp [ofk_snoc, hmv, k, H.ans], by simp [ofk_snoc, hmv, k, H.en, wr], by simp [ofk_snoc, hmv, k, H.rf], by simp [ofk_snoc, hmv, k, H.cf]⟩
  · have st : stepR mv p s m = s := by simp [stepR, hmv]
    have ek : ∀ k, ofk mv k (l ++ [m]) = ofk mv k l := fun k => by rw [ofk_snoc, if_neg (by simp [hmv])]
    rw [st]
    exact ⟨H.mve, H.stage, by rw [ek]; exact H.frm, by rw [ek]; exact H.sent, by rw [ek, ek]; exact H.to, by rw [ek]; exact H.got, by rw [ek]; exact H.chg, by rw [ek]; exact H.dis, by rw [ek, ek]; exact H.ans, by rw [ek]; exact H.en, by rw [ek]; exact H.rf, by rw [ek]; exact H.cf⟩
theorem InR.beg (mv : Int) : InR mv [] (begR mv) := ⟨rfl, rfl, rfl, rfl, rfl, rfl, rfl, rfl, rfl, rfl, rfl, rfl⟩
theorem InR.all {mv : Int} (h0 : mv ≠ 0) : ∀ (post pre : List Msg) (p : Msg) (s : Frs), Srt (pre ++ post) → (∀ m ∈ post, checkM m = 0) → (pre ++ post).length < 1000000 → (zeroM :: pre).getLast? = some p → InR mv pre s → InR mv (pre ++ post) (foldR mv p s post)
  | [], pre, p, s, _, _, _, _, H => by simpa [foldR] using H
  | m :: post, pre, p, s, hs, hv, hl, hp, H => by
    have e : pre ++ m :: post = (pre ++ [m]) ++ post := by simp
    rw [e] at hs hl ⊢
    refine InR.all h0 post (pre ++ [m]) m (stepR mv p s m) hs (fun x hx => hv x (by simp [hx])) hl (by rw [← List.cons_append, List.getLast?_append]; simp) (H.step ?_ (hv m (by simp)) hp h0 (by simp at hl; omega))
    exact hs.sublist (List.sublist_append_left _ _)
end Go.AM


namespace Go.AM
open Go.Proofs
set_option linter.unusedVariables false
set_option linter.unusedSimpArgs false
set_option linter.constructorNameAsVariable false
set_option maxRecDepth 20000
attribute [local congr] arithK_cg eqK_cg notK_cg convK_cg pickK_cg buildK_cg ldK_cg nilK_cg sliceK_cg faK_cg fldK_cg iaK_cg iaA_cg lookK_cg capK_cg exK_cg lenK_cg minK_cg maxK_cg effK_cg callK_cg callVK_cg effD_cg gopD_cg grpK_cg condK_cg cond_cg
def zeroD : Docu := ⟨0, 0, 0, 0, 0, 0, 0⟩
def badMv (mv : Int) : Bool := decide (mv < 1) || decide (1073741824 < mv)
def ofS (l : List Msg) (mv : Int) : Docu × Int := if errM l ≠ 0 then (zeroD, errM l) else if badMv mv = true then (zeroD, 2) else (docS mv (normL l), 0)
def tupD (r : Docu × Int) : AV := .tup [.agg (encDo r.1), I r.2]
theorem normL_ok {l : List Msg} (h : errM l = 0) : (normL l).length ≤ 64 ∧ ∀ m ∈ normL l, checkM m = 0 := by
  obtain ⟨h1, h2⟩ := errM_zero.1 h
  exact ⟨Nat.le_trans (normL_length l) h1, fun m hm => h2 m (mem_normL.1 hm)⟩
theorem ofS_ok {l : List Msg} {mv : Int} (he : errM l = 0) : ofS l mv = if badMv mv = true then (zeroD, 2) else (docS mv (normL l), 0) := if_neg (by simp [he])
theorem F_document_Of_val (l : List Msg) (b : Bool) (mv : Int) (hl : l.length < 1000000) (h : Hp) : F_document_Of [SLm b l, I mv] h = some (tupD (ofS l mv), h) := by
  refine F_document_Of_run (a0 := SLm b l) (a1 := I mv) rfl ?_ h
  have fN := F_document_Normal_val l b hl
  have bz : ∀ k : Go.AM.K AV, buildK zM [] k = k (.agg (encDo zeroD)) := fun k => rfl
  have x0 : ∀ k : Go.AM.K AV, exK (normR b l) 0 k = k (if errM l = 0 then SLm b (normL l) else .lst 7 true []) := fun k => rfl
  have x1 : ∀ k : Go.AM.K AV, exK (normR b l) 1 k = k (I (errM l)) := fun k => rfl
  simp only [nrm, nrmC]
  simp -implicitDefEqProofs only [f_document_Of, bx7_0, t_document_Of_36, callK_F, fN, x0, x1, eqK_int, Bool.true_xor, condK_bool, bz, encDo, zeroD, ew7_0, lw7_0]
  by_cases he : errM l = 0
  · have fo := fun h => F_document_of_val (normL l) (b && (normL l).isEmpty) mv (by have := normL_length l; omega) h
    rw [docF_eq (normL_srt l) (normL_ok he).2 (by have := normL_length l; omega)] at fo
    simp -implicitDefEqProofs only [he, beq_self_eq_true, Bool.not_true, Bool.false_eq_true, if_false, if_true, arithK_lss, arithK_gtr, grpK_or, condK_bool, SLm, t_document_Of_37, callK_F, fo, bz, encDo, zeroD, ew7_0, lw7_0]
    rw [ofS_ok he, show (decide (mv < 1) || decide (1073741824 < mv)) = badMv mv from rfl]
    generalize docS mv (normL l) = d
    cases badMv mv <;> rfl
  · have e : (errM l == 0) = false := by simpa using he
    simp only [e, Bool.not_false, if_true]
    rw [show ofS l mv = (zeroD, errM l) from if_pos he]
    rfl
section
variable {β : Type}
end
end Go.AM


namespace Go.AM
open Go.Proofs
set_option linter.unusedVariables false
set_option linter.unusedSimpArgs false
set_option linter.constructorNameAsVariable false
set_option maxRecDepth 20000
theorem ltM_kn {a b : Msg} (h : a.mv = b.mv) (h2 : a.kind < b.kind ∨ (a.kind = b.kind ∧ a.num < b.num)) : ltM a b = true := by
  obtain ⟨a0, a1, a2, a3, a4, a5, a6⟩ := a
  obtain ⟨b0, b1, b2, b3, b4, b5, b6⟩ := b
  dsimp only at h h2
  subst h
  rcases h2 with h2 | ⟨rfl, h2⟩ <;> simp [ltM, cellsM, ltZ_cons, h2]
theorem ofk_cons_eq {mv k : Int} {m : Msg} {l : List Msg} (h1 : m.mv = mv) (h2 : m.kind = k) : ofk mv k (m :: l) = m :: ofk mv k l := by simp [ofk, h1, h2]
theorem ofk_cons_ne {mv k : Int} {m : Msg} {l : List Msg} (h2 : m.kind ≠ k) : ofk mv k (m :: l) = ofk mv k l := by simp [ofk, h2]
structure Tail (mv c : Int) (l : List Leg) (j : Jny) (m : List Msg) (j' : Jny) : Prop where
  all : ∀ x ∈ m, x.mv = mv ∧ checkM x = 0 ∧ ((x.kind = 2 ∧ c < x.num) ∨ x.kind = 3 ∨ x.kind = 5)
  srt : Srt m
  frm : j'.frm = j.frm
  dep : j'.dep = j.dep
  to : j'.to = match (ofk mv 2 m).getLast? with | some c => c.to | none => j.to
  len : (ofk mv 2 m).length ≤ l.length
  nod : ((ofk mv 2 m).map (·.num)).Nodup
  en : (j'.endd = false ∧ j'.arr = j.arr ∧ ofk mv 3 m = [] ∧ ofk mv 5 m = []) ∨ (j'.endd = true ∧ ∃ r e, ofk mv 3 m = [r] ∧ r.alc = j'.arr ∧ ofk mv 5 m = [e])
theorem msg_tail (mv : Int) (hmv : 1 ≤ mv ∧ mv ≤ 1073741824) : ∀ (l : List Leg) (j : Jny) (last c : Int), okL j true last l → j.endd = false → 0 ≤ c → c + l.length ≤ 64 → Tail mv c l j (msgL mv c l) (l.foldl actL j)
  | [], j, last, c, _, he, _, _ => ⟨by simp [msgL], by simp [msgL], rfl, rfl, rfl, by simp [msgL, ofk], by simp [msgL, ofk], .inl ⟨he, rfl, rfl, rfl⟩⟩
  | x :: l, j, last, c, hk, he, hc, hl => by
    obtain ⟨hf, hr⟩ := hk
    obtain ⟨hd, hkd, hfm, -, hb, -, -, -, -⟩ := faultL_0 hf
    have h1 : x.kind ≠ 1 := fun h => by have := hb.1 h; simp at this
    rw [List.length_cons] at hl
    rw [List.foldl_cons]
    rcases (show x.kind = 4 ∨ x.kind = 7 ∨ (x.kind ≠ 4 ∧ x.kind ≠ 7) by omega) with h4 | h7 | ⟨h4, h7⟩
    · have ha : actL j x = { j with to := x.to } := by unfold actL; simp [h4]
      have hm : msgL mv c (x :: l) = ⟨mv, 2, c + 1, x.day, 0, x.to, 0⟩ :: msgL mv (c + 1) l := by rw [msgL, if_neg h1, if_pos h4]
      rw [ha] at hr ⊢
      obtain ⟨t1, t2, t3, t4, t5, t6, t7, t8⟩ := msg_tail mv hmv l { j with to := x.to } x.day (c + 1) hr he (by omega) (by omega)
      have hto : 1 ≤ x.to ∧ x.to ≤ 99 := by
        unfold formL at hfm
        simp [h4, win] at hfm
        omega
      have e2 : ofk mv 2 (⟨mv, 2, c + 1, x.day, 0, x.to, 0⟩ :: msgL mv (c + 1) l) = ⟨mv, 2, c + 1, x.day, 0, x.to, 0⟩ :: ofk mv 2 (msgL mv (c + 1) l) := ofk_cons_eq rfl rfl
      have e3 : ofk mv 3 (⟨mv, 2, c + 1, x.day, 0, x.to, 0⟩ :: msgL mv (c + 1) l) = ofk mv 3 (msgL mv (c + 1) l) := ofk_cons_ne (by simp)
      have e5 : ofk mv 5 (⟨mv, 2, c + 1, x.day, 0, x.to, 0⟩ :: msgL mv (c + 1) l) = ofk mv 5 (msgL mv (c + 1) l) := ofk_cons_ne (by simp)
      rw [hm]
      refine ⟨?_, List.pairwise_cons.2 ⟨fun y hy => ?_, t2⟩, t3, t4, ?_, ?_, ?_, ?_⟩
      · intro y hy
        rcases List.mem_cons.1 hy with rfl | hy
        · refine ⟨rfl, ?_, .inl ⟨rfl, by simp only []; omega⟩⟩
          have g1 : rangeM ⟨mv, 2, c + 1, x.day, 0, x.to, 0⟩ = false := by simp [rangeM]; omega
          have g2 : formM ⟨mv, 2, c + 1, x.day, 0, x.to, 0⟩ = true := by simp [formM, isNode]; omega
          simp [checkM, g1, g2]
        · obtain ⟨y1, y2, y3⟩ := t1 y hy
          exact ⟨y1, y2, y3.elim (fun h => .inl ⟨h.1, by omega⟩) .inr⟩
      · obtain ⟨y1, y2, y3⟩ := t1 y hy
        refine ltM_kn y1.symm ?_
        rcases y3 with ⟨h, h'⟩ | h | h
        · exact .inr ⟨h.symm, h'⟩
        · exact .inl (by rw [h]; show (2 : Int) < 3; decide)
        · exact .inl (by rw [h]; show (2 : Int) < 5; decide)
      · rw [e2, List.getLast?_cons, t5]
        cases (ofk mv 2 (msgL mv (c + 1) l)).getLast? <;> rfl
      · rw [e2, List.length_cons, List.length_cons]; omega
      · rw [e2, List.map_cons, List.nodup_cons]
        refine ⟨fun hmem => ?_, t7⟩
        obtain ⟨y, hy, hn⟩ := List.mem_map.1 hmem
        obtain ⟨hy1, hy2, hy3⟩ := mem_ofk.1 hy
        obtain ⟨-, -, y3⟩ := t1 y hy1
        simp only [] at hn
        omega
      · rw [e3, e5]; exact t8
    · have ha : actL j x = { j with arr := x.alc, lost := j.lost + j.tra - x.alc, tra := 0, endd := true } := by unfold actL; simp [h7]
      have hnil : l = [] := by
        cases l with
        | nil => rfl
        | cons y l =>
          obtain ⟨-, -, -, -, -, h, -⟩ := faultL_0 hr.1
          rw [ha] at h
          simp at h
      subst hnil
      have hm : msgL mv c [x] = [⟨mv, 3, 0, x.day, 0, 0, x.alc⟩, ⟨mv, 5, 0, x.day, 0, 0, 0⟩] := by rw [msgL, if_neg h1, if_neg (by omega), if_pos h7]; rfl
      have hb2 := formL_bd hkd hfm
      rw [hm]
      have g1 : rangeM ⟨mv, 3, 0, x.day, 0, 0, x.alc⟩ = false := by simp [rangeM]; omega
      have g2 : formM ⟨mv, 3, 0, x.day, 0, 0, x.alc⟩ = true := by simp [formM, hb2]
      have g3 : rangeM ⟨mv, 5, 0, x.day, 0, 0, 0⟩ = false := by simp [rangeM]; omega
      have g4 : formM ⟨mv, 5, 0, x.day, 0, 0, 0⟩ = true := by simp [formM]
      rw [ha]
      refine ⟨?_, ?_, rfl, rfl, by simp [ofk], by simp [ofk], by simp [ofk], .inr ⟨rfl, ⟨mv, 3, 0, x.day, 0, 0, x.alc⟩, ⟨mv, 5, 0, x.day, 0, 0, 0⟩, by simp [ofk], rfl, by simp [ofk]⟩⟩
      · intro y hy
        simp only [List.mem_cons, List.not_mem_nil, or_false] at hy
        rcases hy with rfl | rfl
        · exact ⟨rfl, by simp [checkM, g1, g2], .inr (.inl rfl)⟩
        · exact ⟨rfl, by simp [checkM, g3, g4], .inr (.inr rfl)⟩
      · refine List.pairwise_cons.2 ⟨fun y hy => ?_, List.pairwise_singleton _ _⟩
        simp only [List.mem_singleton] at hy
        subst hy
        exact ltM_kn rfl (.inl (by show (3 : Int) < 5; decide))
    · have hm : msgL mv c (x :: l) = msgL mv c l := by rw [msgL, if_neg h1, if_neg h4, if_neg h7]
      have hae : (actL j x).endd = j.endd ∧ (actL j x).frm = j.frm ∧ (actL j x).dep = j.dep ∧ (actL j x).to = j.to ∧ (actL j x).arr = j.arr := by
        unfold actL
        rcases (show x.kind = 2 ∨ x.kind = 3 ∨ x.kind = 5 ∨ x.kind = 6 by omega) with e | e | e | e <;> simp [e]
      obtain ⟨a1, a2, a3, a4, a5⟩ := hae
      obtain ⟨t1, t2, t3, t4, t5, t6, t7, t8⟩ := msg_tail mv hmv l (actL j x) x.day c hr (by rw [a1]; exact he) hc (by omega)
      rw [hm]
      refine ⟨t1, t2, by rw [t3, a2], by rw [t4, a3], by rw [t5, a4], by rw [List.length_cons]; omega, t7, ?_⟩
      rw [a5] at t8
      exact t8
theorem doc_msgs {l : List Leg} {mv : Int} (h : okS l = true) (hmv : 1 ≤ mv ∧ mv ≤ 1073741824) (hl : l.length ≤ 16) : errM (msgL mv 0 l) = 0 ∧ normL (msgL mv 0 l) = msgL mv 0 l ∧ ∃ ch : Nat, docS mv (msgL mv 0 l) = ⟨mv, if (l.foldl actL zeroJ).endd = true then 4 else if l = [] then 0 else 1, (l.foldl actL zeroJ).frm, (l.foldl actL zeroJ).to, (l.foldl actL zeroJ).dep, (l.foldl actL zeroJ).arr, ch⟩ ∧ (ch : Int) < max (l.length : Int) 1 := by
  have hlen := msgL_len mv l 0
  obtain ⟨-, hok⟩ := okS_ok h
  cases l with
  | nil => exact ⟨errM_zero.2 (by simp [msgL]), (normL_eq (o := []) .nil (fun x => Iff.rfl)).symm, 0, rfl, by decide⟩
  | cons x l =>
    obtain ⟨hf, hr⟩ := hok
    obtain ⟨hd, hkd, hfm, -, hb, -, -, -, -⟩ := faultL_0 hf
    have h1 : x.kind = 1 := hb.2 rfl
    have ha : actL zeroJ x = ⟨x.alc, 0, 0, 0, x.alc, x.place, x.to, false, false⟩ := by unfold actL; simp [h1]
    have hm : msgL mv 0 (x :: l) = ⟨mv, 1, 0, x.day, x.place, x.to, x.alc⟩ :: msgL mv 0 l := by rw [msgL, if_pos h1]
    rw [List.foldl_cons]
    rw [ha] at hr ⊢
    rw [List.length_cons] at hl
    have T := msg_tail mv hmv l ⟨x.alc, 0, 0, 0, x.alc, x.place, x.to, false, false⟩ x.day 0 hr rfl (by omega) (by omega)
    rw [hm] at hlen ⊢
    generalize msgL mv 0 l = m at *
    generalize l.foldl actL ⟨x.alc, 0, 0, 0, x.alc, x.place, x.to, false, false⟩ = j at *
    obtain ⟨t1, t2, t3, t4, t5, t6, t7, t8⟩ := T
    have hS : Srt (⟨mv, 1, 0, x.day, x.place, x.to, x.alc⟩ :: m) := List.pairwise_cons.2 ⟨fun y hy => by
      obtain ⟨y1, -, y3⟩ := t1 y hy
      exact ltM_kn y1.symm (.inl (by show (1 : Int) < y.kind; rcases y3 with ⟨h, -⟩ | h | h <;> omega)), t2⟩
    have hN := (normL_eq hS (fun x => Iff.rfl)).symm
    have hform : 1 ≤ x.place ∧ x.place ≤ 99 ∧ 1 ≤ x.to ∧ x.to ≤ 99 ∧ x.place ≠ x.to ∧ 1 ≤ x.alc ∧ x.alc ≤ 10737418240000 := by
      unfold formL at hfm
      simp [h1, win] at hfm
      omega
    have g1 : rangeM ⟨mv, 1, 0, x.day, x.place, x.to, x.alc⟩ = false := by simp [rangeM]; omega
    have g2 : formM ⟨mv, 1, 0, x.day, x.place, x.to, x.alc⟩ = true := by simp [formM, isNode]; omega
    have hE : errM (⟨mv, 1, 0, x.day, x.place, x.to, x.alc⟩ :: m) = 0 := errM_zero.2 ⟨by simp only [List.length_cons] at hlen ⊢; omega, fun y hy => by
      rcases List.mem_cons.1 hy with rfl | hy
      · simp [checkM, g1, g2]
      · exact (t1 y hy).2.1⟩
    refine ⟨hE, hN, (ofk mv 2 m).length, ?_, by simp only [List.length_cons]; omega⟩
    have k1m : ofk mv 1 m = [] := List.filter_eq_nil_iff.2 fun y hy => by
      obtain ⟨-, -, y3⟩ := t1 y hy
      have : y.kind ≠ 1 := by rcases y3 with ⟨h, -⟩ | h | h <;> rw [h] <;> decide
      simp [this]
    have k4m : ofk mv 4 m = [] := List.filter_eq_nil_iff.2 fun y hy => by
      obtain ⟨-, -, y3⟩ := t1 y hy
      have : y.kind ≠ 4 := by rcases y3 with ⟨h, -⟩ | h | h <;> rw [h] <;> decide
      simp [this]
    have o1 : ofk mv 1 (⟨mv, 1, 0, x.day, x.place, x.to, x.alc⟩ :: m) = [⟨mv, 1, 0, x.day, x.place, x.to, x.alc⟩] := by rw [ofk_cons_eq (mv := mv) (k := 1) (m := ⟨mv, 1, 0, x.day, x.place, x.to, x.alc⟩) rfl rfl, k1m]
    have o2 : ofk mv 2 (⟨mv, 1, 0, x.day, x.place, x.to, x.alc⟩ :: m) = ofk mv 2 m := ofk_cons_ne (by simp)
    have o3 : ofk mv 3 (⟨mv, 1, 0, x.day, x.place, x.to, x.alc⟩ :: m) = ofk mv 3 m := ofk_cons_ne (by simp)
    have o4 : ofk mv 4 (⟨mv, 1, 0, x.day, x.place, x.to, x.alc⟩ :: m) = [] := by rw [ofk_cons_ne (by simp), k4m]
    have o5 : ofk mv 5 (⟨mv, 1, 0, x.day, x.place, x.to, x.alc⟩ :: m) = ofk mv 5 m := ofk_cons_ne (by simp)
    unfold docS
    rw [o1, o2, o3, o4, o5, t3, t4, t5]
    simp only [List.getLast?_singleton]
    rcases t8 with ⟨e1, e2, e3, e4⟩ | ⟨e1, r, e, e3, e2, e4⟩
    · have hcf : ¬ (1 < [(⟨mv, 1, 0, x.day, x.place, x.to, x.alc⟩ : Msg)].length ∨ 1 < (ofk mv 3 m).length + ([] : List Msg).length ∨ ¬ ((ofk mv 2 m).map (·.num)).Nodup) := by
        rw [e3]
        rintro (h | h | h)
        · simp at h
        · simp at h
        · exact h t7
      rw [if_neg hcf, e1, e2, e3]
      cases (ofk mv 2 m).getLast? <;> simp
    · have hcf : ¬ (1 < [(⟨mv, 1, 0, x.day, x.place, x.to, x.alc⟩ : Msg)].length ∨ 1 < (ofk mv 3 m).length + ([] : List Msg).length ∨ ¬ ((ofk mv 2 m).map (·.num)).Nodup) := by
        rw [e3]
        rintro (h | h | h)
        · simp at h
        · simp at h
        · exact h t7
      rw [if_neg hcf, e1, ← e2, e3, e4]
      cases (ofk mv 2 m).getLast? <;> simp
end Go.AM


namespace Go.AM
open Go.Proofs
set_option linter.unusedVariables false
set_option linter.unusedSimpArgs false
set_option linter.constructorNameAsVariable false
set_option maxRecDepth 20000
attribute [local congr] arithK_cg eqK_cg notK_cg convK_cg pickK_cg buildK_cg ldK_cg nilK_cg sliceK_cg faK_cg fldK_cg iaK_cg iaA_cg lookK_cg capK_cg exK_cg lenK_cg minK_cg maxK_cg effK_cg callK_cg callVK_cg effD_cg gopD_cg grpK_cg condK_cg cond_cg
section
variable {β : Type}
abbrev zJ : List AV := [I 0, I 0, I 0, I 0, I 0, I 0, I 0, B false, B false]
theorem jst0 {m : Jny} (k : AV → Hp → Option β) : effK (stE 9 (.ptr 0 0 0 1) (.agg (encJ m)) [.arr 9 [zJ] true false]) [.arr 9 [zJ] true false] k = k .u [.arr 9 [encJ m] true false] := by
  rw [effK_put (v := .u) (id := 0) (o := .arr 9 [encJ m] true false) (ft := [0]) (by simp [encJ])]; rfl
theorem stg {O0 O1 : AObj} {d : Docu} {n : Int} (k : AV → Hp → Option β) : effK (stE 1 (.ptr 2 0 1 1) (I n) [O0, O1, .arr 7 [encDo d] true false]) [O0, O1, .arr 7 [encDo d] true false] k = k .u [O0, O1, .arr 7 [encDo { d with stage := n }] true false] := by
  rw [effK_put (v := .u) (id := 2) (o := .arr 7 [encDo { d with stage := n }] true false) (ft := [2]) (by simp [encDo])]; rfl
end
theorem jxr0 {β : Type} (r : Jny × Int × Int) (k : Go.AM.K β) : exK (tupR r) 0 k = k (.agg (encJ r.1)) := rfl
theorem jxr1 {β : Type} (r : Jny × Int × Int) (k : Go.AM.K β) : exK (tupR r) 1 k = k (I r.2.1) := rfl
theorem jxr2 {β : Type} (r : Jny × Int × Int) (k : Go.AM.K β) : exK (tupR r) 2 k = k (I r.2.2) := rfl
theorem jxd0 {β : Type} (r : Docu × Int) (k : Go.AM.K β) : exK (tupD r) 0 k = k (.agg (encDo r.1)) := rfl
theorem jxd1 {β : Type} (r : Docu × Int) (k : Go.AM.K β) : exK (tupD r) 1 k = k (I r.2) := rfl
theorem jxp0 {β : Type} (a b : AV) (k : Go.AM.K β) : exK (.tup [a, b]) 0 k = k a := rfl
theorem jxp1 {β : Type} (a b : AV) (k : Go.AM.K β) : exK (.tup [a, b]) 1 k = k b := rfl
theorem docs_j1 {T : Tab} {D : DTab} {N : Nat} (l : List Leg) (b : Bool) (j : Jny) (d w : Docu) (h1 : d = { w with stage := if j.endd = true then 4 else w.stage }) (h2 : 0 ≤ d.chg) (h3 : d.chg < max (l.length : Int) 1) :
    f_law45_JourneyDocuments_j1 Tryz.prog T D N (fun v g => cvt false g v) (.lst 5 b (l.map encL)) (.ptr 0 0 0 1) (.ptr 1 0 0 1) (.ptr 2 0 0 1) [.arr 9 [encJ j] true false, .arr 7 [encDo d] true false, .arr 7 [encDo w] true false] = some (B true) := by
  have e0 : ∀ (t : Hp) (k : Go.AM.K AV), ldK 1 false (.ptr 0 0 8 1) (.arr 9 [encJ j] true false :: t) k = k (B j.endd) := fun t k => rfl
  have e1 : ∀ (O : AObj) (t : Hp) (k : Go.AM.K AV), ldK 7 true (.ptr 1 0 0 1) (O :: .arr 7 [encDo d] true false :: t) k = k (.agg (encDo d)) := fun O t k => lw7_1 k
  have e2 : ∀ (O O' : AObj) (w : Docu) (k : Go.AM.K AV), ldK 7 true (.ptr 2 0 0 1) [O, O', .arr 7 [encDo w] true false] k = k (.agg (encDo w)) := fun O O' w k => rfl
  have e3 : ∀ (O : AObj) (t : Hp) (k : Go.AM.K AV), ldK 1 false (.ptr 1 0 6 1) (O :: .arr 7 [encDo d] true false :: t) k = k (I d.chg) := fun O t k => rfl
  have p1 : d.chg ≥ 0 := h2
  have hj2 : ∀ w' : Docu, d = w' → f_law45_JourneyDocuments_j2 Tryz.prog T D N (fun v g => cvt false g v) (.lst 5 b (l.map encL)) (.ptr 1 0 0 1) (.ptr 2 0 0 1) [.arr 9 [encJ j] true false, .arr 7 [encDo d] true false, .arr 7 [encDo w'] true false] = some (B true) := fun w' hw => by
    subst hw
    simp -implicitDefEqProofs only [f_law45_JourneyDocuments_j2, e1, e2, e3, eqs_Do, beq_self_eq_true, Bool.false_xor, grpK_tt, faK_ptr, Nat.zero_add, arithK_geq, p1, decide_true, lenK_lst, List.length_map, maxK_int, arithK_lss, h3]
    rfl
  cases he : j.endd with
  | true =>
    rw [he] at e0
    simp -implicitDefEqProofs only [f_law45_JourneyDocuments_j1, faK_ptr, Nat.zero_add, e0, condK_bool, if_true, stg]
    exact hj2 _ (by rw [h1, he]; rfl)
  | false =>
    rw [he] at e0
    simp -implicitDefEqProofs only [f_law45_JourneyDocuments_j1, faK_ptr, Nat.zero_add, e0, condK_bool, Bool.false_eq_true, if_false]
    exact hj2 _ (by rw [h1, he]; simp)
theorem documents_law (l : List Leg) (b : Bool) (mv : Int) : F_law45_JourneyDocuments [SL 5 encL b l, I mv] [] = some (B true, []) := by
  refine F_law45_JourneyDocuments_run (a0 := SL 5 encL b l) (a1 := I mv) rfl ?_ []
  simp only [nrm, nrmC]
  have fw := F_law45_awake_val
  simp -implicitDefEqProofs only [f_law45_JourneyDocuments, t_law45_JourneyDocuments_5, callK_F, fw, notK_bool, Bool.not_true, condK_bool, Bool.false_eq_true, if_false, SL, lenK_lst, List.length_map, arithK_gtr]
  by_cases hb : 16 < (l.length : Int)
  · simp only [hb, decide_true, if_true]; rfl
  · have hl : l.length ≤ 16 := by omega
    have fc := F_slices_Clone_Leg_val l b (by omega)
    simp only [SL] at fc
    have fm := F_journey_Messages_val l (b && l.isEmpty) mv (by omega)
    have fr := F_journey_Run_val l (b && l.isEmpty) (by omega)
    have bx : ∀ k : AV → Hp → Option AV, effK (boxE 9 (.agg zJ) ([] : Hp).length) [] k = k (.ptr 0 0 0 1) [.arr 9 [zJ] true false] := fun k => rfl
    simp -implicitDefEqProofs only [hb, decide_false, Bool.false_eq_true, if_false, t_law45_JourneyDocuments_9, t_law45_JourneyDocuments_14, t_law45_JourneyDocuments_17, callK_F, fc, fm, fr, jxp0, jxp1, jxr0, jxr1, jxr2, bx, jst0, eqK_int, Bool.true_xor, condK_bool]
    by_cases q : (msgS l mv).2 = 0
    · have hq : okS l = true ∧ win mv 1 1073741824 = true ∧ msgS l mv = (msgL mv 0 l, 0) := by
        unfold msgS at q ⊢
        cases ho : okS l with
        | false => rw [ho] at q; simp at q
        | true =>
          rw [ho] at q
          cases hw : win mv 1 1073741824 with
          | false => rw [hw] at q; simp at q
          | true =>
            rw [hw] at q
            by_cases h64 : 64 < (msgL mv 0 l).length
            · simp [h64] at q
            · simp [h64]
      obtain ⟨ho, hw, hms⟩ := hq
      have hmv : 1 ≤ mv ∧ mv ≤ 1073741824 := by simpa [win] using hw
      obtain ⟨d1, d2, ch, d3, d4⟩ := doc_msgs ho hmv hl
      have hlen := msgL_len mv l 0
      have hbad : badMv mv = false := by simp [badMv]; omega
      have hof : ofS (msgL mv 0 l) mv = (docS mv (msgL mv 0 l), 0) := by rw [ofS_ok d1, hbad, d2]; simp
      have fo := F_document_Of_val (msgL mv 0 l) true mv (by omega)
      rw [hof] at fo
      simp only [SLm, Bool.true_and] at fo
      rw [hms, okS_run ho]
      generalize l.foldl actL zeroJ = j at *
      generalize hd : docS mv (msgL mv 0 l) = d at *
      have b1 : ∀ k : AV → Hp → Option AV, effK (boxE 7 (.agg zM) ([.arr 9 [encJ j] true false] : Hp).length) [.arr 9 [encJ j] true false] k = k (.ptr 1 0 0 1) [.arr 9 [encJ j] true false, .arr 7 [zM] true false] := fun k => bx7_1 k
      have s1 : ∀ k : AV → Hp → Option AV, effK (stE 7 (.ptr 1 0 0 1) (.agg (encDo d)) [.arr 9 [encJ j] true false, .arr 7 [zM] true false]) [.arr 9 [encJ j] true false, .arr 7 [zM] true false] k = k .u [.arr 9 [encJ j] true false, .arr 7 [encDo d] true false] := fun k => ew7_1 k
      have c5 : ∀ (t : Hp) (k : Go.AM.K AV), ldK 1 false (.ptr 0 0 5 1) (.arr 9 [encJ j] true false :: t) k = k (I j.frm) := fun t k => rfl
      have c6 : ∀ (t : Hp) (k : Go.AM.K AV), ldK 1 false (.ptr 0 0 6 1) (.arr 9 [encJ j] true false :: t) k = k (I j.to) := fun t k => rfl
      have c0 : ∀ (t : Hp) (k : Go.AM.K AV), ldK 1 false (.ptr 0 0 0 1) (.arr 9 [encJ j] true false :: t) k = k (I j.dep) := fun t k => rfl
      have c3 : ∀ (t : Hp) (k : Go.AM.K AV), ldK 1 false (.ptr 0 0 3 1) (.arr 9 [encJ j] true false :: t) k = k (I j.arr) := fun t k => rfl
      have cc : ∀ (O : AObj) (t : Hp) (k : Go.AM.K AV), ldK 1 false (.ptr 1 0 6 1) (O :: .arr 7 [encDo d] true false :: t) k = k (I d.chg) := fun O t k => rfl
      have bd : ∀ k : Go.AM.K AV, buildK zM [(some (0, 1), I mv), (some (2, 1), I j.frm), (some (3, 1), I j.to), (some (4, 1), I j.dep), (some (5, 1), I j.arr), (some (6, 1), I d.chg)] k = k (.agg (encDo ⟨mv, 0, j.frm, j.to, j.dep, j.arr, d.chg⟩)) := fun k => rfl
      have b2 : ∀ k : AV → Hp → Option AV, effK (boxE 7 (.agg zM) ([.arr 9 [encJ j] true false, .arr 7 [encDo d] true false] : Hp).length) [.arr 9 [encJ j] true false, .arr 7 [encDo d] true false] k = k (.ptr 2 0 0 1) [.arr 9 [encJ j] true false, .arr 7 [encDo d] true false, .arr 7 [zM] true false] := fun k => effK_box 7 2 (.agg zM) _ k rfl rfl rfl
      have s2 : ∀ (w : Docu) (k : AV → Hp → Option AV), effK (stE 7 (.ptr 2 0 0 1) (.agg (encDo w)) [.arr 9 [encJ j] true false, .arr 7 [encDo d] true false, .arr 7 [zM] true false]) [.arr 9 [encJ j] true false, .arr 7 [encDo d] true false, .arr 7 [zM] true false] k = k .u [.arr 9 [encJ j] true false, .arr 7 [encDo d] true false, .arr 7 [encDo w] true false] := fun w k => by
        rw [effK_put (v := .u) (id := 2) (o := .arr 7 [encDo w] true false) (ft := [2]) (by simp [encDo])]; rfl
      simp -implicitDefEqProofs only [beq_self_eq_true, Bool.not_true, Bool.false_eq_true, if_false, t_law45_JourneyDocuments_18, callK_F, fo, jxd0, jxd1, b1, s1, eqK_int, Bool.true_xor, grpK_or, Bool.or_self, condK_bool, faK_ptr, Nat.zero_add, c5, c6, c0, c3, cc, bd, b2, s2, lenK_lst, List.length_map, arithK_gtr]
      have hchg : d.chg = ch := by rw [d3]
      by_cases hn : l = []
      · subst hn
        have c : ¬ ((([] : List Leg).length : Int) > 0) := by simp
        simp -implicitDefEqProofs only [c, decide_false, Bool.false_eq_true, if_false]
        exact docs_j1 [] _ j d _ (by rw [d3]; simp) (by rw [hchg]; omega) (by rw [hchg]; exact d4)
      · have c : (l.length : Int) > 0 := by have := List.length_pos_iff.2 hn; omega
        simp -implicitDefEqProofs only [c, decide_true, if_true, stg]
        exact docs_j1 l _ j d _ (by rw [d3]; simp [hn]) (by rw [hchg]; omega) (by rw [hchg]; exact d4)
    · have e : ((msgS l mv).2 == 0) = false := by simpa using q
      have hz : (msgS l mv).1 = [] := by
        unfold msgS at q ⊢
        split
        · rfl
        · split
          · rfl
          · split
            · rfl
            · rename_i h1 h2 h3; simp [h1, h2, h3] at q
      rw [hz]
      simp -implicitDefEqProofs only [e, Bool.not_false, if_true, lenK_lst, List.length_map, List.length_nil, eqK_int, Bool.false_xor]
      rfl
end Go.AM


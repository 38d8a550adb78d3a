import Derived.Test.YtlnjnfbdcdmacaaAmUse
namespace Go.AM
set_option linter.unusedVariables false
set_option linter.unusedSimpArgs false
variable {β γ : Type} {P : Program} {T : Tab} {D : DTab} {ks : List Nat}
/-! ### A continuation behind a run -/
theorem opK_bind {r : Operand → AV} {h : Hp} {o : Oper} (k : AV → Hp → Option β) (f : β → Option γ) : opK P T r h o (fun v h => (k v h).bind f) = (opK P T r h o k).bind f := by
  rw [Grp.opE_nat, Grp.opE_nat k]
  cases opK P T r h o fun v h => some (v, h) <;> rfl
theorem stepK_bind {all : List Oper} {t : Tm} {e : Env} {h : Hp} {o : Oper} (k : AV → Hp → Option β) (f : β → Option γ) : stepK P T all t e h o (fun v h => (k v h).bind f) = (stepK P T all t e h o k).bind f := by
  unfold stepK
  split
  · exact opK_bind k f
  · unfold gopK
    split
    · exact opK_bind k f
    · rfl
    · rfl
theorem opsK_bind {all : List Oper} (k : St → Option β) (f : β → Option γ) : ∀ (os : List Oper) (t : Tm) (e : Env) (h : Hp), opsK P T ks all os t e h (fun s => (k s).bind f) = (opsK P T ks all os t e h k).bind f
  | [], t, e, h => rfl
  | o :: os, t, e, h => by
    simp only [opsK]
    rw [← stepK_bind]
    congr 1
    funext v h
    exact opsK_bind k f os _ _ _
mutual
theorem opT_bind {all : List Oper} (f : β → Option γ) : ∀ (r : RT) (k : Tm → Env → Hp → Option β) (t : Tm) (e : Env) (h : Hp), opT P T ks all r t e h (fun t e h => (k t e h).bind f) = (opT P T ks all r t e h k).bind f
  | .op i, k, t, e, h => by
    simp only [opT]
    split
    · exact opK_bind _ f
    · rfl
  | .grp j want d y z body pk, k, t, e, h => by
    simp only [opT, grpK]
    split
    · rename_i b _
      cases b == want with
      | true => simp only [cond_true]; exact opsT_bind f body (fun _ e' h' => k _ _ h') t e h
      | false => rfl
    · rfl
theorem opsT_bind {all : List Oper} (f : β → Option γ) : ∀ (rs : List RT) (k : Tm → Env → Hp → Option β) (t : Tm) (e : Env) (h : Hp), opsT P T ks all rs t e h (fun t e h => (k t e h).bind f) = (opsT P T ks all rs t e h k).bind f
  | [], k, t, e, h => rfl
  | r :: rs, k, t, e, h => by
    simp only [opsT]
    rw [← opT_bind f r]
    congr 1
    funext t e h
    exact opsT_bind f rs k t e h
end
theorem regK_bind {ops : List Oper} {t : Tm} {h : Hp} (k : St → Option β) (f : β → Option γ) : regK P T ks ops t h (fun s => (k s).bind f) = (regK P T ks ops t h k).bind f := by
  unfold regK
  split
  · exact opsT_bind f _ (fun t _ h => k (t, h)) t [] h
  · exact opsK_bind k f _ _ _ _
theorem effD_bind {r : R} {h : Hp} (k : AV → Hp → Ent → Option β) (f : β → Option γ) : effD r h (fun v h e => (k v h e).bind f) = (effD r h k).bind f := by
  unfold effD; split <;> rfl
theorem opD_bind {r : Operand → AV} {h : Hp} {o : Oper} (k : AV → Hp → Ent → Option β) (f : β → Option γ) : opD P D r h o (fun v h e => (k v h e).bind f) = (opD P D r h o k).bind f := by
  unfold opD
  cases acts o.op with
  | true => exact effD_bind k f
  | false =>
    simp only [cond_false]
    rw [pureK_nat P r h o.op (fun v => (k v h (footP P r o.op, [])).bind f), pureK_nat P r h o.op (fun v => k v h (footP P r o.op, []))]
    cases pureK P r h o.op some <;> rfl
theorem stepD_bind {all : List Oper} {t : Tm} {e : Env} {h : Hp} {o : Oper} (k : AV → Hp → Ent → Option β) (f : β → Option γ) : stepD P D all t e h o (fun v h e => (k v h e).bind f) = (stepD P D all t e h o k).bind f := by
  unfold stepD
  split
  · exact opD_bind k f
  · unfold gopD
    split
    · exact opD_bind k f
    · rfl
    · rfl
theorem opsD_bind {all : List Oper} {prs : List (Nat × Nat)} (k : St → Option β) (f : β → Option γ) : ∀ (os : List Oper) (t : Tm) (e : Env) (h : Hp) (lg : List Ent), opsD P D ks all prs os t e h lg (fun s => (k s).bind f) = (opsD P D ks all prs os t e h lg k).bind f
  | [], t, e, h, lg => by simp only [opsD]; cases disjAll prs lg.reverse <;> rfl
  | o :: os, t, e, h, lg => by
    simp only [opsD]
    rw [← stepD_bind]
    congr 1
    funext v h en
    exact opsD_bind k f os _ _ _ _
theorem iterK_bind {g : St → (Ex → St → Option β) → Option β} {g' : St → (Ex → St → Option γ) → Option γ} (f : β → Option γ) (hg : ∀ s k, g' s (fun e s' => (k e s').bind f) = (g s k).bind f) (k : Ex → St → Option β) :
    ∀ (n : Nat) (s : St), iterK g' n s (fun e s' => (k e s').bind f) = (iterK g n s k).bind f
  | 0, s => rfl
  | n + 1, s => by
    simp only [iterK]
    rw [← hg]
    congr 1
    funext e s'
    cases e with
    | normal => exact iterK_bind f hg k n s'
    | exit i => rfl
    | ret => rfl
theorem execK_bind {N : Nat} (f : β → Option γ) : ∀ (c : Code) (s : St) (k : Ex → St → Option β), execK P T D N ks c s (fun e s' => (k e s').bind f) = (execK P T D N ks c s k).bind f
  | .skip, s, k => rfl
  | .label _, s, k => rfl
  | .exit _, s, k => rfl
  | .ret, s, k => rfl
  | .region id ops false, s, k => by simp only [execK]; exact regK_bind (fun s => k .normal s) f
  | .region id ops true, s, k => by
    simp only [execK]
    cases okDraw ops with
    | false => rfl
    | true =>
      simp only [cond_true]
      cases (prsOf P ops.toList).isEmpty with
      | true => exact regK_bind (fun s => k .normal s) f
      | false => exact opsD_bind (fun s => k .normal s) f _ _ _ _ _
  | .seq a b, s, k => by
    simp only [execK]
    rw [← execK_bind f a]
    congr 1
    funext e s'
    cases e with
    | normal => exact execK_bind f b s' k
    | exit i => rfl
    | ret => rfl
  | .cond c a b, s, k => by
    simp only [execK, condK]
    split
    · rename_i q _
      cases q with
      | true => exact execK_bind f a s k
      | false => exact execK_bind f b s k
    · rfl
  | .block id c, s, k => by
    simp only [execK]
    rw [← execK_bind f c]
    congr 1
    funext e s'
    cases e with
    | normal => rfl
    | exit i => simp only [Ex.on]; cases i == id <;> rfl
    | ret => rfl
  | .loop c, s, k => by
    simp only [execK]
    exact iterK_bind f (fun s k => execK_bind f c s k) k N s
  | .rangeFunc .., s, k => rfl
  | .scope _, s, k => rfl
  | .goto _, s, k => rfl
  | .refuse _, s, k => rfl
/-- A run, and what comes behind it. -/
def finK (P : Program) (rs : List ResultVar) (K : AV → Hp → Option β) (e : Ex) (s : St) : Option β :=
  e.on (outsK P s.1 s.2 rs fun vs => K (pack vs) s.2) (fun _ => none) (outsK P s.1 s.2 rs fun vs => K (pack vs) s.2)
def runK (P : Program) (T : Tab) (D : DTab) (N : Nat) (ks : List Nat) (fn : Func) (K : AV → Hp → Option β) (args : List AV) (h : Hp) : Option β :=
  match fn.body with
  | none => none
  | some c => execK P T D N ks c (tm0 args, h) (finK P fn.results.toList K)
theorem runK_bind {N : Nat} {fn : Func} {K : AV → Hp → Option β} {args : List AV} {h : Hp} : runK P T D N ks fn K args h = (run P T D N ks fn args h).bind fun p => K p.1 p.2 := by
  unfold runK run
  cases fn.body with
  | none => rfl
  | some c =>
    dsimp only
    rw [← execK_bind]
    congr 1
    funext e s
    unfold finish finK
    cases e <;> simp only [Ex.on]
    · rw [outsK_eq, outsK_eq]; cases List.mapM (outV P s.1 s.2) fn.results.toList <;> rfl
    · rfl
    · rw [outsK_eq, outsK_eq]; cases List.mapM (outV P s.1 s.2) fn.results.toList <;> rfl
theorem runF_bind {N np : Nat} {fn : Func} {K : AV → Hp → Option β} {args : List AV} {h : Hp} (hl : args.length = np) : (runF P T D N ks fn np args h).bind (fun p => K p.1 p.2) = runK P T D N ks fn K args h := by
  unfold runF
  rw [if_pos hl, ← runK_bind]
theorem bind_pair (x : Option (AV × Hp)) : x.bind (fun p => some (p.1, p.2)) = x := by cases x <;> rfl
/-- A closed call, by what its run comes to. -/
theorem closedX_bind {shp shr : List Sh} {F : Fun} {args : List AV} {v : AV} (ha : plains args = true) (hv : (F (nrms shp args) []).bind (fun p => cvt false p.2 p.1) = some v) (h : Hp) : closedX shp shr F args h = some (nrmR shr v, h) := by
  obtain ⟨⟨v0, g⟩, h1, h2⟩ := Option.bind_eq_some_iff.1 hv
  exact closedX_val ha h1 h2 h
/-- The same of arguments that lie in the heap. -/
theorem closedX_ownB {shp shr : List Sh} {F : Fun} {args as : List AV} {v : AV} {h : Hp} (ha : cvts false h args = some as) (hv : ∀ st, (F (nrms shp as) []).bind (fun p => cvt st p.2 p.1) = some v) : closedX shp shr F args h = some (nrmR shr v, h) := by
  obtain ⟨⟨v0, g⟩, h1, h2⟩ := Option.bind_eq_some_iff.1 (hv false)
  exact closedX_own ha h1 (fun st => by have := hv st; rw [h1] at this; exact this)
end Go.AM

import Derived.Test.YtlnjnfbdcdmacaaAmBits
namespace Go.AM
set_option linter.unusedVariables false
set_option linter.unusedSimpArgs false
set_option linter.constructorNameAsVariable false
set_option maxRecDepth 30000
variable {β : Type} {P : Program} {kt : TypeId} {kk : IntKind}
/-! Maps whose keys are integers. -/
theorem keyOk_int (hu : P.underlying kt = some (.int kk)) (n : Int) : keyOk P kt (.int kk n) = true := by
  have key : ∀ b, pureVal P (Instr.checkKey b 10000 kt (.int kk n)) = some () := by
    intro b
    rw [show (10000 : Nat) = 9999 + 1 from rfl]
    unfold Instr.checkKey
    rw [pureVal_bnd, pureVal_underlying hu]
    rfl
  simp [keyOk, key]
theorem keyEq_int (hu : P.underlying kt = some (.int kk)) (a b : Int) : keyEq P kt (.int kk a) (.int kk b) = some (decide (a = b)) := by
  have h1 : pureVal P (Op.equal kt (.int kk a) (.int kk b)) = some (a == b) := by
    unfold Op.equal
    rw [show Op.maxDepth = (Op.maxDepth - 1) + 1 from rfl]
    unfold Op.equalIn
    rw [pureVal_bnd, pureVal_underlying hu]
    simp only [Option.bind_some, if_true]
    rfl
  unfold keyEq
  rw [h1]
  by_cases hab : a = b
  · subst hab
    have : Instr.sameBits 10000 (.int kk a) (.int kk a) = true := by simp [Instr.sameBits]
    simp [this]
  · have : (a == b) = false := by simpa using hab
    rw [this]
    simp [hab]
/-- What a map holds at a number. -/
def getKV : List (Value × AV) → Int → Option AV
  | [], _ => none
  | (.int _ m, v) :: r, n => if n = m then some v else getKV r n
  | _ :: r, n => getKV r n
def intKeys (kk : IntKind) (kvs : List (Value × AV)) : Prop := ∀ x ∈ kvs, ∃ m, x.1 = .int kk m
theorem lookupKV_int (hu : P.underlying kt = some (.int kk)) (n : Int) : ∀ {kvs : List (Value × AV)}, intKeys kk kvs → lookupKV kvs (keyEq P kt) (.int kk n) = some (getKV kvs n)
  | [], _ => rfl
  | (k, v) :: r, hk => by
    obtain ⟨m, e⟩ := hk (k, v) (by simp)
    simp only at e
    subst e
    have ih := lookupKV_int hu n (kvs := r) (fun x hx => hk x (by simp [hx]))
    simp only [lookupKV, keyEq_int hu, getKV]
    by_cases h : n = m
    · simp [h]
    · simp [h, ih]
theorem lookK_int {h : Hp} {id : Nat} {kvs : List (Value × AV)} {z : AV} {ok : Bool} {n : Int} (hu : P.underlying kt = some (.int kk)) (hid : h[id]? = some (.map kvs)) (hk : intKeys kk kvs) (k : K β) :
    lookK P kt z ok (.mp id) (.s (.int kk n)) h k = match getKV kvs n with
      | some v => k (if ok then .tup [v, .s (.bool true)] else v)
      | none => k (if ok then .tup [z, .s (.bool false)] else z) := by
  unfold lookK
  simp only [toV, gv, if_true, hid, keyOk_int hu, lookupKV_int hu n hk]
  cases getKV kvs n <;> rfl
theorem updateKV_int (hu : P.underlying kt = some (.int kk)) (n : Int) (v : AV) : ∀ {kvs : List (Value × AV)}, intKeys kk kvs →
    ∃ kvs', updateKV kvs (keyEq P kt) (.int kk n) v = some kvs' ∧ intKeys kk kvs' ∧ ∀ m, getKV kvs' m = if m = n then some v else getKV kvs m
  | [], _ => ⟨_, rfl, fun x hx => by simp at hx; subst hx; exact ⟨n, rfl⟩, fun m => by simp [getKV]⟩
  | (k, u) :: r, hk => by
    obtain ⟨q, e⟩ := hk (k, u) (by simp)
    simp only at e
    subst e
    obtain ⟨r', h1, h2, h3⟩ := updateKV_int hu n v (kvs := r) (fun x hx => hk x (by simp [hx]))
    simp only [updateKV, keyEq_int hu]
    by_cases h : n = q
    · subst h
      refine ⟨(.int kk n, v) :: r, by simp, fun x hx => ?_, fun m => ?_⟩
      · rcases List.mem_cons.1 hx with rfl | hx
        · exact ⟨n, rfl⟩
        · exact hk x (by simp [hx])
      · simp only [getKV]
        split <;> rfl
    · refine ⟨(.int kk q, u) :: r', by simp [h, h1], fun x hx => ?_, fun m => ?_⟩
      · rcases List.mem_cons.1 hx with rfl | hx
        · exact ⟨q, rfl⟩
        · exact h2 x hx
      · simp only [getKV, h3]
        by_cases hm : m = q
        · subst hm; simp [Ne.symm h]
        · simp [hm]
theorem mupE_int {h : Hp} {id : Nat} {kvs : List (Value × AV)} {v : AV} {n : Int} (hu : P.underlying kt = some (.int kk)) (hid : h[id]? = some (.map kvs)) (hk : intKeys kk kvs) :
    ∃ kvs', mupE P kt (.mp id) (.s (.int kk n)) v h = some (.u, ⟨[(id, .map kvs')], [], [id]⟩) ∧ intKeys kk kvs' ∧ ∀ m, getKV kvs' m = if m = n then some v else getKV kvs m := by
  obtain ⟨kvs', h1, h2, h3⟩ := updateKV_int hu n v hk
  refine ⟨kvs', ?_, h2, h3⟩
  unfold mupE
  simp only [toV, gv, if_true, hid, keyOk_int hu, h1]
end Go.AM

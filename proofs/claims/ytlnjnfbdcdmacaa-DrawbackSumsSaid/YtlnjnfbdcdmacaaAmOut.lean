import Derived.Test.YtlnjnfbdcdmacaaAmMap
/- Slices that grow. -/
namespace Go.AM
set_option linter.unusedVariables false
def idOf : AV → Option Nat
  | .sl _ id .. => some id
  | _ => none
@[simp] theorem idOf_sl (sz id off len fr : Nat) (full : Bool) : idOf (.sl sz id off len fr full) = some id := rfl
@[simp] theorem idOf_nilS : idOf nilS = none := rfl
/-- A slice that grows: nil, or a whole array. -/
def Gro {α : Type} (sz : Nat) (f : α → List AV) (h : Hp) (v : AV) (l : List α) : Prop := (l = [] ∧ v = nilS) ∨ (l ≠ [] ∧ ∃ k, v = .sl sz k 0 l.length l.length false ∧ h[k]? = some (.arr sz (l.map f) true false))
section
variable {α β : Type} {sz : Nat} {f : α → List AV} {h h' : Hp} {v : AV} {l : List α}
theorem Gro.nil : Gro sz f h nilS [] := .inl ⟨rfl, rfl⟩
theorem Gro.keep (O : Gro sz f h v l) (hk : ∀ k o, idOf v = some k → h[k]? = some o → h'[k]? = some o) : Gro sz f h' v l := by
  rcases O with O | ⟨h1, k, rfl, h2⟩
  · exact .inl O
  · exact .inr ⟨h1, k, rfl, hk k _ rfl h2⟩
theorem Gro.app (O : Gro sz f h v l) (x : List AObj) : Gro sz f (h ++ x) v l := O.keep fun k o _ hk => get_app hk
theorem Gro.lt (O : Gro sz f h v l) {k : Nat} (hk : idOf v = some k) : k < h.length := by
  rcases O with ⟨_, rfl⟩ | ⟨h1, j, rfl, h2⟩
  · simp at hk
  · simp at hk; subst hk; exact (List.getElem?_eq_some_iff.1 h2).1
theorem Gro.len (O : Gro sz f h v l) (k : K β) : lenK v k = k (I l.length) := by
  rcases O with ⟨rfl, rfl⟩ | ⟨h1, j, rfl, h2⟩ <;> simp
theorem Gro.cvts (O : Gro sz f h v l) (hf : ∀ x st, (f x).all (fun c => bif st then isS c else plain c) = true) : ∃ w, (∀ st, Go.AM.cvt st h v = some w) ∧ nrm (.l sz) w = .lst sz l.isEmpty (l.map f) := by
  rcases O with ⟨rfl, rfl⟩ | ⟨h1, k, rfl, h2⟩
  · exact ⟨nilS, fun st => rfl, rfl⟩
  · have he : l.isEmpty = false := by simpa using h1
    refine ⟨.lst sz false (l.map f), fun st => cvt_whole h2 (by simp) (by simp) (okE_map fun x => hf x st), ?_⟩
    rw [he]; rfl
theorem Gro.snoc (β : Type) (O : Gro sz f h v l) {by_ m : Nat} {z : α} {b : Bool} (hm : h[m]? = some (.arr sz [f z] true false)) (hv : idOf v ≠ some m) (hf : ∀ x ∈ z :: l, (f x).length = sz) (hl : (l.length + 1) * by_ ≤ 140737488355328) :
    ∃ v' h', (∀ k : AV → Hp → Option β, effK (appE sz by_ v (.sl sz m 0 1 1 b) h h.length) h k = k v' h') ∧ Gro sz f h' v' (l ++ [z]) ∧ h.length ≤ h'.length ∧ (∀ j o, h[j]? = some o → idOf v ≠ some j → h'[j]? = some o) ∧ (idOf v' = idOf v ∨ idOf v' = some h.length) := by
  have hz : (f z).length = sz := hf z (by simp)
  rcases O with ⟨rfl, rfl⟩ | ⟨h1, k, rfl, h2⟩
  · have hb : by_ ≤ 140737488355328 := by simpa using hl
    refine ⟨.sl sz h.length 0 1 1 false, h ++ [.arr sz [f z] true false], fun k => ?_, .inr ⟨by simp, h.length, rfl, by simp⟩, by simp, fun j o hj _ => get_app hj, .inr rfl⟩
    simp [appE, readSl, hm, hz, hb, effK, ap]
  · have hkl := (List.getElem?_eq_some_iff.1 h2).1
    refine ⟨.sl sz k 0 (l ++ [z]).length (l ++ [z]).length false, h.set k (.arr sz ((l ++ [z]).map f) true false), fun k' => ?_, .inr ⟨by simp, k, rfl, by simp [hkl]⟩, by simp, fun j o hj hn => ?_, .inl rfl⟩
    · simp [appE, readSl, hm, h2, hz, hl, effK, ap]
    · have hkj : k ≠ j := by rintro rfl; exact hn rfl
      rw [List.getElem?_set_ne hkj]; exact hj
end
/-- Of arguments that lie in the heap, or are written otherwise; the answer of numbers alone. -/
theorem closedX_scal' {shp shr : List Sh} {F : Fun} {h : Hp} {args as' as : List AV} {v : AV} {h0 : Hp} (ha : cvts false h args = some as') (hn : nrms shp as' = nrms shp as) (hp : plains as = true) (hF : closedX shp shr F as h0 = some (v, h0)) (hs : scal v = true) : closedX shp shr F args h = some (v, h) := by
  unfold closedX at hF ⊢
  rw [cvts_plain hp] at hF
  rw [ha]
  dsimp only at hF ⊢
  rw [hn]
  split at hF <;> try (simp at hF; done)
  rename_i w g hR
  split at hF <;> try (simp at hF; done)
  rename_i w' hw
  simp only [Option.some.injEq, Prod.mk.injEq] at hF
  obtain ⟨rfl, -⟩ := hF
  rw [hp, Bool.not_true] at hw
  have hw2 : ∀ st, cvt st g w = some w' := fun st => by
    cases st with
    | false => exact hw
    | true => exact cvt_scal hw (nrmR_scal hs)
  rw [hw2]
end Go.AM

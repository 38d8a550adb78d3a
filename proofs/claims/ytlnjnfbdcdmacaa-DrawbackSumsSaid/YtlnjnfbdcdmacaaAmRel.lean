import Derived.Test.YtlnjnfbdcdmacaaAmDefs
import Derived.Below
import Derived.ArgAppend
namespace Go.AM
open Go.RowKit
set_option linter.unusedVariables false

/-! ### What stands for what -/
/-- Where an object lies: a block, the place of its first cell, the elements that it has room for; or (an empty slice) nowhere. -/
inductive Loc where
  | real (blk off cap : Nat)
  | virt (a : Option Addr)
/-- Where the objects lie; and what lies in blocks that nobody writes any more: the blocks, and a world that has them. -/
structure Mu where
  loc : Nat → Loc
  base : World
  imm : Nat → Prop
instance : CoeFun Mu (fun _ => Nat → Loc) := ⟨Mu.loc⟩
def Mu.set (μ : Mu) (id : Nat) (l : Loc) : Mu := { μ with loc := fun i => if i = id then l else μ.loc i }
@[simp] theorem Mu.set_loc (μ : Mu) (id : Nat) (l : Loc) (i : Nat) : (μ.set id l).loc i = if i = id then l else μ.loc i := rfl
@[simp] theorem Mu.set_imm (μ : Mu) (id : Nat) (l : Loc) : (μ.set id l).imm = μ.imm := rfl
@[simp] theorem Mu.set_base (μ : Mu) (id : Nat) (l : Loc) : (μ.set id l).base = μ.base := rfl
def ImmLe (μ μ' : Mu) : Prop := ∀ k, μ.imm k → μ'.imm k ∧ μ'.base.heap[k]? = μ.base.heap[k]?
theorem ImmLe.refl (μ : Mu) : ImmLe μ μ := fun k hk => ⟨hk, rfl⟩
theorem ImmLe.trans {a b c : Mu} (h1 : ImmLe a b) (h2 : ImmLe b c) : ImmLe a c := fun k hk => ⟨(h2 k (h1 k hk).1).1, ((h2 k (h1 k hk).1).2).trans (h1 k hk).2⟩
theorem cell_same {w w' : World} {b : Nat} (hb : w'.heap[b]? = w.heap[b]?) (i : Nat) : w'.cell? ⟨b, i, none⟩ = w.cell? ⟨b, i, none⟩ := by simp [World.cell?, hb]
theorem ImmLe.cell {μ μ' : Mu} (hi : ImmLe μ μ') {k : Nat} (hk : μ.imm k) (i : Nat) : μ'.base.cell? ⟨k, i, none⟩ = μ.base.cell? ⟨k, i, none⟩ := cell_same (hi k hk).2 i

def SlOk (L : Loc) (sz off len : Nat) (A : Option Addr) (c : Nat) : Prop :=
  match L with
  | .real blk o cap => ∃ a, A = some a ∧ off + c ≤ cap ∧ (c ≠ 0 → a = ⟨blk, o + off * sz, none⟩)
  | .virt A' => A = A' ∧ c = 0 ∧ off = 0

mutual
def VR (μ : Mu) (h : Hp) : AV → Value → Prop
  | .u, _ => True
  | .s x, v => gv x = true ∧ v = x
  | .ptr id idx sub fr, v => ∃ a, v = .pointer (some a) ∧ ∃ sz es own nil, h[id]? = some (.arr sz es own nil) ∧ fr ≤ es.length ∧
      (fr = es.length → ∃ blk o c, μ id = .real blk o c ∧ a = ⟨blk, o + (idx * sz + sub), none⟩)
  | .sl sz id off len fr full, v => ∃ A c, v = .slice A len c ∧ len ≤ c ∧ (0 < len → A.isSome = true) ∧ (full = true → c = len) ∧
      ∃ es own nil, h[id]? = some (.arr sz es own nil) ∧ fr ≤ es.length ∧ (fr = es.length → SlOk (μ id) sz off len A c)
  | .mp id, v => ∃ kvs blk, h[id]? = some (.map kvs) ∧ μ id = .real blk 0 0 ∧ v = .map (some blk)
  | .fn f caps, v => ∃ vs, v = .func (.func f) #[] vs ∧ VRs μ h caps vs.toList
  | .yl l, v => v = .func (.yield l) #[] #[]
  | .lst sz nil es, v => ∃ A c, v = .slice A es.length c ∧ es.length ≤ c ∧ c ≤ maxLen ∧ nil = A.isNone ∧ (A = none → c = 0) ∧ (∀ e ∈ es, e.length = sz ∧ ∀ x ∈ e, okC x = true) ∧
      (0 < es.length → ∃ blk o vs, A = some ⟨blk, o, none⟩ ∧ μ.imm blk ∧ VRf μ [] es vs ∧ ∀ j u, vs[j]? = some u → μ.base.cell? ⟨blk, o + j, none⟩ = some u ∧ u.oneCell' = true)
  | .ep e sub, v => ∃ blk o vs, v = .pointer (some ⟨blk, o + sub, none⟩) ∧ μ.imm blk ∧ VRs μ [] e vs ∧ ∀ j u, vs[j]? = some u → μ.base.cell? ⟨blk, o + j, none⟩ = some u ∧ u.oneCell' = true
  | .agg cs, v => ∃ vs, v = .agg vs ∧ VRs μ h cs vs.toList
  | .tup cs, v => ∃ vs, v = .tuple vs ∧ VRs μ h cs vs.toList
def VRs (μ : Mu) (h : Hp) : List AV → List Value → Prop
  | [], vs => vs = []
  | a :: as, vs => ∃ v vs', vs = v :: vs' ∧ VR μ h a v ∧ VRs μ h as vs'
def VRf (μ : Mu) (h : Hp) : List (List AV) → List Value → Prop
  | [], vs => vs = []
  | e :: es, vs => ∃ a b, vs = a ++ b ∧ VRs μ h e a ∧ VRf μ h es b
end

/-- An object as it lies in memory. -/
def ORel (μ : Mu) (h : Hp) (w : World) (id : Nat) : AObj → Prop
  | .arr sz es own nil =>
    (∀ e ∈ es, e.length = sz ∧ ∀ c ∈ e, okC c = true) ∧
    match μ id with
    | .virt A => es = [] ∧ nil = A.isNone ∧ own = true
    | .real blk o cap => nil = false ∧ es.length ≤ cap ∧ cap ≤ maxLen ∧ blk < w.heap.size ∧
        (∀ (i : Nat) (e : List AV) (j : Nat) (c : AV), es[i]? = some e → e[j]? = some c → ∃ v, w.cell? ⟨blk, o + (i * sz + j), none⟩ = some v ∧ v.oneCell' = true ∧ VR μ h c v) ∧
        (own = true → o = 0 ∧ ∃ cur T, w.heap[blk]? = some (.cells cur T (0, 0)) ∧ cur.size = cap * sz)
  | .map kvs => ∃ blk, μ id = .real blk 0 0 ∧ ∃ (es : Array MapEntry) (clock : Nat), w.heap[blk]? = some (.map es clock) ∧ kvs.length = es.size ∧
      ∀ (i : Nat) (k : Value) (a : AV) (e : MapEntry), kvs[i]? = some (k, a) → es[i]? = some e → e.key = k ∧ VR μ h a e.val
  | .dead => True

def isOwn : AObj → Bool
  | .arr _ _ own _ => own
  | .map _ => true
  | .dead => false
/-- The blocks that may be written. -/
def Own (μ : Mu) (h : Hp) (b : Nat) : Prop := ∃ (id : Nat) (o : AObj) (off c : Nat), h[id]? = some o ∧ isOwn o = true ∧ μ id = .real b off c

structure Rel (μ : Mu) (h : Hp) (w : World) : Prop where
  obj : ∀ (id : Nat) (o : AObj), h[id]? = some o → ORel μ h w id o
  sep : ∀ (i j : Nat) (o p : AObj) (b x c y d : Nat), h[i]? = some o → h[j]? = some p → isOwn o = true → isOwn p = true → μ i = .real b x c → μ j = .real b y d → i = j
  apart : ∀ (i sz : Nat) (es : List (List AV)) (nil : Bool) (b x c : Nat), h[i]? = some (.arr sz es false nil) → μ i = .real b x c → ¬ Own μ h b
  imm : ∀ k, μ.imm k → k < w.heap.size ∧ w.heap[k]? = μ.base.heap[k]? ∧ ¬ Own μ h k

/-- How an object's part of the heap may turn. -/
structure Evo (μ : Mu) (h : Hp) (μ' : Mu) (h' : Hp) : Prop where
  imm : ImmLe μ μ'
  obj : ∀ (id : Nat) (o : AObj), h[id]? = some o → match o with
  | .arr sz es own nil => ∃ es' nil', h'[id]? = some (.arr sz es' own nil') ∧ es.length ≤ es'.length ∧ (es'.length = es.length → μ' id = μ id)
  | .map _ => ∃ kvs', h'[id]? = some (.map kvs') ∧ μ' id = μ id
  | .dead => True
structure Frame (S : Nat → Prop) (w w' : World) : Prop where
  os : w'.os = w.os
  tape : w'.tape = w.tape
  output : w'.output = w.output
  size : w.heap.size ≤ w'.heap.size
  block : ∀ k, k < w.heap.size → ¬ S k → w'.heap[k]? = w.heap[k]?
/-- One state behind another one. -/
structure Step (μ : Mu) (h : Hp) (w : World) (μ' : Mu) (h' : Hp) (w' : World) : Prop where
  rel : Rel μ' h' w'
  evo : Evo μ h μ' h'
  frame : Frame (Own μ h) w w'
  own : ∀ b, Own μ' h' b → Own μ h b ∨ w.heap.size ≤ b
  fresh : ∀ k, μ'.imm k → μ.imm k ∨ Own μ h k ∨ w.heap.size ≤ k

theorem Evo.refl (μ : Mu) (h : Hp) : Evo μ h μ h := by
  refine ⟨ImmLe.refl _, ?_⟩
  intro id o ho
  cases o with
  | arr sz es own nil => exact ⟨es, nil, ho, Nat.le_refl _, fun _ => rfl⟩
  | map kvs => exact ⟨kvs, ho, rfl⟩
  | dead => trivial
theorem Evo.nil {μ μ' : Mu} {h' : Hp} (hi : ImmLe μ μ') : Evo μ [] μ' h' := ⟨hi, fun id o ho => by simp at ho⟩
theorem Evo.trans {μ μ1 μ2 : Mu} {h h1 h2 : Hp} (a : Evo μ h μ1 h1) (b : Evo μ1 h1 μ2 h2) : Evo μ h μ2 h2 := by
  refine ⟨a.imm.trans b.imm, ?_⟩
  intro id o ho
  have := a.obj id o ho
  cases o with
  | arr sz es own nil =>
    obtain ⟨es1, nil1, h1e, l1, m1⟩ := this
    obtain ⟨es2, nil2, h2e, l2, m2⟩ := b.obj id _ h1e
    exact ⟨es2, nil2, h2e, by omega, fun e => (m2 (by omega)).trans (m1 (by omega))⟩
  | map kvs =>
    obtain ⟨k1, h1e, m1⟩ := this
    obtain ⟨k2, h2e, m2⟩ := b.obj id _ h1e
    exact ⟨k2, h2e, m2.trans m1⟩
  | dead => trivial
theorem Frame.refl (S : Nat → Prop) (w : World) : Frame S w w := ⟨rfl, rfl, rfl, Nat.le_refl _, fun _ _ _ => rfl⟩
theorem Frame.trans {S S1 : Nat → Prop} {w w1 w2 : World} (a : Frame S w w1) (b : Frame S1 w1 w2) (hs : ∀ k, S1 k → S k ∨ w.heap.size ≤ k) : Frame S w w2 :=
  ⟨b.os.trans a.os, b.tape.trans a.tape, b.output.trans a.output, Nat.le_trans a.size b.size,
    fun k hk hn => (b.block k (Nat.lt_of_lt_of_le hk a.size) (fun h1 => (hs k h1).elim hn (by omega))).trans (a.block k hk hn)⟩
theorem Step.refl {μ : Mu} {h : Hp} {w : World} (r : Rel μ h w) : Step μ h w μ h w := ⟨r, Evo.refl _ _, Frame.refl _ _, fun _ hb => .inl hb, fun _ hb => .inl hb⟩
theorem Step.trans {μ μ1 μ2 : Mu} {h h1 h2 : Hp} {w w1 w2 : World} (a : Step μ h w μ1 h1 w1) (b : Step μ1 h1 w1 μ2 h2 w2) : Step μ h w μ2 h2 w2 :=
  ⟨b.rel, a.evo.trans b.evo, a.frame.trans b.frame a.own, fun k hk => (b.own k hk).elim (fun h => a.own k h) (fun h => .inr (Nat.le_trans a.frame.size h)),
    fun k hk => (b.fresh k hk).elim (fun h => a.fresh k h) fun h => h.elim (fun h => .inr (a.own k h)) fun h => .inr (.inr (Nat.le_trans a.frame.size h))⟩

mutual
theorem VR.evo {μ μ' : Mu} {h h' : Hp} (he : Evo μ h μ' h') : ∀ (a : AV) (v : Value), VR μ h a v → VR μ' h' a v
  | .u, _, _ => by simp [VR]
  | .s _, _, hv => by simpa [VR] using hv
  | .ptr id idx sub fr, v, hv => by
    simp only [VR] at hv ⊢
    obtain ⟨a, rfl, sz, es, own, nil, hid, hl, hc⟩ := hv
    obtain ⟨es', nil', hid', hl', hm⟩ := he.obj id _ hid
    exact ⟨a, rfl, sz, es', own, nil', hid', by omega, fun e => by rw [hm (by omega)]; exact hc (by omega)⟩
  | .sl sz id off len fr full, v, hv => by
    simp only [VR] at hv ⊢
    obtain ⟨A, c, rfl, h1, h2, h3, es, own, nil, hid, hl, hc⟩ := hv
    obtain ⟨es', nil', hid', hl', hm⟩ := he.obj id _ hid
    exact ⟨A, c, rfl, h1, h2, h3, es', own, nil', hid', by omega, fun e => by rw [hm (by omega)]; exact hc (by omega)⟩
  | .mp id, v, hv => by
    simp only [VR] at hv ⊢
    obtain ⟨kvs, blk, hid, hm, rfl⟩ := hv
    obtain ⟨kvs', hid', hm'⟩ := he.obj id _ hid
    exact ⟨kvs', blk, hid', hm'.trans hm, rfl⟩
  | .fn f caps, v, hv => by
    simp only [VR] at hv ⊢
    obtain ⟨vs, rfl, hc⟩ := hv
    exact ⟨vs, rfl, VRs.evo he caps _ hc⟩
  | .yl _, _, hv => by simpa [VR] using hv
  | .lst sz nil es, v, hv => by
    simp only [VR] at hv ⊢
    obtain ⟨A, c, rfl, h1, h2, h3, h4, h5, h6⟩ := hv
    refine ⟨A, c, rfl, h1, h2, h3, h4, h5, fun hp => ?_⟩
    obtain ⟨blk, o, vs, rfl, hi, hf, hc⟩ := h6 hp
    exact ⟨blk, o, vs, rfl, (he.imm _ hi).1, VRf.evo (Evo.nil he.imm) es _ hf, fun j u hu => ⟨(he.imm.cell hi _).trans (hc j u hu).1, (hc j u hu).2⟩⟩
  | .ep e sub, v, hv => by
    simp only [VR] at hv ⊢
    obtain ⟨blk, o, vs, rfl, hi, hf, hc⟩ := hv
    exact ⟨blk, o, vs, rfl, (he.imm _ hi).1, VRs.evo (Evo.nil he.imm) e _ hf, fun j u hu => ⟨(he.imm.cell hi _).trans (hc j u hu).1, (hc j u hu).2⟩⟩
  | .agg cs, v, hv => by
    simp only [VR] at hv ⊢
    obtain ⟨vs, rfl, hc⟩ := hv
    exact ⟨vs, rfl, VRs.evo he cs _ hc⟩
  | .tup cs, v, hv => by
    simp only [VR] at hv ⊢
    obtain ⟨vs, rfl, hc⟩ := hv
    exact ⟨vs, rfl, VRs.evo he cs _ hc⟩
theorem VRs.evo {μ μ' : Mu} {h h' : Hp} (he : Evo μ h μ' h') : ∀ (as : List AV) (vs : List Value), VRs μ h as vs → VRs μ' h' as vs
  | [], _, hv => by simpa [VRs] using hv
  | a :: as, vs, hv => by
    simp only [VRs] at hv ⊢
    obtain ⟨v, vs', rfl, h1, h2⟩ := hv
    exact ⟨v, vs', rfl, VR.evo he a v h1, VRs.evo he as vs' h2⟩
theorem VRf.evo {μ μ' : Mu} {h h' : Hp} (he : Evo μ h μ' h') : ∀ (es : List (List AV)) (vs : List Value), VRf μ h es vs → VRf μ' h' es vs
  | [], _, hv => by simpa [VRf] using hv
  | e :: es, vs, hv => by
    simp only [VRf] at hv ⊢
    obtain ⟨a, b, rfl, h1, h2⟩ := hv
    exact ⟨a, b, rfl, VRs.evo he e a h1, VRf.evo he es b h2⟩
end
/-- Without objects. -/
theorem VR.lift {μ : Mu} (h : Hp) {a : AV} {v : Value} (hv : VR μ [] a v) : VR μ h a v := VR.evo ⟨ImmLe.refl _, fun id o ho => by simp at ho⟩ a v hv
theorem VRs.lift {μ : Mu} (h : Hp) {as : List AV} {vs : List Value} (hv : VRs μ [] as vs) : VRs μ h as vs := VRs.evo ⟨ImmLe.refl _, fun id o ho => by simp at ho⟩ as vs hv
theorem VRf.flat {μ : Mu} {h : Hp} : ∀ {es : List (List AV)} {vs : List Value}, VRf μ h es vs → VRs μ h es.flatten vs
  | [], _, hv => by simpa [VRf, VRs] using hv
  | e :: es, _, hv => by
    simp only [VRf] at hv
    obtain ⟨a, b, rfl, h1, h2⟩ := hv
    rw [List.flatten_cons]
    exact VRs.app h1 (VRf.flat h2)
where
  VRs.app {μ : Mu} {h : Hp} : ∀ {as bs : List AV} {vs ws : List Value}, VRs μ h as vs → VRs μ h bs ws → VRs μ h (as ++ bs) (vs ++ ws)
  | [], _, _, _, h1, h2 => by simp only [VRs] at h1; subst h1; simpa using h2
  | a :: as, _, _, _, h1, h2 => by
    simp only [VRs] at h1
    obtain ⟨v, vs', rfl, h3, h4⟩ := h1
    simp only [List.cons_append, VRs]
    exact ⟨v, vs' ++ _, rfl, h3, VRs.app h4 h2⟩

/-! ### Lists of values -/
theorem VRs.length {μ : Mu} {h : Hp} : ∀ {as : List AV} {vs : List Value}, VRs μ h as vs → as.length = vs.length
  | [], _, hv => by simp only [VRs] at hv; subst hv; rfl
  | _ :: _, _, hv => by
    simp only [VRs] at hv
    obtain ⟨_, _, rfl, _, h2⟩ := hv
    simp [VRs.length h2]
theorem VRs.get {μ : Mu} {h : Hp} : ∀ {as : List AV} {vs : List Value}, VRs μ h as vs → ∀ (i : Nat) (a : AV), as[i]? = some a → ∃ v, vs[i]? = some v ∧ VR μ h a v
  | [], _, hv, i, a, ha => by simp at ha
  | x :: as, _, hv, i, a, ha => by
    simp only [VRs] at hv
    obtain ⟨v, vs', rfl, h1, h2⟩ := hv
    cases i with
    | zero => simp at ha; subst ha; exact ⟨v, by simp, h1⟩
    | succ i => simp at ha; obtain ⟨v', e, r⟩ := VRs.get h2 i a ha; exact ⟨v', by simpa using e, r⟩
theorem VRs.of_get {μ : Mu} {h : Hp} : ∀ {as : List AV} {vs : List Value}, as.length = vs.length → (∀ (i : Nat) (a : AV) (v : Value), as[i]? = some a → vs[i]? = some v → VR μ h a v) → VRs μ h as vs
  | [], vs, hl, _ => by simp only [VRs]; simpa using hl.symm
  | a :: as, [], hl, _ => by simp at hl
  | a :: as, v :: vs, hl, hg => by
    simp only [VRs]
    exact ⟨v, vs, rfl, hg 0 a v rfl rfl, VRs.of_get (by simpa using hl) (fun i a' v' h1 h2 => hg (i + 1) a' v' (by simpa using h1) (by simpa using h2))⟩
theorem VRs.append {μ : Mu} {h : Hp} : ∀ {as bs : List AV} {vs ws : List Value}, VRs μ h as vs → VRs μ h bs ws → VRs μ h (as ++ bs) (vs ++ ws)
  | [], _, _, _, h1, h2 => by simp only [VRs] at h1; subst h1; simpa using h2
  | a :: as, _, _, _, h1, h2 => by
    simp only [VRs] at h1
    obtain ⟨v, vs', rfl, h3, h4⟩ := h1
    simp only [List.cons_append, VRs]
    exact ⟨v, vs' ++ _, rfl, h3, VRs.append h4 h2⟩
theorem VRs.take {μ : Mu} {h : Hp} : ∀ {as : List AV} {vs : List Value} (n : Nat), VRs μ h as vs → VRs μ h (as.take n) (vs.take n)
  | as, _, 0, _ => by simp [VRs]
  | [], _, n + 1, h1 => by simp only [VRs] at h1; subst h1; simp [VRs]
  | a :: as, _, n + 1, h1 => by
    simp only [VRs] at h1
    obtain ⟨v, vs', rfl, h3, h4⟩ := h1
    simp only [List.take_succ_cons, VRs]
    exact ⟨v, vs'.take n, rfl, h3, VRs.take n h4⟩
theorem VRs.drop {μ : Mu} {h : Hp} : ∀ {as : List AV} {vs : List Value} (n : Nat), VRs μ h as vs → VRs μ h (as.drop n) (vs.drop n)
  | as, _, 0, h1 => by simpa using h1
  | [], _, n + 1, h1 => by simp only [VRs] at h1; subst h1; simp [VRs]
  | a :: as, _, n + 1, h1 => by
    simp only [VRs] at h1
    obtain ⟨v, vs', rfl, h3, h4⟩ := h1
    simpa using VRs.drop n h4
theorem VRs.map {μ : Mu} {h : Hp} {γ : Type} (f : γ → AV) (g : γ → Value) (hf : ∀ x, VR μ h (f x) (g x)) : ∀ l : List γ, VRs μ h (l.map f) (l.map g)
  | [] => by simp [VRs]
  | x :: l => by simp only [List.map_cons, VRs]; exact ⟨_, _, rfl, hf x, VRs.map f g hf l⟩

/-! ### Values without an address -/
theorem oneCell_gv {v : Value} (h : gv v = true) : v.oneCell' = true := by cases v <;> simp_all [gv, Value.oneCell']
theorem VR.one {μ : Mu} {h : Hp} {a : AV} {v : Value} (hv : VR μ h a v) (ok : okC a = true) : v.oneCell' = true := by
  cases a with
  | s x => simp only [VR] at hv; rw [hv.2]; exact oneCell_gv hv.1
  | ptr => simp only [VR] at hv; obtain ⟨_, rfl, _⟩ := hv; rfl
  | sl => simp only [VR] at hv; obtain ⟨_, _, rfl, _⟩ := hv; rfl
  | mp => simp only [VR] at hv; obtain ⟨_, _, _, _, rfl⟩ := hv; rfl
  | fn => simp only [VR] at hv; obtain ⟨_, rfl, _⟩ := hv; rfl
  | yl => simp only [VR] at hv; subst hv; rfl
  | lst => simp only [VR] at hv; obtain ⟨_, _, rfl, _⟩ := hv; rfl
  | ep => simp only [VR] at hv; obtain ⟨_, _, _, rfl, _⟩ := hv; rfl
  | u => simp [okC] at ok
  | agg => simp [okC] at ok
  | tup => simp [okC] at ok
theorem VR.cells {μ : Mu} {h : Hp} {a : AV} {v : Value} (hv : VR μ h a v) (ok : (cellsOf a).all okC = true) : VRs μ h (cellsOf a) v.cells.toList := by
  cases a with
  | agg cs => simp only [VR] at hv; obtain ⟨vs, rfl, hc⟩ := hv; simpa [cellsOf, Value.cells] using hc
  | tup cs => simp [cellsOf, okC] at ok
  | u => simp [cellsOf, okC] at ok
  | _ =>
    have h1 := VR.one hv (by simpa [cellsOf] using ok)
    have : v.cells = #[v] := by cases v <;> simp_all [Value.cells, Value.oneCell']
    rw [this]
    simp only [cellsOf, VRs]
    exact ⟨v, [], rfl, hv, rfl⟩
theorem VR.toV {μ : Mu} {h : Hp} {a : AV} {v x : Value} (hv : VR μ h a v) (hx : toV a = some x) : v = x := by
  cases a with
  | s y => simp only [AM.toV] at hx; split at hx <;> simp_all [VR]
  | agg cs =>
    simp only [VR] at hv
    obtain ⟨vs, rfl, hc⟩ := hv
    simp only [AM.toV, Option.map_eq_some_iff] at hx
    obtain ⟨xs, hxs, rfl⟩ := hx
    have : ∀ (cs : List AV) (vs xs : List Value), VRs μ h cs vs → cs.mapM cellV = some xs → vs = xs := by
      intro cs
      induction cs with
      | nil => intro vs xs h1 h2; simp only [VRs] at h1; simp at h2; simp [h1, h2]
      | cons c cs ih =>
        intro vs xs h1 h2
        simp only [VRs] at h1
        obtain ⟨v, vs', rfl, h3, h4⟩ := h1
        simp only [List.mapM_cons, bind, Option.bind_eq_some_iff, pure, Option.some.injEq] at h2
        obtain ⟨x, hx1, xs', hx2, rfl⟩ := h2
        have e1 : v = x := by
          cases c <;> simp only [cellV] at hx1 <;> try (simp at hx1; done)
          split at hx1 <;> simp_all [VR]
        rw [e1, ih vs' xs' h4 hx2]
    have e := this cs vs.toList xs hc hxs
    rw [← e]
  | _ => simp [AM.toV] at hx
theorem VR.ofC {μ : Mu} {h : Hp} {v : Value} {a : AV} (hx : ofC v = some a) : VR μ h a v := by
  unfold AM.ofC at hx
  split at hx
  · simp at hx; subst hx; simp [VR, *]
  · simp at hx
theorem VR.ofV1 {μ : Mu} {h : Hp} {v : Value} {a : AV} (hx : ofV1 v = some a) : VR μ h a v := by
  unfold AM.ofV1 at hx
  split at hx
  · rename_i cs
    simp only [Option.map_eq_some_iff] at hx
    obtain ⟨as, has, rfl⟩ := hx
    simp only [VR]
    refine ⟨cs, rfl, ?_⟩
    have : ∀ (l : List Value) (as : List AV), l.mapM AM.ofC = some as → VRs μ h as l := by
      intro l
      induction l with
      | nil => intro as h1; simp at h1; subst h1; simp [VRs]
      | cons x l ih =>
        intro as h1
        simp only [List.mapM_cons, bind, Option.bind_eq_some_iff, pure, Option.some.injEq] at h1
        obtain ⟨y, hy, ys, hys, rfl⟩ := h1
        simp only [VRs]
        exact ⟨x, l, rfl, VR.ofC hy, ih ys hys⟩
    exact this _ _ has
  · exact VR.ofC hx
theorem VRf.get {μ : Mu} {h : Hp} {sz : Nat} : ∀ {es : List (List AV)} {vs : List Value}, VRf μ h es vs → (∀ e ∈ es, e.length = sz) → ∀ (i : Nat) (e : List AV), es[i]? = some e →
    ∃ us, VRs μ h e us ∧ ∀ (j : Nat) (u : Value), us[j]? = some u → vs[i * sz + j]? = some u
  | [], _, _, _, i, e, he => by simp at he
  | x :: es, _, hv, hs, i, e, he => by
    simp only [VRf] at hv
    obtain ⟨a, b, rfl, h1, h2⟩ := hv
    have hl : a.length = sz := by rw [← h1.length]; exact hs x (by simp)
    cases i with
    | zero =>
      simp at he
      subst he
      exact ⟨a, h1, fun j u hu => by rw [Nat.zero_mul, Nat.zero_add, List.getElem?_append_left (List.getElem?_eq_some_iff.1 hu).1]; exact hu⟩
    | succ i =>
      simp at he
      obtain ⟨us, g1, g2⟩ := VRf.get h2 (fun e he => hs e (by simp [he])) i e he
      refine ⟨us, g1, fun j u hu => ?_⟩
      rw [Nat.add_mul, Nat.one_mul, List.getElem?_append_right (by omega)]
      have := g2 j u hu
      rw [← this]
      congr 1
      omega
theorem VRf.take {μ : Mu} {h : Hp} : ∀ {es : List (List AV)} {vs : List Value} (n : Nat), VRf μ h es vs → ∃ us, VRf μ h (es.take n) us ∧ ∀ (j : Nat) (u : Value), us[j]? = some u → vs[j]? = some u
  | es, _, 0, _ => ⟨[], by simp [VRf], fun j u hu => by simp at hu⟩
  | [], _, n + 1, h1 => ⟨[], by simp [VRf], fun j u hu => by simp at hu⟩
  | e :: es, _, n + 1, h1 => by
    simp only [VRf] at h1
    obtain ⟨a, b, rfl, h3, h4⟩ := h1
    obtain ⟨us, g1, g2⟩ := VRf.take n h4
    refine ⟨a ++ us, by simp only [List.take_succ_cons, VRf]; exact ⟨a, us, rfl, h3, g1⟩, fun j u hu => ?_⟩
    rcases Nat.lt_or_ge j a.length with hj | hj
    · rw [List.getElem?_append_left hj] at hu ⊢; exact hu
    · rw [List.getElem?_append_right hj] at hu ⊢; exact g2 _ _ hu
theorem VRf.drop {μ : Mu} {h : Hp} {sz : Nat} : ∀ {es : List (List AV)} {vs : List Value} (n : Nat), VRf μ h es vs → (∀ e ∈ es, e.length = sz) → n ≤ es.length → ∃ us, VRf μ h (es.drop n) us ∧ ∀ (j : Nat) (u : Value), us[j]? = some u → vs[n * sz + j]? = some u
  | es, vs, 0, h1, _, _ => ⟨vs, by simpa using h1, fun j u hu => by simpa using hu⟩
  | [], _, n + 1, h1, _, hn => by simp at hn
  | e :: es, _, n + 1, h1, hs, hn => by
    simp only [VRf] at h1
    obtain ⟨a, b, rfl, h3, h4⟩ := h1
    have hl : a.length = sz := by rw [← h3.length]; exact hs e (by simp)
    obtain ⟨us, g1, g2⟩ := VRf.drop n h4 (fun e he => hs e (by simp [he])) (by simpa using hn)
    refine ⟨us, by simpa using g1, fun j u hu => ?_⟩
    rw [Nat.add_mul, Nat.one_mul, List.getElem?_append_right (by omega)]
    have := g2 j u hu
    rw [← this]
    congr 1
    omega
theorem pureVal_run {α : Type} {P : Program} : ∀ (s : Sem α) (a : α), pureVal P s = some a → ∀ w, s.run P w = .ok a w := by
  intro s
  induction s with
  | pure a => intro b hb w; simp [pureVal] at hb; subst hb; rfl
  | program k ih => intro b hb w; simp only [pureVal] at hb; simp only [Sem.run]; exact ih P b hb w
  | _ => intro b hb; simp [pureVal] at hb
end Go.AM

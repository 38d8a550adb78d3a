import Derived.Test.YtjmoiabkdpaknaaG4
import Derived.Below
import Derived.ChangeOld
import Derived.Carry
import Derived.OpenShut
set_option linter.unusedSectionVars false
set_option linter.unusedVariables false
set_option linter.unusedSimpArgs false
set_option linter.constructorNameAsVariable false
namespace Go.AM
open Go.RowKit
set_option linter.unusedVariables false
def mu0 (w : World) : Mu := ⟨fun _ => .virt none, w, fun k => k < w.heap.size⟩
theorem rel0 (w : World) : Rel (mu0 w) [] w where
  obj := fun id o h => by simp at h
  sep := fun i j o p b x c y d h => by simp at h
  apart := fun i sz es nil b x c h => by simp at h
  imm := fun k hk => ⟨hk, rfl, fun ⟨id, o, off, c, h, _⟩ => by simp at h⟩
theorem own0 (w : World) (b : Nat) : ¬ Own (mu0 w) [] b := fun ⟨id, o, off, c, h, _⟩ => by simp at h
theorem below0 {w w' : World} {μ' : Mu} {h' : Hp} (s : Step (mu0 w) [] w μ' h' w') : Below w.heap.size w w' :=
  ⟨s.frame.os, s.frame.tape, s.frame.output, s.frame.size, fun k hk => s.frame.block k hk (own0 w k)⟩
theorem row_calls {P : Program} {f : FuncId} {F : Fun} {args : List AV} {h' : Hp} {b : Bool} {W : World} {cargs : Array Value} (hc : CSound P f F) (hF : F args [] = some (.s (.bool b), h')) (hv : VRs (mu0 W) [] args cargs.toList) :
    Calls P f cargs W fun e W' => e = .returned (.bool b) ∧ Below W.heap.size W W' := by
  refine (hc args [] _ h' hF (mu0 W) W cargs (rel0 W) hv).2.mono fun e W' => ?_
  rintro ⟨cv, μ', rfl, s, hr⟩
  simp only [VR] at hr
  exact ⟨by rw [hr.2], below0 s⟩

inductive Ty where
  | int (k : IntKind)
  | bool
  | str
  | sl (e : List Ty)
def tyFs (f : TypeId → Option (List Ty)) (size : TypeId → Nat) : List Field → Nat → Option (List Ty)
  | [], _ => some []
  | x :: l, pos => match f x.type, tyFs f size l (pos + size x.type) with
    | some a, some b => if x.offset = pos ∧ a.length = size x.type then some (a ++ b) else none
    | _, _ => none
def tyOf (P : Program) : Nat → TypeId → Option (List Ty)
  | 0, _ => none
  | n + 1, t => match P.underlying t with
    | some .bool => some [.bool]
    | some (.int k) => some [.int k]
    | some .string => some [.str]
    | some (.slice e) => match tyOf P n e with
      | some l => if l.length = P.cellsOf e ∧ 0 < l.length then some [.sl l] else none
      | none => none
    | some (.struct fs) => match tyFs (tyOf P n) P.cellsOf fs.toList 0 with
      | some l => if l.length = P.cellsOf t then some l else none
      | none => none
    | some (.array m e) => match tyOf P n e with
      | some l => if l.length = P.cellsOf e ∧ m * P.cellsOf e = P.cellsOf t then some (List.replicate m l).flatten else none
      | none => none
    | _ => none
mutual
def HasT : Ty → AV → Prop
  | .int k, a => ∃ n, a = .s (.int k n) ∧ (Lit.int k n).wf = true
  | .bool, a => ∃ b, a = .s (.bool b)
  | .str, a => ∃ s : ByteArray, a = .s (.string s) ∧ s.size ≤ maxLen
  | .sl ts, a => ∃ nil es, a = .lst ts.length nil es ∧ (nil = true → es = []) ∧ es.length ≤ maxLen ∧ ∀ e ∈ es, HasTs ts e
def HasTs : List Ty → List AV → Prop
  | [], asl => asl = []
  | t :: ts, asl => ∃ a as', asl = a :: as' ∧ HasT t a ∧ HasTs ts as'
end
theorem HasTs.app : ∀ {ts us : List Ty} {asl bs : List AV}, HasTs ts asl → HasTs us bs → HasTs (ts ++ us) (asl ++ bs)
  | [], us, asl, bs, h, k => by simp only [HasTs] at h; subst h; exact k
  | t :: ts, us, asl, bs, h, k => by
    simp only [HasTs] at h
    obtain ⟨a, as', rfl, h1, h2⟩ := h
    simp only [List.cons_append, HasTs]
    exact ⟨a, _, rfl, h1, HasTs.app h2 k⟩
theorem HasTs.len : ∀ {ts : List Ty} {asl : List AV}, HasTs ts asl → asl.length = ts.length
  | [], asl, h => by simp only [HasTs] at h; subst h; rfl
  | t :: ts, asl, h => by
    simp only [HasTs] at h
    obtain ⟨a, as', rfl, h1, h2⟩ := h
    simp [HasTs.len h2]
theorem HasT.ok : ∀ {t : Ty} {a : AV}, HasT t a → okC a = true
  | .int k, a, h => by simp only [HasT] at h; obtain ⟨n, rfl, _⟩ := h; rfl
  | .bool, a, h => by simp only [HasT] at h; obtain ⟨n, rfl⟩ := h; rfl
  | .str, a, h => by simp only [HasT] at h; obtain ⟨n, rfl, _⟩ := h; rfl
  | .sl ts, a, h => by simp only [HasT] at h; obtain ⟨n, es, rfl, _⟩ := h; rfl
theorem HasTs.ok : ∀ {ts : List Ty} {asl : List AV}, HasTs ts asl → ∀ x ∈ asl, okC x = true
  | [], asl, h, x, hx => by simp only [HasTs] at h; subst h; simp at hx
  | t :: ts, asl, h, x, hx => by
    simp only [HasTs] at h
    obtain ⟨a, as', rfl, h1, h2⟩ := h
    rcases List.mem_cons.1 hx with rfl | hx
    · exact h1.ok
    · exact h2.ok x hx
theorem VRs_app' {μ : Mu} {h : Hp} : ∀ {asl bs : List AV} {cs ds : List Value}, VRs μ h asl cs → VRs μ h bs ds → VRs μ h (asl ++ bs) (cs ++ ds)
  | [], bs, cs, ds, h1, h2 => by simp only [VRs] at h1; subst h1; exact h2
  | a :: asl, bs, cs, ds, h1, h2 => by
    simp only [VRs] at h1
    obtain ⟨v, vs, rfl, h3, h4⟩ := h1
    simp only [List.cons_append, VRs]
    exact ⟨v, _, rfl, h3, VRs_app' h4 h2⟩
section
variable {H : Type} {enc : TypeId × Value → H} {P : Program} {w : World} {base : Nat} {spare : Nat → Bool} {held : Bool}
def Opened (w : World) (ts : List Ty) (cs : List Value) : Prop := ∃ asl, HasTs ts asl ∧ VRs (mu0 w) [] asl cs ∧ ∀ u ∈ cs, u.oneCell' = true
theorem open_one {t : Ty} {u : Value} {a : AV} (h1 : HasT t a) (h2 : VR (mu0 w) [] a u) (h3 : u.oneCell' = true) : Opened w [t] [u] :=
  ⟨[a], by simp only [HasTs]; exact ⟨a, [], rfl, h1, rfl⟩, by simp only [VRs]; exact ⟨u, [], rfl, h2, rfl⟩, by simpa using h3⟩
theorem open_fs {f : TypeId → Option (List Ty)} {g : TypeId → List Value → Prop} {cs : List Value} (hg : ∀ t ts cs', f t = some ts → g t cs' → Opened w ts cs') : ∀ (l : List Field) (pos : Nat) (ts : List Ty), tyFs f P.cellsOf l pos = some ts →
    (∀ x ∈ l, g x.type ((cs.drop x.offset).take (P.cellsOf x.type))) → Opened w ts ((cs.drop pos).take ts.length)
  | [], pos, ts, h, _ => by
    simp only [tyFs, Option.some.injEq] at h
    subst h
    exact ⟨[], rfl, rfl, by simp⟩
  | x :: l, pos, ts, h, hx => by
    simp only [tyFs] at h
    split at h
    · rename_i a b h1 h2
      split at h
      · rename_i hc
        simp only [Option.some.injEq] at h
        subst h
        obtain ⟨h3, h4⟩ := hc
        obtain ⟨asl, p1, p2, p3⟩ := hg _ _ _ h1 (hx x (by simp))
        obtain ⟨bs, q1, q2, q3⟩ := open_fs hg l _ b h2 (fun y hy => hx y (by simp [hy]))
        have e : (cs.drop pos).take (a ++ b).length = (cs.drop x.offset).take (P.cellsOf x.type) ++ (cs.drop (pos + P.cellsOf x.type)).take b.length := by
          rw [List.length_append, h4, h3, ← List.drop_drop, List.take_add]
        rw [e]
        refine ⟨asl ++ bs, p1.app q1, VRs_app' p2 q2, ?_⟩
        intro u hu
        rcases List.mem_append.1 hu with hu | hu
        · exact p3 u hu
        · exact q3 u hu
      · simp at h
    · simp at h
theorem open_arr {ts : List Ty} {sz : Nat} {cs : List Value} : ∀ (n i0 : Nat), (∀ i, i < n → Opened w ts ((cs.drop ((i0 + i) * sz)).take sz)) → Opened w (List.replicate n ts).flatten ((cs.drop (i0 * sz)).take (n * sz))
  | 0, i0, _ => ⟨[], rfl, by simp [VRs], by simp⟩
  | n + 1, i0, h => by
    obtain ⟨asl, p1, p2, p3⟩ := h 0 (by omega)
    obtain ⟨bs, q1, q2, q3⟩ := open_arr n (i0 + 1) (fun i hi => by have := h (i + 1) (by omega); rwa [show i0 + (i + 1) = i0 + 1 + i by omega] at this)
    have e : (cs.drop (i0 * sz)).take ((n + 1) * sz) = (cs.drop (i0 * sz)).take sz ++ (cs.drop ((i0 + 1) * sz)).take (n * sz) := by
      rw [show (n + 1) * sz = sz + n * sz by rw [Nat.add_mul]; omega, show (i0 + 1) * sz = i0 * sz + sz by rw [Nat.add_mul]; omega, ← List.drop_drop, List.take_add]
    rw [e, List.replicate_succ, List.flatten_cons]
    refine ⟨asl ++ bs, p1.app q1, VRs_app' p2 q2, ?_⟩
    intro u hu
    rcases List.mem_append.1 hu with hu | hu
    · exact p3 u hu
    · exact q3 u hu
theorem open_es {ts : List Ty} {sz b : Nat} (hts : ts.length = sz) : ∀ (n o : Nat), (∀ i, i < n → ∃ cs, Opened w ts cs ∧ cs.length = sz ∧ ∀ j u, cs[j]? = some u → w.cell? ⟨b, o + i * sz + j, none⟩ = some u) →
    ∃ es vs, es.length = n ∧ (∀ e ∈ es, HasTs ts e) ∧ VRf (mu0 w) [] es vs ∧ ∀ j u, vs[j]? = some u → w.cell? ⟨b, o + j, none⟩ = some u ∧ u.oneCell' = true
  | 0, o, h => ⟨[], [], rfl, by simp, rfl, by simp⟩
  | n + 1, o, h => by
    obtain ⟨cs, ⟨asl, h1, h2, h3⟩, h4, h5⟩ := h 0 (by omega)
    obtain ⟨es, vs, k1, k2, k3, k4⟩ := open_es hts n (o + sz) (fun i hi => by
      obtain ⟨cs', q1, q2, q3⟩ := h (i + 1) (by omega)
      refine ⟨cs', q1, q2, fun j u hu => ?_⟩
      rw [← q3 j u hu]
      congr 2
      rw [Nat.add_mul]; omega)
    refine ⟨asl :: es, cs ++ vs, by simp [k1], ?_, ?_, ?_⟩
    · intro e he
      rcases List.mem_cons.1 he with rfl | he
      · exact h1
      · exact k2 e he
    · simp only [VRf]; exact ⟨cs, vs, rfl, h2, k3⟩
    · intro j u hj
      by_cases hlt : j < cs.length
      · rw [List.getElem?_append_left hlt] at hj
        have := h5 j u hj
        exact ⟨by simpa using this, h3 u (List.mem_of_getElem? hj)⟩
      · rw [List.getElem?_append_right (by omega)] at hj
        have := k4 _ _ hj
        rw [show o + sz + (j - cs.length) = o + j by omega] at this
        exact this
theorem cell_lt {a : Addr} {v : Value} (h : w.cell? a = some v) : a.block < w.heap.size := by
  rcases Nat.lt_or_ge a.block w.heap.size with h1 | h1
  · exact h1
  · have : w.heap[a.block]? = none := by simpa using h1
    simp [World.cell?, this] at h
theorem open_cells : ∀ (fuel n : Nat) (t : TypeId) (ts : List Ty) (cs : List Value) (x : DataW H × List MemPlace), tyOf P n t = some ts → DataW.trod enc P w base spare held fuel t cs = some x → Opened w ts cs
  | 0, n, t, ts, cs, x, _, h => by simp [DataW.trod] at h
  | fuel + 1, 0, t, ts, cs, x, h0, _ => by simp [tyOf] at h0
  | fuel + 1, n + 1, t, ts, cs, x, h0, h => by
    unfold tyOf at h0
    cases hu : P.underlying t with
    | none => rw [hu] at h0; simp at h0
    | some T =>
      rw [hu] at h0
      cases T with
      | bool =>
        simp only [Option.some.injEq] at h0
        subst h0
        obtain ⟨b, rfl, _⟩ := DataW.trod_bool hu h
        exact open_one (a := .s (.bool b)) (by simp [HasT]) (by simp [VR, gv]) rfl
      | int k =>
        simp only [Option.some.injEq] at h0
        subst h0
        obtain ⟨m, rfl, _, hw⟩ := DataW.trod_int hu h
        exact open_one (a := .s (.int k m)) (by simp [HasT, hw]) (by simp [VR, gv]) rfl
      | string =>
        simp only [Option.some.injEq] at h0
        subst h0
        obtain ⟨s, rfl, _, hs⟩ := DataW.trod_string hu h
        exact open_one (a := .s (.string s)) (by simp [HasT, hs]) (by simp [VR, gv]) rfl
      | slice e =>
        simp only at h0
        cases he : tyOf P n e with
        | none => rw [he] at h0; simp at h0
        | some l =>
          rw [he] at h0
          simp only at h0
          split at h0
          · rename_i hl
            simp only [Option.some.injEq] at h0
            subst h0
            rcases DataW.trod_slice hu h with ⟨rfl, _⟩ | ⟨a, len, cap, elems, rest, m, hm, rfl, _, hb, h1, h2, h3, h4, _, _⟩
            · refine open_one (a := .lst l.length true []) ?_ ?_ rfl
              · simp only [HasT]; exact ⟨true, [], rfl, fun _ => rfl, by simp, by simp⟩
              · simp only [VR]
                exact ⟨none, 0, rfl, by simp, by simp, rfl, fun _ => rfl, by simp, by simp⟩
            · have hm' : m = fuel := by omega
              subst hm'
              have cell : ∀ i, i < len → ∃ cs, Opened w l cs ∧ cs.length = P.cellsOf e ∧ ∀ j, j < P.cellsOf e → w.cell? ((a.add (i * P.cellsOf e)).add j) = cs[j]? := by
                intro i hi
                have hi' := h4 i hi
                rw [List.getElem?_eq_getElem (by omega), Option.bind_eq_some_iff] at hi'
                obtain ⟨cs, q1, q2⟩ := hi'
                have q3 := World.cells?_some q1
                exact ⟨cs, open_cells m n e l cs _ he q2, q3.2.1, q3.2.2⟩
              obtain ⟨b, off, spot⟩ := a
              have hsp : len ≠ 0 → spot = none := fun hn => by
                obtain ⟨cs, _, q2, q3⟩ := cell 0 (by omega)
                have q4 := q3 0 (by omega)
                rw [List.getElem?_eq_getElem (by omega)] at q4
                simpa [Addr.add] using World.cell?_spot q4
              by_cases hn : len = 0
              · subst hn
                refine open_one (a := .lst l.length false []) ?_ ?_ rfl
                · simp only [HasT]; exact ⟨false, [], rfl, fun _ => rfl, by simp, by simp⟩
                · simp only [VR]
                  exact ⟨_, cap, rfl, by simp, h2, rfl, by simp, by simp, by simp⟩
              · have hs := hsp hn
                subst hs
                obtain ⟨es, vs, k1, k2, k3, k4⟩ := open_es (w := w) (ts := l) (sz := P.cellsOf e) (b := b) hl.1 len off (fun i hi => by
                  obtain ⟨cs, q1, q2, q3⟩ := cell i hi
                  refine ⟨cs, q1, q2, fun j u hj => ?_⟩
                  have hjl := (List.getElem?_eq_some_iff.1 hj).1
                  have := q3 j (by omega)
                  rw [hj] at this
                  rw [← this, Go.WideShapes.add_plain, Go.WideShapes.add_plain])
                refine open_one (a := .lst l.length false es) ?_ ?_ rfl
                · simp only [HasT]; exact ⟨false, es, rfl, by simp, by omega, k2⟩
                · simp only [VR]
                  refine ⟨_, cap, by rw [k1], by omega, h2, rfl, by simp, fun e' he' => ⟨(k2 e' he').len, (k2 e' he').ok⟩, fun _ => ⟨b, off, vs, rfl, ?_, k3, k4⟩⟩
                  obtain ⟨cs, q1, q2, q3⟩ := cell 0 (by omega)
                  have q4 := q3 0 (by omega)
                  rw [List.getElem?_eq_getElem (by omega)] at q4
                  show b < w.heap.size
                  rw [Go.WideShapes.add_plain, Go.WideShapes.add_plain] at q4
                  exact cell_lt q4
          · simp at h0
      | struct fs =>
        simp only at h0
        cases he : tyFs (tyOf P n) P.cellsOf fs.toList 0 with
        | none => rw [he] at h0; simp at h0
        | some l =>
          rw [he] at h0
          simp only at h0
          split at h0
          · rename_i hl
            simp only [Option.some.injEq] at h0
            subst h0
            obtain ⟨xs, m, hm, _, h2, h3, h4⟩ := DataW.trod_struct hu h
            have hm' : m = fuel := by omega
            subst hm'
            have := open_fs (w := w) (P := P) (f := tyOf P n) (g := fun t cs' => ∃ y, DataW.trod enc P w base spare held m t cs' = some y) (cs := cs) (fun t ts cs' q1 ⟨y, q2⟩ => open_cells m n t ts cs' y q1 q2) fs.toList 0 l he (fun y hy => by
              obtain ⟨i, hi⟩ := List.getElem?_of_mem hy
              have hi2 : fs[i]? = some y := by simpa using hi
              have := h4 i y hi2
              have hlt : i < xs.length := by rw [h3]; exact (Array.getElem?_eq_some_iff.1 hi2).1
              rw [List.getElem?_eq_getElem hlt] at this
              exact ⟨_, this⟩)
            rw [List.drop_zero, hl, ← h2, List.take_length] at this
            exact this
          · simp at h0
      | array k e =>
        simp only at h0
        cases he : tyOf P n e with
        | none => rw [he] at h0; simp at h0
        | some l =>
          rw [he] at h0
          simp only at h0
          split at h0
          · rename_i hl
            simp only [Option.some.injEq] at h0
            subst h0
            obtain ⟨xs, m, hm, _, h2, h3, h4⟩ := DataW.trod_array hu h
            have hm' : m = fuel := by omega
            subst hm'
            have := open_arr (w := w) (ts := l) (sz := P.cellsOf e) (cs := cs) k 0 (fun i hi => by
              have h5 := h4 i hi
              rw [List.getElem?_eq_getElem (by omega)] at h5
              have h6 := open_cells m n e l _ _ he h5
              rwa [Nat.zero_add])
            rw [Nat.zero_mul, List.drop_zero, hl.2, ← h2, List.take_length] at this
            exact this
          · simp at h0
      | _ => simp at h0
theorem open_agg {t : TypeId} {fs : Array Field} {r : Reach} {b : Nat} {v : Value} {d : DataW H} {ps : List MemPlace} {n : Nat} {ts : List Ty} (hu : P.underlying t = some (.struct fs)) (ht : tyOf P n t = some ts) (hval : Value.okWide P w r b t v)
    (hd : DataW.Trod enc P w base spare held t v d ps) : ∃ asl, HasTs ts asl ∧ VR (mu0 w) [] (.agg asl) v := by
  obtain ⟨cs, rfl, _⟩ := WideShapes.okWide_struct hu hval
  obtain ⟨fuel, hf⟩ := hd
  obtain ⟨asl, h1, h2, _⟩ := open_cells fuel n t ts _ _ ht hf
  exact ⟨asl, h1, by simp only [VR]; exact ⟨cs, rfl, h2⟩⟩
theorem open_cell {t : TypeId} {v : Value} {d : DataW H} {ps : List MemPlace} {n : Nat} {ty : Ty} (hv : v.cells = #[v]) (ht : tyOf P n t = some [ty]) (hd : DataW.Trod enc P w base spare held t v d ps) : ∃ a, HasT ty a ∧ VR (mu0 w) [] a v := by
  obtain ⟨fuel, hf⟩ := hd
  rw [hv] at hf
  obtain ⟨asl, h1, h2, _⟩ := open_cells fuel n t [ty] _ _ ht hf
  simp only [HasTs] at h1
  obtain ⟨a, as', rfl, h1, rfl⟩ := h1
  simp only [VRs] at h2
  obtain ⟨v', vs', h3, h4, _⟩ := h2
  simp at h3
  exact ⟨a, h1, by rw [h3.1]; exact h4⟩
end
theorem has_list {α : Type} {ts : List Ty} {f : α → List AV} (hf : ∀ cs, HasTs ts cs → ∃ x, cs = f x) {a : AV} (h : HasT (.sl ts) a) : ∃ (l : List α) (b : Bool), a = .lst ts.length (b && l.isEmpty) (l.map f) := by
  simp only [HasT] at h
  obtain ⟨nil, es, rfl, hn, hm, he⟩ := h
  have : ∃ l : List α, es = l.map f := by
    clear hn hm
    induction es with
    | nil => exact ⟨[], rfl⟩
    | cons e es ih =>
      obtain ⟨x, hx⟩ := hf e (he e (by simp))
      obtain ⟨l, hl⟩ := ih (fun e' h' => he e' (by simp [h']))
      exact ⟨x :: l, by simp [hx, hl]⟩
  obtain ⟨l, rfl⟩ := this
  refine ⟨l, nil, ?_⟩
  cases nil with
  | false => rfl
  | true =>
    have : l = [] := by simpa using hn rfl
    subst this; rfl
end Go.AM


namespace Go.AM
open Go.Proofs
set_option linter.unusedVariables false
set_option linter.unusedSimpArgs false
set_option linter.constructorNameAsVariable false
set_option maxRecDepth 20000
section
variable {β : Type} {P : Program} {T : Tab} {D : DTab} {N : Nat} {K : AV → Hp → Option β}
end
end Go.AM


namespace Go.AM
open Go.Proofs
set_option linter.unusedVariables false
set_option linter.unusedSimpArgs false
set_option linter.constructorNameAsVariable false
set_option maxRecDepth 20000
section
variable {β : Type} {P : Program} {T : Tab} {D : DTab} {N : Nat} {K : AV → Hp → Option β}
abbrev SL {α : Type} (sz : Nat) (f : α → List AV) (b : Bool) (l : List α) : AV := .lst sz (b && l.isEmpty) (l.map f)
theorem F_slices_Clone_Good_val (l : List Gd) (b : Bool) (hl : l.length < 1000000) (h : Hp) : F_slices_Clone_Good [SL 3 encG b l] h = some (SL 3 encG b l, h) := by
  refine (F_slices_Clone_Good_run (v := if b && l.isEmpty then nilS else SL 3 encG b l) rfl ?_ h).trans ?_
  · by_cases hb : (b && l.isEmpty) = true
    · simp [f_slices_Clone_Good, hb]
    · have hb' : (b && l.isEmpty) = false := by simpa using hb
      have hle : l.length * 24 ≤ 140737488355328 := by omega
      have h2 : ((l.map encG).all fun e => e.length == 3) = true := by simp [encG]
      have h3 : okE false (l.map encG) = true := okE_map (by intro x; simp [encG])
      simp [f_slices_Clone_Good, hb', bsE, fillS, appE, readSl, hle, h2, ap]
      rw [cvt_whole rfl (by simp) (by simp) h3, SL, hb']
  · by_cases hb : (b && l.isEmpty) = true
    · obtain ⟨rfl, hl0⟩ := Bool.and_eq_true_iff.1 hb
      have : l = [] := by simpa using hl0
      subst this
      rfl
    · rw [if_neg hb]
      rfl
theorem F_slices_Clone_int_val (l : List Int) (b : Bool) (hl : l.length < 1000000) (h : Hp) : F_slices_Clone_int [SL 1 encI b l] h = some (SL 1 encI b l, h) := by
  refine (F_slices_Clone_int_run (v := if b && l.isEmpty then nilS else SL 1 encI b l) rfl ?_ h).trans ?_
  · by_cases hb : (b && l.isEmpty) = true
    · simp [f_slices_Clone_int, hb]
    · have hb' : (b && l.isEmpty) = false := by simpa using hb
      have hle : l.length * 8 ≤ 140737488355328 := by omega
      have h2 : ((l.map encI).all fun e => e.length == 1) = true := by simp [encI]
      have h3 : okE false (l.map encI) = true := okE_map (by intro x; simp [encI])
      simp [f_slices_Clone_int, hb', bsE, fillS, appE, readSl, hle, h2, ap]
      rw [cvt_whole rfl (by simp) (by simp) h3, SL, hb']
  · by_cases hb : (b && l.isEmpty) = true
    · obtain ⟨rfl, hl0⟩ := Bool.and_eq_true_iff.1 hb
      have : l = [] := by simpa using hl0
      subst this
      rfl
    · rw [if_neg hb]
      rfl
theorem F_slices_Clone_Line_val (l : List Ln) (b : Bool) (hl : l.length < 1000000) (h : Hp) : F_slices_Clone_Line [SL 8 encLn b l] h = some (SL 8 encLn b l, h) := by
  refine (F_slices_Clone_Line_run (v := if b && l.isEmpty then nilS else SL 8 encLn b l) rfl ?_ h).trans ?_
  · by_cases hb : (b && l.isEmpty) = true
    · simp [f_slices_Clone_Line, hb]
    · have hb' : (b && l.isEmpty) = false := by simpa using hb
      have hle : l.length * 64 ≤ 140737488355328 := by omega
      have h2 : ((l.map encLn).all fun e => e.length == 8) = true := by simp [encLn]
      have h3 : okE false (l.map encLn) = true := okE_map (by intro x; simp [encLn])
      simp [f_slices_Clone_Line, hb', bsE, fillS, appE, readSl, hle, h2, ap]
      rw [cvt_whole rfl (by simp) (by simp) h3, SL, hb']
  · by_cases hb : (b && l.isEmpty) = true
    · obtain ⟨rfl, hl0⟩ := Bool.and_eq_true_iff.1 hb
      have : l = [] := by simpa using hl0
      subst this
      rfl
    · rw [if_neg hb]
      rfl
end
structure Prc where
  b1 : Bool
  sent : List Gd
  b2 : Bool
  got : List Gd
  b3 : Bool
  tol : List Int
def encPr (p : Prc) : List AV := [SL 3 encG p.b1 p.sent, SL 3 encG p.b2 p.got, SL 1 encI p.b3 p.tol]
def cmpP (p : Prc) : List Ln × Int := cmpS p.sent p.got p.tol
theorem F_law44_compare_val (p : Prc) (h1 : p.sent.length < 1000) (h2 : p.got.length < 1000) (h3 : p.tol.length < 1000) (h : Hp) : F_law44_compare [.agg (encPr p)] h = some (.tup [.lst 8 (cmpP p).1.isEmpty ((cmpP p).1.map encLn), I (cmpP p).2], h) := by
  have c1 := F_slices_Clone_Good_val p.sent p.b1 (by omega)
  have c2 := F_slices_Clone_Good_val p.got p.b2 (by omega)
  have c3 := F_slices_Clone_int_val p.tol p.b3 (by omega)
  have cc := F_receipt_Compare_val p.sent p.got p.tol (p.b1 && p.sent.isEmpty) (p.b2 && p.got.isEmpty) (p.b3 && p.tol.isEmpty) h1 h2 h3
  have g1 : ∀ h base, G_slices_Clone_Good [SL 3 encG p.b1 p.sent] h base = some (SL 3 encG p.b1 p.sent, EF []) := fun h base => (closedXD_val (c1 h) base).trans (by simp [idss, ids])
  have g2 : ∀ h base, G_slices_Clone_Good [SL 3 encG p.b2 p.got] h base = some (SL 3 encG p.b2 p.got, EF []) := fun h base => (closedXD_val (c2 h) base).trans (by simp [idss, ids])
  have g3 : ∀ h base, G_slices_Clone_int [SL 1 encI p.b3 p.tol] h base = some (SL 1 encI p.b3 p.tol, EF []) := fun h base => (closedXD_val (c3 h) base).trans (by simp [idss, ids])
  have g4 : ∀ h base, G_receipt_Compare [SL 3 encG p.b1 p.sent, SL 3 encG p.b2 p.got, SL 1 encI p.b3 p.tol] h base = some (.tup [.lst 8 (cmpP p).1.isEmpty ((cmpP p).1.map encLn), I (cmpP p).2], EF []) := fun h base => (closedXD_val (cc h) base).trans (by simp [idss, ids, cmpP])
  refine (F_law44_compare_run (a0 := .agg (encPr p)) (v := .tup [.lst 8 (cmpP p).1.isEmpty ((cmpP p).1.map encLn), I (cmpP p).2]) (by simp [encPr]) ?_ h).trans rfl
  show f_law44_compare _ _ _ _ _ (.agg (encPr p)) _ = _
  simp only [encPr]
  generalize cmpP p = cp at *
  obtain ⟨o, er⟩ := cp
  dsimp only at *
  generalize o.map encLn = O at *
  generalize o.isEmpty = oe at *
  simp only [SL] at g1 g2 g3 g4 ⊢
  generalize p.sent.map encG = S at *
  generalize p.got.map encG = G at *
  generalize p.tol.map encI = TT at *
  simp [f_law44_compare, boxE, g1, g2, g3, g4, disjAll, disj2, idsOf, wrOf]
abbrev exSent : List Gd := [⟨1, 1, 1000⟩, ⟨2, 2, 500⟩]
abbrev exGot : List Gd := [⟨1, 1, 960⟩, ⟨3, 2, 7⟩]
abbrev exTol : List Int := [300, 0, 0, 0, 0, 0, 0, 0, 0]
abbrev exLines : List Ln := [⟨1, 1, 1000, 960, ⟨30, 0, 10, 0⟩⟩, ⟨2, 2, 500, 0, ⟨0, 0, 500, 0⟩⟩, ⟨3, 2, 0, 7, ⟨0, 0, 0, 7⟩⟩]
theorem F_law44_example_val (h : Hp) : F_law44_example [] h = some (.tup [.lst 3 false (exSent.map encG), .lst 3 false (exGot.map encG), .lst 1 false (exTol.map encI)], h) := by
  refine (F_law44_example_run (v := .tup [.lst 3 false (exSent.map encG), .lst 3 false (exGot.map encG), .lst 1 false (exTol.map encI)]) rfl ?_ h).trans rfl
  simp [f_law44_example, buildK, fillA, bsE, fillS, encG, cvt, okE]
theorem ex_cmp : cmpS exSent exGot exTol = (exLines, 0) := by
  have h1 : rightG exSent = true := by decide
  have h2 : rightG exGot = true := by decide
  have h3 : mergeG exSent exGot = [(⟨1, 1, 1000⟩, ⟨1, 1, 960⟩), (⟨2, 2, 500⟩, zG), (zG, ⟨3, 2, 7⟩)] := by simp [mergeG]
  unfold cmpS
  rw [h1, h2, h3]
  decide
theorem F_law44_awake_val (h : Hp) : F_law44_awake [] h = some (B true, h) := by
  refine F_law44_awake_run rfl ?_ h
  have fe := F_law44_example_val
  have r1 := F_receipt_Compare_val exSent exGot exTol false false false (by decide) (by decide) (by decide)
  rw [ex_cmp] at r1
  have r2 := F_receipt_Total_val exLines false (by decide)
  rw [show totalLn exLines = ((1500, 967, ⟨30, 0, 510, 7⟩), 0) by decide] at r2
  have r3 := F_receipt_Accepts_val exLines false 510 (by decide)
  rw [show acceptLn exLines 510 = (true, 0) by decide] at r3
  have r4 := F_receipt_Accepts_val exLines false 509 (by decide)
  rw [show acceptLn exLines 509 = (false, 0) by decide] at r4
  have r5 := F_slices_Equal_Line_val exLines exLines false false (by decide)
  have r6 := F_receipt_Verify_val exSent exGot exTol exLines false false false false (by decide) (by decide) (by decide)
  rw [show verifyS exSent exGot exTol exLines = 0 by unfold verifyS; rw [ex_cmp]; decide] at r6
  have hcv : ∀ (h : Hp) (id : Nat), h[id]? = some (.arr 8 (exLines.map encLn) true false) → cvt false h (.sl 8 id 0 3 3 true) = some (.lst 8 false (exLines.map encLn)) := fun h id hid => cvt_whole hid rfl rfl rfl
  have r5' : ∀ (h : Hp) (id : Nat), h[id]? = some (.arr 8 (exLines.map encLn) true false) → F_slices_Equal_Line [.lst 8 false (exLines.map encLn), .sl 8 id 0 3 3 true] h = some (B true, h) := fun h id hid =>
    closedX_scal (asl := [.lst 8 false (exLines.map encLn), .lst 8 false (exLines.map encLn)]) (h0 := []) (by simp only [cvts, hcv h id hid]; rfl) ((r5 []).trans (by simp)) rfl
  have r6' : ∀ (h : Hp) (id : Nat), h[id]? = some (.arr 8 (exLines.map encLn) true false) → F_receipt_Verify [.lst 3 false (exSent.map encG), .lst 3 false (exGot.map encG), .lst 1 false (exTol.map encI), .sl 8 id 0 3 3 true] h = some (I 0, h) := fun h id hid =>
    closedX_scal (asl := [.lst 3 false (exSent.map encG), .lst 3 false (exGot.map encG), .lst 1 false (exTol.map encI), .lst 8 false (exLines.map encLn)]) (h0 := []) (by simp only [cvts, hcv h id hid]; rfl) (r6 []) rfl
  have hE : exLines.map encLn = [[I 1, I 1, I 1000, I 960, I 30, I 0, I 10, I 0], [I 2, I 2, I 500, I 0, I 0, I 0, I 500, I 0], [I 3, I 2, I 0, I 7, I 0, I 0, I 0, I 7]] := rfl
  simp only [List.isEmpty_cons] at r1
  simp only [encO] at r2
  generalize exSent.map encG = S at *
  generalize exGot.map encG = G at *
  generalize exTol.map encI = TT at *
  rw [hE] at r1 r2 r3 r4 r5' r6'
  clear hE hcv r5 r6
  simp [f_law44_awake, fe, r1, r2, r3, r4, r5', r6', boxE, stE, ap, bsE, fillS, buildK, fillA, eqs_44, show IntKind.i64.wrap 0 = 0 from by kernel_rfl]
end Go.AM


namespace Go.AM
open Go.Proofs
set_option linter.unusedVariables false
set_option linter.unusedSimpArgs false
set_option linter.constructorNameAsVariable false
set_option maxRecDepth 20000
theorem has_Gd {cs : List AV} (h : HasTs [.int .i64, .int .i64, .int .i64] cs) : ∃ p : Gd, cs = encG p := by
  simp only [HasTs, HasT] at h
  obtain ⟨_, _, rfl, ⟨a, rfl, _⟩, _, _, rfl, ⟨b, rfl, _⟩, _, _, rfl, ⟨c, rfl, _⟩, rfl⟩ := h
  exact ⟨⟨a, b, c⟩, rfl⟩
theorem has_Gds {a : AV} (h : HasT (.sl [.int .i64, .int .i64, .int .i64]) a) : ∃ (l : List Gd) (b : Bool), a = SL 3 encG b l := has_list (fun _ h => has_Gd h) h
theorem has_Int1 {cs : List AV} (h : HasTs [.int .i64] cs) : ∃ p : Int, cs = encI p := by
  simp only [HasTs, HasT] at h
  obtain ⟨_, _, rfl, ⟨a, rfl, _⟩, rfl⟩ := h
  exact ⟨a, rfl⟩
theorem has_Ints {a : AV} (h : HasT (.sl [.int .i64]) a) : ∃ (l : List Int) (b : Bool), a = SL 1 encI b l := has_list (fun _ h => has_Int1 h) h
theorem has_Prc {cs : List AV} (h : HasTs [.sl [.int .i64, .int .i64, .int .i64], .sl [.int .i64, .int .i64, .int .i64], .sl [.int .i64]] cs) : ∃ p : Prc, cs = encPr p := by
  simp only [HasTs] at h
  obtain ⟨_, _, rfl, ha, _, _, rfl, hb, _, _, rfl, hc, rfl⟩ := h
  obtain ⟨l1, b1, rfl⟩ := has_Gds ha
  obtain ⟨l2, b2, rfl⟩ := has_Gds hb
  obtain ⟨l3, b3, rfl⟩ := has_Ints hc
  exact ⟨⟨b1, l1, b2, l2, b3, l3⟩, rfl⟩
end Go.AM


namespace Go.AM
open Go.Proofs
set_option linter.unusedVariables false
set_option linter.unusedSimpArgs false
set_option linter.constructorNameAsVariable false
set_option maxRecDepth 20000
theorem cmp_ok {s t : List Gd} {tol : List Int} (h : (cmpS s t tol).2 = 0) : rightG s = true ∧ rightG t = true ∧ okTol tol ∧ (mergeG s t).any clashG = false ∧ (mergeG s t).length ≤ 64 ∧ (cmpS s t tol).1 = (mergeG s t).map (lineG tol) := by
  unfold cmpS at h ⊢
  split at h
  · simp at h
  · rename_i h1
    split at h
    · simp at h
    · rename_i h2
      split at h
      · simp at h
      · rename_i h3
        split at h
        · simp at h
        · rename_i h4
          split at h
          · simp at h
          · rename_i h5
            simp only [Bool.not_eq_false, Bool.and_eq_true] at h1
            have hok : okTol tol := ⟨by simpa using h2, fun n hn => by
              have := List.any_eq_false.1 (by simpa using h3 : (tol.any fun n => !win n 0 10000) = false) n hn
              simp [win] at this; omega⟩
            refine ⟨h1.1, h1.2, hok, by simpa using h4, by omega, ?_⟩
            rw [if_neg (by simp [h1]), if_neg h2, if_neg h3, if_neg h4, if_neg h5]
theorem cmp_err {s t : List Gd} {tol : List Int} (h : (cmpS s t tol).2 ≠ 0) : (cmpS s t tol).1 = [] := by
  unfold cmpS at h ⊢
  split
  · rfl
  · split
    · rfl
    · split
      · rfl
      · split
        · rfl
        · split
          · rfl
          · rename_i h1 h2 h3 h4 h5
            rw [if_neg h1, if_neg h2, if_neg h3, if_neg h4, if_neg h5] at h
            simp at h
theorem find_or {l : List Gd} (h : rightG l = true) (id : Int) : findG l id = zG ∨ (findG l id ∈ l ∧ (findG l id).id = id ∧ badG (findG l id) = false) := by
  rcases find_cases l id with ⟨e, -⟩ | ⟨e1, e2⟩
  · exact .inl e
  · exact .inr ⟨e1, e2, (rightG_spec h).2.1 _ e1⟩
theorem badG_bd {g : Gd} (h : badG g = false) : (1 ≤ g.id ∧ g.id ≤ 1073741824) ∧ (1 ≤ g.cls ∧ g.cls ≤ 9) ∧ (1 ≤ g.alc ∧ g.alc ≤ 10737418240000) := by
  simp [badG, win] at h; omega
theorem zG_z : zG.id = 0 ∧ zG.cls = 0 ∧ zG.alc = 0 := ⟨rfl, rfl, rfl⟩
theorem merge_pair {s t : List Gd} (hs : rightG s = true) (ht : rightG t = true) {p : Gd × Gd} (hp : p ∈ mergeG s t) :
    (p.1 = zG ∧ p.2 ∈ t ∧ badG p.2 = false) ∨ (p.1 ∈ s ∧ badG p.1 = false ∧ (p.2 = zG ∨ (p.2 ∈ t ∧ badG p.2 = false ∧ p.2.id = p.1.id))) := by
  obtain ⟨-, s1, s2⟩ := right_all hs
  obtain ⟨-, t1, t2⟩ := right_all ht
  obtain ⟨m1, -, -, -⟩ := merge_spec s t s1 t1 (fun g hg => (s2 g hg).1) (fun g hg => (t2 g hg).1)
  obtain ⟨e, hor⟩ := m1 p hp
  have e1 : p.1 = findG s (keyG p) := congrArg Prod.fst e
  have e2 : p.2 = findG t (keyG p) := congrArg Prod.snd e
  generalize keyG p = k at *
  rw [e1, e2]
  rcases find_or hs k with f | ⟨f1, f2, f3⟩
  · rcases find_or ht k with g | ⟨g1, g2, g3⟩
    · exfalso
      rcases hor with ⟨x, hx, rfl⟩ | ⟨x, hx, rfl⟩
      · have := find_mem s1 hx
        rw [f] at this
        have := (s2 x hx).1
        rw [← ‹zG = x›] at this
        simp [zG] at this
      · have := find_mem t1 hx
        rw [g] at this
        have := (t2 x hx).1
        rw [← ‹zG = x›] at this
        simp [zG] at this
    · exact .inl ⟨f, g1, g3⟩
  · right
    refine ⟨f1, f3, ?_⟩
    rcases find_or ht k with g | ⟨g1, g2, g3⟩
    · exact .inl g
    · exact .inr ⟨g1, g3, by rw [g2, f2]⟩
section
variable {β : Type} {P : Program} {T : Tab} {D : DTab} {N : Nat} {K : AV → Hp → Option β}
theorem IndexFunc_Line_L2 {x0 : Hp → Option β} {xr : AV → Hp → Option β} {l : List Ln} {b : Bool} {fv : AV} {h : Hp} {p : Ln → Bool} (hl : l.length < 4611686018427387904) (hp : ∀ x ∈ l, ∀ k : AV → Hp → Option β, callVK T fv [.agg (encLn x)] h k = k (B (p x)) h) :
    ∀ (n i : Nat), i ≤ l.length → l.length < i + n → f_slices_IndexFunc_Line_L2 P T D N x0 xr n (.lst 8 b (l.map encLn)) fv (I l.length) (I i) h = match (l.drop i).findIdx? p with | some j => xr (I ((i + j : Nat) : Int)) h | none => x0 h := by
  intro n
  induction n with
  | zero => intro i h1 h2; omega
  | succ n ih =>
    intro i h1 h2
    show f_slices_IndexFunc_Line_b2 P T D N (f_slices_IndexFunc_Line_L2 P T D N x0 xr n) x0 xr _ _ _ _ h = _
    unfold f_slices_IndexFunc_Line_b2
    rcases Nat.lt_or_ge i l.length with hi | hi
    · have hx : l[i]? = some l[i] := List.getElem?_eq_getElem hi
      have hlt : ((i : Int) < (l.length : Int)) := by omega
      have hw : IntKind.i64.wrap ((i : Int) + 1) = ((i + 1 : Nat) : Int) := by rw [wrap64 (by omega) (by omega)]; omega
      have hpx := hp l[i] (List.getElem_mem hi)
      rw [List.drop_eq_getElem_cons hi, List.findIdx?_cons]
      simp [hlt, hx, hw, encLn] at hpx ⊢
      rw [hpx]
      cases hc : p l[i] with
      | true => simp
      | false =>
        have h3 := ih (i + 1) hi (by omega)
        rw [show ((i : Int) + 1) = ((i + 1 : Nat) : Int) by omega]
        simp only [Bool.false_eq_true, if_false]
        refine h3.trans ?_
        cases (List.drop (i + 1) l).findIdx? p with
        | none => rfl
        | some j =>
          show xr (I ((i + 1 + j : Nat) : Int)) h = xr (I ((i + (j + 1) : Nat) : Int)) h
          rw [show i + 1 + j = i + (j + 1) by omega]
    · have : i = l.length := by omega
      subst this
      simp
theorem IndexFunc_Line_K {l : List Ln} {b : Bool} {fv : AV} {h : Hp} {p : Ln → Bool} {K : AV → Hp → Option β} (hl : l.length < N) (hN : N < 4611686018427387904) (hp : ∀ x ∈ l, ∀ k : AV → Hp → Option β, callVK T fv [.agg (encLn x)] h k = k (B (p x)) h) :
    f_slices_IndexFunc_Line P T D N K (.lst 8 b (l.map encLn)) fv h = K (I (match l.findIdx? p with | some j => (j : Int) | none => -1)) h := by
  unfold f_slices_IndexFunc_Line
  simp only [lenK_lst, List.length_map]
  have := IndexFunc_Line_L2 (P := P) (D := D) (N := N) (b := b) (x0 := fun h => f_slices_IndexFunc_Line_j1 P T D N K h) (xr := fun a h => K a h) (by omega) hp N 0 (Nat.zero_le _) (by omega)
  simp only [List.drop_zero] at this
  refine this.trans ?_
  cases l.findIdx? p with
  | none => rfl
  | some j => simp
end
theorem un_bool : Try.prog.underlying 4 = some .bool := by kernel_rfl
theorem eqK_bool {β : Type} (neq : Bool) (m n : Bool) (h : Hp) (k : Go.AM.K β) : eqK Try.prog neq 4 (B m) (B n) h k = k (B (xor neq (m == n))) := by simp [eqK, un_bool]
end Go.AM


namespace Go.AM
open Go.Proofs
set_option linter.unusedVariables false
set_option linter.unusedSimpArgs false
set_option linter.constructorNameAsVariable false
set_option maxRecDepth 20000
def hasId (l : List Ln) (r : Int) : Bool := l.any fun x => x.id == r
def hasGot (l : List Ln) (r : Int) : Bool := l.any fun x => x.id == r && x.got != 0
def ascI : Option Int → List Int → Bool
  | _, [] => true
  | p, x :: l => (match p with | none => true | some q => decide (q < x)) && ascI (some x) l
theorem ascI_cons (p : Option Int) (x : Int) (l : List Int) : ascI p (x :: l) = ((match p with | none => true | some q => decide (q < x)) && ascI (some x) l) := by cases p <;> rfl
def goodLn (x : Ln) : Gd := ⟨x.id, x.cls, x.got⟩
def backS (l : List Ln) (r : List Int) : List Gd := (l.filter fun x => x.got != 0 && r.contains x.id).map goodLn
def keptS (l : List Ln) (r : List Int) : List Gd := (l.filter fun x => x.got != 0 && !r.contains x.id).map goodLn
def retS (l : List Ln) (r : List Int) : (List Gd × List Gd) × Int :=
  if linesS l = false then (([], []), 1) else if ascI none r = false then (([], []), 5) else if r.all (hasId l) = false then (([], []), 7) else if r.all (hasGot l) = false then (([], []), 9) else ((backS l r, keptS l r), 0)
def idxLn (l : List Ln) (id : Int) : Int := match l.findIdx? (fun x => x.id == id) with | some j => (j : Int) | none => -1
theorem F_Returns_1_1_val (x : Ln) (id : Int) (m : Nat) (h : Hp) (hm : h[m]? = some (.arr 1 [[I id]] true false)) : F_receipt_Returns_1_1 [.agg (encLn x), .ptr m 0 0 1] h = some (B (x.id == id), h) := by
  have hl := (List.getElem?_eq_some_iff.1 hm).1
  have hm' := fun g : List AObj => get_app (g := g) hm
  refine F_receipt_Returns_1_1_q (g := [.arr 8 [encLn x] true false]) ?_ rfl
  obtain ⟨i, c, s, g, ⟨e, o, d, u⟩⟩ := x
  simp [f_receipt_Returns_1_1, encLn, boxE, ap, hm']
theorem F_Index_Returns_val (l : List Ln) (b : Bool) (hl : l.length < 1000000) (id : Int) (m : Nat) (h : Hp) (hm : h[m]? = some (.arr 1 [[I id]] true false)) : F_slices_IndexFunc_Line__receipt_Returns_1_1 [.lst 8 b (l.map encLn), .fn 54 [.ptr m 0 0 1]] h = some (I (idxLn l id), h) := by
  refine F_slices_IndexFunc_Line__receipt_Returns_1_1_q (g := []) ?_ rfl
  rw [IndexFunc_Line_K (p := fun x => x.id == id) (by have := NN_ge; omega) NN_lt (fun x _ k => by simp [F_Returns_1_1_val x id m h hm])]
  rw [List.append_nil]; rfl
theorem F_Returns_1_val (l : List Ln) (b : Bool) (hl : l.length < 1000000) (id : Int) (m : Nat) (h : Hp) (hm : h[m]? = some (.arr 1 [[.lst 8 b (l.map encLn)]] true false)) : F_receipt_Returns_1 [I id, .ptr m 0 0 1] h = some (I (idxLn l id), h) := by
  have hml := (List.getElem?_eq_some_iff.1 hm).1
  have hm' := fun g : List AObj => get_app (g := g) hm
  refine F_receipt_Returns_1_q (g := [.arr 1 [[I id]] true false]) ?_ rfl
  have fi := F_Index_Returns_val l b hl id h.length (h ++ [.arr 1 [[I id]] true false]) (by simp)
  generalize l.map encLn = L at *
  simp [f_receipt_Returns_1, boxE, ap, hm', fi]
theorem F_Returns_2_val (l : List Ln) (b : Bool) (hl : l.length < 1000000) (id : Int) (m fb : Nat) (h : Hp) (hm : h[m]? = some (.arr 1 [[.lst 8 b (l.map encLn)]] true false)) (hf : h[fb]? = some (.arr 1 [[.fn 53 [.ptr m 0 0 1]]] true false)) :
    F_receipt_Returns_2 [I id, .ptr fb 0 0 1] h = some (B (decide (idxLn l id < 0)), h) := by
  refine F_receipt_Returns_2_q (g := []) ?_ rfl
  have f1 := F_Returns_1_val l b hl id m h hm
  simp [f_receipt_Returns_2, hf, f1]
theorem G_Returns_1_val (l : List Ln) (b : Bool) (hl : l.length < 1000000) (id : Int) (m : Nat) (h : Hp) (hm : h[m]? = some (.arr 1 [[.lst 8 b (l.map encLn)]] true false)) (base : Nat) : G_receipt_Returns_1 [I id, .ptr m 0 0 1] h base = some (I (idxLn l id), EF [m]) :=
  roD_val ⟨rfl, fun H hag => ⟨[], by
    have := hag m (by simp [idss, ids]) _ hm
    simpa using F_Returns_1_val l b hl id m H this⟩⟩ base
theorem F_Returns_3_val (l : List Ln) (b : Bool) (hl : l.length < 1000000) (id : Int) (m fb : Nat) (h : Hp) (hm : h[m]? = some (.arr 1 [[.lst 8 b (l.map encLn)]] true false)) (hf : h[fb]? = some (.arr 1 [[.fn 53 [.ptr m 0 0 1]]] true false))
    {j : Nat} {x : Ln} (hj : idxLn l id = (j : Int)) (hx : l[j]? = some x) :
    F_receipt_Returns_3 [I id, .ptr m 0 0 1, .ptr fb 0 0 1] h = some (B (x.got == 0), h) := by
  refine F_receipt_Returns_3_q (g := []) ?_ rfl
  have f1 := G_Returns_1_val l b hl id m h hm
  rw [hj] at f1
  have i1 : ∀ k : Go.AM.K (AV × Hp), iaK 8 (.lst 8 b (l.map encLn)) (I j) k = k (.ep (encLn x) 0) := fun k => iaK_at j rfl hx k
  obtain ⟨i, c, s, g, ⟨e, o, d, u⟩⟩ := x
  simp only [encLn] at i1
  generalize l.map encLn = L at *
  simp [f_receipt_Returns_3, hm, hf, f1, i1, disjAll, disj2, idsOf, wrOf]
section
variable {β : Type}
theorem F_IndexFunc_x2_val (r : List Int) (b : Bool) (hl : r.length < 1000) (fv : AV) (p : Int → Bool) (h : Hp) (hp : ∀ x ∈ r, ∀ k : AV → Hp → Option (AV × Hp), callVK t_slices_IndexFunc_int__x2 fv [I x] h k = k (B (p x)) h) :
    F_slices_IndexFunc_int__x2 [.lst 1 b (r.map encI), fv] h = some (I (match r.findIdx? p with | some j => (j : Int) | none => -1), h) := by
  refine F_slices_IndexFunc_int__x2_q (g := []) ?_ rfl
  rw [IndexFunc_int_K (p := p) (by have := NN_ge; omega) NN_lt hp, List.append_nil]
  rfl
theorem F_ContainsFunc_x2_val (r : List Int) (b : Bool) (hl : r.length < 1000) (fv : AV) (p : Int → Bool) (h : Hp) (hp : ∀ x ∈ r, ∀ k : AV → Hp → Option (AV × Hp), callVK t_slices_IndexFunc_int__x2 fv [I x] h k = k (B (p x)) h) :
    F_slices_ContainsFunc_int__x2 [.lst 1 b (r.map encI), fv] h = some (B (r.any p), h) := by
  refine F_slices_ContainsFunc_int__x2_q (g := []) ?_ rfl
  have e := F_IndexFunc_x2_val r b hl fv p h hp
  simp only [f_slices_ContainsFunc_int, t_slices_ContainsFunc_int__x2_68, callK_F, e]
  have : r.any p = (r.findIdx? p).isSome := by rw [List.findIdx?_isSome]
  rw [this]
  cases r.findIdx? p <;> simp
theorem Index_int_L2 {T : Tab} {D : DTab} {N : Nat} {x0 : Hp → Option β} {xr : AV → Hp → Option β} {l : List Int} {b : Bool} {v : Int} {h : Hp} (hl : l.length < 4611686018427387904) (heq : ∀ (x y : Int) (h : Hp) (k : Go.AM.K β), eqK Try.prog false 3 (I x) (I y) h k = k (B (x == y))) :
    ∀ (n i : Nat), i ≤ l.length → l.length < i + n → f_slices_Index_int_L2 Try.prog T D N x0 xr n (.lst 1 b (l.map encI)) ((fun x => I x) v) (I l.length) (I i) h = match (l.drop i).findIdx? (fun y => v == y) with | some j => xr (I ((i + j : Nat) : Int)) h | none => x0 h := by
  intro n
  induction n with
  | zero => intro i h1 h2; omega
  | succ n ih =>
    intro i h1 h2
    show f_slices_Index_int_b2 Try.prog T D N (f_slices_Index_int_L2 Try.prog T D N x0 xr n) x0 xr _ _ _ _ h = _
    unfold f_slices_Index_int_b2
    rcases Nat.lt_or_ge i l.length with hi | hi
    · have hx : l[i]? = some l[i] := List.getElem?_eq_getElem hi
      have hlt : ((i : Int) < (l.length : Int)) := by omega
      have hw : IntKind.i64.wrap ((i : Int) + 1) = ((i + 1 : Nat) : Int) := by rw [wrap64 (by omega) (by omega)]; omega
      have hpx := fun k => heq v l[i] h k
      have h3 := ih (i + 1) hi (by omega)
      have ic : ∀ k : Go.AM.K β, iaK 1 (.lst 1 b (l.map encI)) (I i) k = k (.ep (encI l[i]) 0) := fun k => iaK_at i rfl hx k
      have ld : ∀ k : Go.AM.K β, ldK 1 false (.ep (encI l[i]) 0) h k = k ((fun y => I y) l[i]) := fun k => by simp [encI]
      rw [List.drop_eq_getElem_cons hi, List.findIdx?_cons]
      dsimp only at h3 ld ⊢
      simp only [arithK_lss, hlt, decide_true, condK_bool, if_true, ic, ld, hpx]
      cases hc : (v == l[i]) with
      | true => simp
      | false =>
        simp only [Bool.false_eq_true, if_false, arithK_add, hw]
        refine h3.trans ?_
        cases (List.drop (i + 1) l).findIdx? (fun y => v == y) with
        | none => rfl
        | some j =>
          show xr (I ((i + 1 + j : Nat) : Int)) h = xr (I ((i + (j + 1) : Nat) : Int)) h
          rw [show i + 1 + j = i + (j + 1) by omega]
    · have : i = l.length := by omega
      subst this
      simp
theorem F_slices_Contains_int_val (l : List Int) (b : Bool) (v : Int) (hl : l.length < 1000000) (heq : ∀ (x y : Int) (h : Hp) (k : Go.AM.K AV), eqK Try.prog false 3 (I x) (I y) h k = k (B (x == y))) (h : Hp) : F_slices_Contains_int [.lst 1 b (l.map encI), (fun x => I x) v] h = some (B (l.contains v), h) := by
  have e : ∀ h, F_slices_Index_int [.lst 1 b (l.map encI), (fun x => I x) v] h = some (I (match l.findIdx? (fun y => v == y) with | some j => (j : Int) | none => -1), h) :=
    F_slices_Index_int_run rfl (by
      have := Index_int_L2 (l := l) (T := t_slices_Index_int) (D := d_slices_Index_int) (N := NN) (b := b) (v := v) (h := []) (x0 := fun h => f_slices_Index_int_j1 Try.prog t_slices_Index_int d_slices_Index_int NN (fun v g => cvt false g v) h) (xr := fun a h => cvt false h a) (by omega) heq NN 0 (Nat.zero_le _) (by have := NN_ge; omega)
      simp only [nrm, nrmC, f_slices_Index_int, lenK_lst, List.length_map]
      simp only [List.drop_zero] at this
      refine this.trans ?_
      cases l.findIdx? (fun y => v == y) with
      | none => rfl
      | some j => simp)
  refine F_slices_Contains_int_run rfl ?_ h
  simp only [nrm, nrmC, f_slices_Contains_int, t_slices_Contains_int_59, callK_F, e]
  have : l.contains v = (l.findIdx? (fun y => v == y)).isSome := by rw [List.findIdx?_isSome, List.contains_eq_any_beq]
  rw [this]
  cases l.findIdx? (fun y => v == y) <;> simp
theorem Returns_L7 {T : Tab} {D : DTab} {N : Nat} {x0 : AV → AV → Hp → Option β} {xr : AV → AV → AV → Hp → Option β} {v2 : AV} (r : List Int) (b : Bool) (hl : r.length < 1000) (h : Hp) : ∀ (n : Nat) (pre post : List Int), r = pre ++ post → post.length < n →
    f_receipt_Returns_L7 Try.prog T D N x0 xr n (.lst 1 b (r.map encI)) v2 (I r.length) (I pre.length) h = if ascI pre.getLast? post = true then x0 (.lst 1 b (r.map encI)) v2 h else xr nilS nilS (I 5) h := by
  intro n
  induction n with
  | zero => intro pre post _ h2; omega
  | succ n ih =>
    intro pre post hc hn
    show f_receipt_Returns_b7 Try.prog T D N (f_receipt_Returns_L7 Try.prog T D N x0 xr n) x0 xr _ _ _ _ h = _
    cases post with
    | nil =>
      have : r = pre := by simpa using hc
      subst this
      simp [f_receipt_Returns_b7, ascI]
    | cons c post =>
      have hi : pre.length < r.length := by rw [hc]; simp
      have hci : r[pre.length]? = some c := by rw [hc]; simp
      have hlt : ((pre.length : Int) < (r.length : Int)) := by omega
      have hw : IntKind.i64.wrap ((pre.length : Int) + 1) = (((pre ++ [c]).length : Nat) : Int) := by rw [wrap64 (by omega) (by omega)]; simp
      have step := ih (pre ++ [c]) post (by simpa using hc) (by simpa using hn)
      rw [show (pre ++ [c]).getLast? = some c by simp] at step
      have ic : ∀ k : Go.AM.K β, iaK 1 (.lst 1 b (r.map encI)) (I pre.length) k = k (.ep (encI c) 0) := fun k => iaK_at pre.length rfl hci k
      have ldc : ∀ (g : Hp) (x : Int) (k : Go.AM.K β), ldK 1 false (.ep (encI x) 0) g k = k (I x) := fun g x k => by simp [encI]
      rw [ascI_cons]
      rcases List.eq_nil_or_concat pre with rfl | ⟨pre', q, hq⟩
      · simp only [List.length_nil] at step hlt hw ic ⊢
        simp only [f_receipt_Returns_b7, arithK_lss, arithK_gtr, hlt, decide_true, condK_bool, if_true]
        have w1 : IntKind.i64.wrap 1 = 1 := wrap64 (by omega) (by omega)
        simpa [w1] using step
      · have hq : pre = pre' ++ [q] := by rw [hq]; simp
        have hgp : pre.getLast? = some q := by rw [hq]; simp
        have hqi : r[pre'.length]? = some q := by rw [hc, hq]; simp
        have hpl : (pre.length : Int) = (pre'.length : Int) + 1 := by rw [hq]; simp
        have iq : ∀ k : Go.AM.K β, iaK 1 (.lst 1 b (r.map encI)) (I pre'.length) k = k (.ep (encI q) 0) := fun k => iaK_at pre'.length rfl hqi k
        rw [hgp]
        have h0 : (0 : Int) < pre.length := by omega
        have w2 : IntKind.i64.wrap ((pre.length : Int) - 1) = (pre'.length : Int) := by rw [wrap64 (by omega) (by omega)]; omega
        simp only [f_receipt_Returns_b7, arithK_lss, arithK_gtr, hlt, h0, decide_true, condK_bool, if_true, grpK_tt, ic, ldc, arithK_sub, w2, iq, arithK_leq]
        by_cases ho : c ≤ q
        · have : ¬ q < c := by omega
          simp [ho, this]
        · have : q < c := by omega
          simp only [ho, this, decide_true, decide_false, Bool.false_eq_true, if_false, Bool.true_and, arithK_add, hw, step]
end
structure Two (h : Hp) (v : AV) (A : List Gd) (w : AV) (B : List Gd) : Prop where
  g1 : Gro 3 encG h v A
  g2 : Gro 3 encG h w B
  ne : ∀ k, idOf v = some k → idOf w ≠ some k
theorem Two.app {h : Hp} {v w : AV} {A B : List Gd} (W : Two h v A w B) (x : List AObj) : Two (h ++ x) v A w B := ⟨W.g1.app x, W.g2.app x, W.ne⟩
theorem Two.swap {h : Hp} {v w : AV} {A B : List Gd} (W : Two h v A w B) : Two h w B v A := ⟨W.g2, W.g1, fun k h1 h2 => W.ne k h2 h1⟩
theorem Two.snoc {h : Hp} {v w : AV} {A B : List Gd} (β : Type) (W : Two h v A w B) {m : Nat} {z : Gd} {b : Bool} (hm : h[m]? = some (.arr 3 [encG z] true false)) (hv : idOf v ≠ some m) (hl : A.length < 1000000) :
    ∃ v' h', (∀ k : AV → Hp → Option β, effK (appE 3 24 v (.sl 3 m 0 1 1 b) h h.length) h k = k v' h') ∧ Two h' v' (A ++ [z]) w B := by
  obtain ⟨v', h3, k1, k2, k3, k4, k5⟩ := W.g1.snoc β (by_ := 24) (m := m) (z := z) (b := b) hm hv (by intro y _; rfl) (by omega)
  refine ⟨v', h3, k1, k2, W.g2.keep fun k o hk ho => k4 k o ho fun e => W.ne k e hk, fun k e1 e2 => ?_⟩
  rcases k5 with k5 | k5
  · exact W.ne k (k5 ▸ e1) e2
  · rw [k5] at e1
    cases e1
    have := W.g2.lt e2
    omega
theorem backS_snoc (l : List Ln) (r : List Int) (x : Ln) : backS (l ++ [x]) r = backS l r ++ (if (x.got != 0 && r.contains x.id) = true then [goodLn x] else []) := by
  unfold backS
  rw [List.filter_append, List.map_append]
  congr 1
  cases hb : (x.got != 0 && r.contains x.id)
  · rw [List.filter_cons_of_neg (by simp only [hb]; simp)]; rfl
  · rw [List.filter_cons_of_pos (by simp only [hb])]; rfl
theorem keptS_snoc (l : List Ln) (r : List Int) (x : Ln) : keptS (l ++ [x]) r = keptS l r ++ (if (x.got != 0 && !r.contains x.id) = true then [goodLn x] else []) := by
  unfold keptS
  rw [List.filter_append, List.map_append]
  congr 1
  cases hb : (x.got != 0 && !r.contains x.id)
  · rw [List.filter_cons_of_neg (by simp only [hb]; simp)]; rfl
  · rw [List.filter_cons_of_pos (by simp only [hb])]; rfl
theorem back_len (l : List Ln) (r : List Int) : (backS l r).length ≤ l.length := by unfold backS; rw [List.length_map]; exact List.length_filter_le _ _
theorem kept_len (l : List Ln) (r : List Int) : (keptS l r).length ≤ l.length := by unfold keptS; rw [List.length_map]; exact List.length_filter_le _ _
theorem Returns_L3 {β : Type} {D : DTab} {N : Nat} {x2 : AV → AV → Hp → Option β} (l : List Ln) (r : List Int) (b b2 : Bool) (hl : l.length < 1000) (hr : r.length < 1000) :
    ∀ (n : Nat) (pre post : List Ln) (v9 v10 : AV) (h : Hp), l = pre ++ post → post.length < n → Two h v9 (backS pre r) v10 (keptS pre r) →
    ∃ v9' v10' h', f_receipt_Returns_L3 Try.prog t_receipt_Returns D N x2 n (.lst 1 b2 (r.map encI)) v9 v10 (.lst 8 b (l.map encLn)) (I l.length) (I pre.length) h = x2 v9' v10' h' ∧ Two h' v9' (backS l r) v10' (keptS l r) := by
  intro n
  induction n with
  | zero => intro pre post v9 v10 h _ h2; omega
  | succ n ih =>
    intro pre post v9 v10 h hc hn W
    show ∃ v9' v10' h', f_receipt_Returns_b3 Try.prog t_receipt_Returns D N (f_receipt_Returns_L3 Try.prog t_receipt_Returns D N x2 n) x2 _ _ _ _ _ _ h = _ ∧ _
    cases post with
    | nil =>
      have : l = pre := by simpa using hc
      subst this
      exact ⟨v9, v10, h, by simp [f_receipt_Returns_b3], W⟩
    | cons c post =>
      have hi : pre.length < l.length := by rw [hc]; simp
      have hci : l[pre.length]? = some c := by rw [hc]; simp
      have hlt : ((pre.length : Int) < (l.length : Int)) := by omega
      have hw : IntKind.i64.wrap ((pre.length : Int) + 1) = (((pre ++ [c]).length : Nat) : Int) := by rw [wrap64 (by omega) (by omega)]; simp
      have ic : ∀ k : Go.AM.K β, iaK 8 (.lst 8 b (l.map encLn)) (I pre.length) k = k (.ep (encLn c) 0) := fun k => iaK_at pre.length rfl hci k
      have step := fun v9 v10 h => ih (pre ++ [c]) post v9 v10 h (by simpa using hc) (by simpa using hn)
      have fc := F_slices_Contains_int_val r b2 c.id (by omega) (fun x y h k => by simp)
      have hbl := back_len pre r
      have hkl := kept_len pre r
      have hpl : pre.length ≤ l.length := by omega
      rw [backS_snoc, keptS_snoc] at step
      have hge : encG (goodLn c) = [I c.id, I c.cls, I c.got] := rfl
      dsimp only at fc
      generalize goodLn c = g at *
      obtain ⟨i, cl, s, gt, ⟨e, o, d, u⟩⟩ := c
      dsimp only at *
      simp only [encLn] at ic
      simp only [f_receipt_Returns_b3, arithK_lss, hlt, decide_true, condK_bool, if_true, ic]
      clear hc ih hci
      generalize l.map encLn = L at *
      generalize r.map encI = R at *
      by_cases hz : gt = 0
      · subst hz
        obtain ⟨a1, a2, a3, a4, a5⟩ := step v9 v10 (h ++ [.arr 8 [[I i, I cl, I s, I 0, I e, I o, I d, I u]] true false, .arr 3 [[I i, I cl, I 0]] true false]) (by simpa using W.app _)
        refine ⟨a1, a2, a3, ?_, a5⟩
        rw [← a4]
        simp [boxE, stE, ap, buildK, fillA, f_receipt_Returns_j6, f_receipt_Returns_j5, f_receipt_Returns_j4, hw]
      · have hz' : (gt == 0) = false := by simpa using hz
        have hz2 : (gt != 0) = true := by simpa using hz
        cases hrc : r.contains i with
        | true =>
          have hm : i ∈ r := by simpa using hrc
          rw [hrc] at fc
          obtain ⟨v', h3, k1, k2⟩ := (W.app [.arr 8 [[I i, I cl, I s, I gt, I e, I o, I d, I u]] true false, .arr 3 [[I i, I cl, I gt]] true false, .arr 3 [[I i, I cl, I gt]] true false]).snoc β (m := h.length + 2) (z := g) (b := true) (by rw [hge]; simp) (fun e => by have := W.g1.lt e; omega) (by omega)
          obtain ⟨a1, a2, a3, a4, a5⟩ := step v' v10 h3 (by simpa [hz2, hm] using k2)
          refine ⟨a1, a2, a3, ?_, a5⟩
          rw [← a4]
          simp at k1
          simp [boxE, stE, ap, buildK, fillA, hz', fc, bsE, fillS, f_receipt_Returns_j6, f_receipt_Returns_j5, f_receipt_Returns_j4, hw, k1]
        | false =>
          have hm : i ∉ r := by simpa using hrc
          rw [hrc] at fc
          obtain ⟨v', h3, k1, k2⟩ := (W.swap.app [.arr 8 [[I i, I cl, I s, I gt, I e, I o, I d, I u]] true false, .arr 3 [[I i, I cl, I gt]] true false, .arr 3 [[I i, I cl, I gt]] true false]).snoc β (m := h.length + 2) (z := g) (b := true) (by rw [hge]; simp) (fun e => by have := W.g2.lt e; omega) (by omega)
          obtain ⟨a1, a2, a3, a4, a5⟩ := step v9 v' h3 (by simpa [hz2, hm] using k2.swap)
          refine ⟨a1, a2, a3, ?_, a5⟩
          rw [← a4]
          simp at k1
          simp [boxE, stE, ap, buildK, fillA, hz', fc, bsE, fillS, f_receipt_Returns_j6, f_receipt_Returns_j5, f_receipt_Returns_j4, hw, k1]
theorem lines_sorted {l : List Ln} (h : linesS l = true) : sLn l ∧ (∀ x ∈ l, okLn x = true) ∧ l.length ≤ 64 := by
  unfold linesS at h
  rw [Bool.and_eq_true, decide_eq_true_eq] at h
  cases hc : checkG (fun x => !okLn x) ltLn none l 0 with
  | none =>
    have := checkG_none (fun a b c p q => by simp [ltLn] at *; omega) l none 0 hc
    exact ⟨this.2.1.imp fun h => by simpa [ltLn] using h, fun x hx => by simpa using this.1 x hx, h.2⟩
  | some x => rw [hc] at h; simp at h
theorem idx_neg (l : List Ln) (id : Int) : decide (idxLn l id < 0) = !hasId l id := by
  unfold idxLn hasId
  have : (l.any fun x => x.id == id) = (l.findIdx? fun x => x.id == id).isSome := by rw [List.findIdx?_isSome]
  rw [this]
  cases l.findIdx? (fun x => x.id == id) <;> simp
theorem sorted_inj {l : List Ln} (h : sLn l) : ∀ {i j : Nat} {x y : Ln}, l[i]? = some x → l[j]? = some y → x.id = y.id → i = j := by
  intro i j x y hx hy e
  have key : ∀ {i j : Nat} {x y : Ln}, l[i]? = some x → l[j]? = some y → i < j → x.id < y.id := by
    intro i j x y hx hy hij
    obtain ⟨h1, rfl⟩ := List.getElem?_eq_some_iff.1 hx
    obtain ⟨h2, rfl⟩ := List.getElem?_eq_some_iff.1 hy
    exact List.pairwise_iff_getElem.1 h i j h1 h2 hij
  rcases Nat.lt_trichotomy i j with q | q | q
  · have := key hx hy q; omega
  · exact q
  · have := key hy hx q; omega
theorem idx_some {l : List Ln} (hs : sLn l) {id : Int} (h : hasId l id = true) : ∃ (j : Nat) (x : Ln), idxLn l id = (j : Int) ∧ l[j]? = some x ∧ (x.got == 0) = !hasGot l id := by
  unfold idxLn
  unfold hasId at h
  rw [← List.findIdx?_isSome] at h
  cases hf : l.findIdx? (fun x => x.id == id) with
  | none => rw [hf] at h; simp at h
  | some j =>
    obtain ⟨h1, h2, h3⟩ := List.findIdx?_eq_some_iff_getElem.1 hf
    have hj : l[j]? = some l[j] := List.getElem?_eq_getElem h1
    refine ⟨j, l[j], rfl, hj, ?_⟩
    rw [Bool.eq_iff_iff]
    simp only [beq_iff_eq] at h2
    simp only [beq_iff_eq, Bool.not_eq_true', hasGot, List.any_eq_false, Bool.and_eq_true, bne_iff_ne, ne_eq, not_and, Decidable.not_not]
    constructor
    · intro e x hx hxi
      obtain ⟨k, hk, rfl⟩ := List.getElem_of_mem hx
      have := sorted_inj hs hj (List.getElem?_eq_getElem hk) (by rw [h2, hxi])
      subst this
      exact e
    · intro q
      exact q _ (List.getElem_mem h1) h2
theorem F_receipt_Returns_val (l : List Ln) (r : List Int) (b b2 : Bool) (hl : l.length < 1000) (hr : r.length < 1000) (h : Hp) :
    F_receipt_Returns [.lst 8 b (l.map encLn), .lst 1 b2 (r.map encI)] h = some (.tup [.lst 3 (retS l r).1.1.isEmpty ((retS l r).1.1.map encG), .lst 3 (retS l r).1.2.isEmpty ((retS l r).1.2.map encG), I (retS l r).2], h) := by
  have base : ∀ w v, f_receipt_Returns Try.prog t_receipt_Returns d_receipt_Returns NN (fun v g => cvt false g v) (.lst 8 b (l.map encLn)) (.lst 1 b2 (r.map encI)) [] = some w → nrmR [.l 3, .l 3, .o] w = v → F_receipt_Returns [.lst 8 b (l.map encLn), .lst 1 b2 (r.map encI)] h = some (v, h) := fun w v e1 e2 => by
    rw [← e2]
    exact F_receipt_Returns_run (a0 := .lst 8 b (l.map encLn)) (a1 := .lst 1 b2 (r.map encI)) rfl e1 h
  have fl := F_receipt_lines_val l b (by omega)
  have lnr : ∀ k : Go.AM.K AV, lenK (.lst 1 b2 (r.map encI)) k = k (I r.length) := fun k => by simp
  unfold retS
  cases hA : linesS l with
  | false =>
    rw [hA] at fl
    refine base (.tup [nilS, nilS, I 1]) _ ?_ rfl
    generalize l.map encLn = L at *
    generalize r.map encI = R at *
    simp [f_receipt_Returns, boxE, fl]
  | true =>
    rw [hA] at fl
    rw [if_neg (by simp)]
    obtain ⟨hs, -, hl64⟩ := lines_sorted hA
    have L7 := Returns_L7 (T := t_receipt_Returns) (D := d_receipt_Returns) (N := NN) (x0 := fun w67_1 w67_2 h => f_receipt_Returns_j1 Try.prog t_receipt_Returns d_receipt_Returns NN (fun v g => cvt false g v) w67_1 w67_2 h) (xr := fun w68_4 w68_5 w68_6 h => cvt false h (.tup [w68_4, w68_5, w68_6])) (v2 := .ptr 0 0 0 1) r b2 (by omega) [.arr 1 [[.lst 8 b (l.map encLn)]] true false] NN [] r rfl (by have := NN_ge; omega)
    have red : f_receipt_Returns Try.prog t_receipt_Returns d_receipt_Returns NN (fun v g => cvt false g v) (.lst 8 b (l.map encLn)) (.lst 1 b2 (r.map encI)) [] = if ascI none r = true then f_receipt_Returns_j1 Try.prog t_receipt_Returns d_receipt_Returns NN (fun v g => cvt false g v) (.lst 1 b2 (r.map encI)) (.ptr 0 0 0 1) [.arr 1 [[.lst 8 b (l.map encLn)]] true false] else cvt false [.arr 1 [[.lst 8 b (l.map encLn)]] true false] (.tup [nilS, nilS, I 5]) := by
      rw [← List.getLast?_nil (α := Int), ← L7]
      clear L7 base
      generalize l.map encLn = L at *
      generalize r.map encI = R at *
      simp [f_receipt_Returns, boxE, fl, lnr]
    cases hB : ascI none r with
    | false =>
      rw [hB, if_neg (by simp)] at red
      exact base (.tup [nilS, nilS, I 5]) _ (red.trans (by simp)) rfl
    | true =>
      rw [hB, if_pos rfl] at red
      rw [if_neg (by simp)]
      obtain ⟨H, hH⟩ : ∃ H : Hp, H = [.arr 1 [[.lst 8 b (l.map encLn)]] true false, .arr 1 [[.fn 53 [.ptr 0 0 0 1]]] true false] := ⟨_, rfl⟩
      have g0 : H[0]? = some (.arr 1 [[.lst 8 b (l.map encLn)]] true false) := by rw [hH]; rfl
      have g1 : H[1]? = some (.arr 1 [[.fn 53 [.ptr 0 0 0 1]]] true false) := by rw [hH]; rfl
      have c1 := F_ContainsFunc_x2_val r b2 hr (.fn 56 [.ptr 1 0 0 1]) (fun x => !hasId l x) H (fun x _ k => by
        have := F_Returns_2_val l b (by omega) x 0 1 H g0 g1
        rw [idx_neg] at this
        simp [this])
      have e1 : (r.any fun x => !hasId l x) = !r.all (hasId l) := by rw [List.all_eq_not_any_not]; simp
      rw [e1] at c1
      cases hC : r.all (hasId l) with
      | false =>
        rw [hC] at c1
        rw [if_pos rfl]
        refine base (.tup [nilS, nilS, I 7]) _ (red.trans ?_) rfl
        subst hH
        clear g0 g1 L7 red base
        generalize l.map encLn = L at *
        generalize r.map encI = R at *
        simp [f_receipt_Returns_j1, boxE, stE, ap, c1]
      | true =>
        rw [hC] at c1
        rw [if_neg (by simp)]
        have c2 := F_ContainsFunc_x2_val r b2 hr (.fn 57 [.ptr 0 0 0 1, .ptr 1 0 0 1]) (fun x => !hasGot l x) H (fun x hx k => by
          obtain ⟨j, y, q1, q2, q3⟩ := idx_some hs (List.all_eq_true.1 hC x hx)
          have := F_Returns_3_val l b (by omega) x 0 1 H g0 g1 q1 q2
          rw [q3] at this
          simp [this])
        have e2 : (r.any fun x => !hasGot l x) = !r.all (hasGot l) := by rw [List.all_eq_not_any_not]; simp
        rw [e2] at c2
        cases hD : r.all (hasGot l) with
        | false =>
          rw [hD] at c2
          rw [if_pos rfl]
          refine base (.tup [nilS, nilS, I 9]) _ (red.trans ?_) rfl
          subst hH
          clear g0 g1 L7 red base
          generalize l.map encLn = L at *
          generalize r.map encI = R at *
          simp [f_receipt_Returns_j1, boxE, stE, ap, c1, c2]
        | true =>
          rw [hD] at c2
          rw [if_neg (by simp)]
          obtain ⟨v9, v10, h', k1, W⟩ := Returns_L3 (D := d_receipt_Returns) (N := NN) (x2 := fun w54_9 w54_10 h => f_receipt_Returns_j2 Try.prog t_receipt_Returns d_receipt_Returns NN (fun v g => cvt false g v) w54_9 w54_10 h) l r b b2 hl hr NN [] l nilS nilS H rfl (by have := NN_ge; omega) ⟨.nil, .nil, fun k e => by simp at e⟩
          obtain ⟨w1, p1, p2⟩ := W.g1.cvts (fun x st => by cases st <;> simp [encG, isS])
          obtain ⟨w2, p3, p4⟩ := W.g2.cvts (fun x st => by cases st <;> simp [encG, isS])
          refine base (.tup [w1, w2, I 0]) _ (red.trans ?_) (by
            show AV.tup [nrm (.l 3) w1, nrm (.l 3) w2, I 0] = _
            rw [p2, p4])
          have : f_receipt_Returns_j2 Try.prog t_receipt_Returns d_receipt_Returns NN (fun v g => cvt false g v) v9 v10 h' = some (.tup [w1, w2, I 0]) := by
            simp [f_receipt_Returns_j2, p1, p3]
          rw [this] at k1
          rw [← k1]
          have lnl : ∀ k : Go.AM.K AV, lenK (.lst 8 b (l.map encLn)) k = k (I l.length) := fun k => by simp
          subst hH
          clear g0 g1 L7 red base k1 W this
          generalize l.map encLn = L at *
          generalize r.map encI = R at *
          simp [f_receipt_Returns_j1, boxE, stE, ap, c1, c2, lnl]
end Go.AM


namespace Go.AM
open Go.Proofs
set_option linter.unusedVariables false
set_option linter.unusedSimpArgs false
set_option linter.constructorNameAsVariable false
set_option maxRecDepth 20000
def wLn (x : Int) : Ln := ⟨x, 0, 0, 0, zeroO⟩
theorem sorted_int {l m : List Int} (hl : l.Pairwise (· < ·)) (hm : m.Pairwise (· < ·)) (h : ∀ x, x ∈ l ↔ x ∈ m) : l = m := by
  have e : l.map wLn = m.map wLn := by
    refine sorted_ext ?_ ?_ fun x => ?_
    · show List.Pairwise _ _; rw [List.pairwise_map]; exact hl
    · show List.Pairwise _ _; rw [List.pairwise_map]; exact hm
    · simp only [List.mem_map, h]
  have := congrArg (List.map Ln.id) e
  rw [List.map_map, List.map_map] at this
  have i : (Ln.id ∘ wLn) = id := rfl
  rw [i, List.map_id, List.map_id] at this
  exact this
theorem ascI_sorted : ∀ (r : List Int) (p : Option Int), ascI p r = true → r.Pairwise (· < ·) ∧ (∀ q, p = some q → ∀ x ∈ r, q < x)
  | [], p, _ => ⟨List.Pairwise.nil, fun _ _ x hx => by simp at hx⟩
  | x :: r, p, h => by
    rw [ascI_cons, Bool.and_eq_true] at h
    obtain ⟨i1, i2⟩ := ascI_sorted r (some x) h.2
    refine ⟨List.pairwise_cons.2 ⟨fun y hy => i2 x rfl y hy, i1⟩, fun q hq y hy => ?_⟩
    subst hq
    have hqx : q < x := by simpa using h.1
    rcases List.mem_cons.1 hy with rfl | hy
    · exact hqx
    · have := i2 x rfl y hy; omega
theorem count_eq {L : List Ln} (hs : sLn L) {r : List Int} (hr : r.Pairwise (· < ·)) (q : Ln → Bool) : (L.filter fun x => q x && r.contains x.id).length = (r.filter fun i => L.any fun x => x.id == i && q x).length := by
  have e : (L.filter fun x => q x && r.contains x.id).map Ln.id = r.filter fun i => L.any fun x => x.id == i && q x := by
    refine sorted_int ?_ (hr.filter _) fun i => ?_
    · rw [List.pairwise_map]; exact hs.filter _
    · simp only [List.mem_map, List.mem_filter, List.any_eq_true, Bool.and_eq_true, beq_iff_eq, List.contains_iff_mem]
      constructor
      · rintro ⟨x, ⟨h1, h2, h3⟩, rfl⟩
        exact ⟨h3, x, h1, rfl, h2⟩
      · rintro ⟨h1, x, h2, rfl, h3⟩
        exact ⟨x, ⟨h2, h3, h1⟩, rfl⟩
  have := congrArg List.length e
  rwa [List.length_map] at this
theorem all_len {r : List Int} {p : Int → Bool} : (r.filter p).length = r.length ↔ r.all p = true := by
  rw [List.length_filter_eq_length_iff, List.all_eq_true]
theorem back_count {L : List Ln} (hs : sLn L) {r : List Int} (hr : r.Pairwise (· < ·)) : (backS L r).length = (r.filter (hasGot L)).length := by
  unfold backS
  rw [List.length_map, count_eq hs hr fun x => x.got != 0]
  rfl
theorem checkG_of {α : Type} {bad : α → Bool} {bef : α → α → Bool} : ∀ (l : List α) (prev : Option α) (i : Int), (∀ x ∈ l, bad x = false) → l.Pairwise (fun a b => bef a b = true) → (∀ q, prev = some q → ∀ x ∈ l, bef q x = true) → checkG bad bef prev l i = none
  | [], _, _, _, _, _ => rfl
  | x :: l, prev, i, h1, h2, h3 => by
    obtain ⟨a1, a2⟩ := List.pairwise_cons.1 h2
    rw [checkG, h1 x (by simp), if_neg (by simp)]
    have : notBehind bef prev x = false := by
      cases prev with
      | none => rfl
      | some q => simp [h3 q rfl x (by simp)]
    rw [this, if_neg (by simp)]
    exact checkG_of l (some x) (i + 1) (fun y hy => h1 y (by simp [hy])) a2 fun q hq y hy => by cases hq; exact a1 y hy
theorem check_of {l : List Gd} (h1 : l.length ≤ 64) (h2 : ∀ x ∈ l, badG x = false) (h3 : l.Pairwise fun a b => ltG a b = true) : checkD l = (-1, 0) := by
  unfold checkD
  rw [if_neg (by omega), checkG_of l none 0 h2 h3 fun q hq => by cases hq]
  rfl
theorem check_filter {l : List Gd} (h : rightG l = true) (p : Gd → Bool) : checkD (l.filter p) = (-1, 0) := by
  obtain ⟨h1, h2, h3⟩ := rightG_spec h
  have := List.length_filter_le p l
  exact check_of (by omega) (fun x hx => h2 x (List.mem_filter.1 hx).1) (h3.filter _)
theorem merge_got (s t : List Gd) (ht : ∀ g ∈ t, g.alc ≠ 0) : ((mergeG s t).filter fun p => p.2.alc != 0).map (·.2) = t := by
  have z : (zG.alc != 0) = false := rfl
  fun_induction mergeG s t with
  | case1 => rfl
  | case2 a s ih => rw [List.filter_cons_of_neg (by simp [z])]; exact ih ht
  | case3 b t ih =>
    have hb := ht b (by simp)
    rw [List.filter_cons_of_pos (by simpa using hb), List.map_cons, ih fun g hg => ht g (by simp [hg])]
  | case4 a s b t he ih =>
    have hb := ht b (by simp)
    rw [List.filter_cons_of_pos (by simpa using hb), List.map_cons, ih fun g hg => ht g (by simp [hg])]
  | case5 a s b t he hlt ih => rw [List.filter_cons_of_neg (by simp [z])]; exact ih ht
  | case6 a s b t he hlt ih =>
    have hb := ht b (by simp)
    rw [List.filter_cons_of_pos (by simpa using hb), List.map_cons, ih fun g hg => ht g (by simp [hg])]
theorem good_line {s t : List Gd} {tol : List Int} (hs : rightG s = true) (ht : rightG t = true) (hc : (mergeG s t).any clashG = false) {p : Gd × Gd} (hp : p ∈ mergeG s t) (hz : p.2.alc ≠ 0) : goodLn (lineG tol p) = p.2 := by
  obtain ⟨z1, z2, z3⟩ := zG_z
  have hcl : clashG p = false := by simpa using List.any_eq_false.1 hc p hp
  unfold goodLn lineG
  dsimp only
  rcases merge_pair hs ht hp with ⟨a1, a2, a3⟩ | ⟨a1, a2, a3 | ⟨a3, a4, a5⟩⟩
  · have := badG_bd a3
    have e1 : max p.1.id p.2.id = p.2.id := by rw [a1, z1]; omega
    have e2 : max p.1.cls p.2.cls = p.2.cls := by rw [a1, z2]; omega
    rw [e1, e2]
  · rw [a3] at hz; exact absurd z3 hz
  · have b1 := badG_bd a2
    have b2 := badG_bd a4
    have hcc : p.1.cls = p.2.cls := by
      simp only [clashG, Bool.and_eq_false_iff, decide_eq_false_iff_not, bne_eq_false_iff_eq] at hcl
      rcases hcl with q | q | q
      · omega
      · omega
      · exact q
    have e1 : max p.1.id p.2.id = p.2.id := by rw [a5]; omega
    have e2 : max p.1.cls p.2.cls = p.2.cls := by rw [hcc]; omega
    rw [e1, e2]
theorem split_gen {s t : List Gd} {tol : List Int} (hs : rightG s = true) (ht : rightG t = true) (hc : (mergeG s t).any clashG = false) (Q : Int → Bool) :
    (((mergeG s t).map (lineG tol)).filter fun x => x.got != 0 && Q x.id).map goodLn = t.filter fun g => Q g.id := by
  have ht0 : ∀ g ∈ t, g.alc ≠ 0 := fun g hg => by have := badG_bd ((rightG_spec ht).2.1 g hg); omega
  conv => rhs; rw [← merge_got s t ht0]
  rw [List.filter_map, List.map_map, List.filter_map, List.filter_filter]
  have key : ∀ M : List (Gd × Gd), (∀ p ∈ M, p ∈ mergeG s t) → List.map (goodLn ∘ lineG tol) (M.filter ((fun x => x.got != 0 && Q x.id) ∘ lineG tol)) = List.map (fun x => x.2) (M.filter fun a => ((fun g : Gd => Q g.id) ∘ fun x : Gd × Gd => x.2) a && (a.2.alc != 0)) := by
    intro M
    induction M with
    | nil => intro _; rfl
    | cons p M ih =>
      intro hM
      have hi := ih fun q hq => hM q (by simp [hq])
      by_cases hz : p.2.alc = 0
      · have a : (((fun x => x.got != 0 && Q x.id) ∘ lineG tol) p) = false := by simp [lineG, hz]
        have b : (((fun g : Gd => Q g.id) ∘ fun x : Gd × Gd => x.2) p && (p.2.alc != 0)) = false := by simp [hz]
        rw [List.filter_cons_of_neg (by rw [a]; simp), List.filter_cons_of_neg (by rw [b]; simp), hi]
      · have g := good_line (tol := tol) hs ht hc (hM p (by simp)) hz
        have gi : (lineG tol p).id = p.2.id := by rw [← g]; rfl
        have a : (((fun x => x.got != 0 && Q x.id) ∘ lineG tol) p) = Q p.2.id := by
          show ((lineG tol p).got != 0 && Q (lineG tol p).id) = _
          rw [gi]
          have : ((lineG tol p).got != 0) = true := by simpa [lineG] using hz
          rw [this]; rfl
        have b : (((fun g : Gd => Q g.id) ∘ fun x : Gd × Gd => x.2) p && (p.2.alc != 0)) = Q p.2.id := by simp [hz]
        cases hq : Q p.2.id with
        | true =>
          rw [List.filter_cons_of_pos (by rw [a]; exact hq), List.filter_cons_of_pos (by rw [b]; exact hq), List.map_cons, List.map_cons, hi]
          show goodLn (lineG tol p) :: _ = _
          rw [g]
        | false => rw [List.filter_cons_of_neg (by rw [a, hq]; simp), List.filter_cons_of_neg (by rw [b, hq]; simp), hi]
  exact key _ fun p hp => hp
theorem back_eq {s t : List Gd} {tol : List Int} (hs : rightG s = true) (ht : rightG t = true) (hc : (mergeG s t).any clashG = false) (r : List Int) : backS ((mergeG s t).map (lineG tol)) r = t.filter fun g => r.contains g.id := split_gen hs ht hc fun i => r.contains i
theorem kept_eq {s t : List Gd} {tol : List Int} (hs : rightG s = true) (ht : rightG t = true) (hc : (mergeG s t).any clashG = false) (r : List Int) : keptS ((mergeG s t).map (lineG tol)) r = t.filter fun g => !r.contains g.id := split_gen hs ht hc fun i => !r.contains i
theorem ret_ok {L : List Ln} {r : List Int} (h : (retS L r).2 = 0) : linesS L = true ∧ ascI none r = true ∧ r.all (hasId L) = true ∧ r.all (hasGot L) = true ∧ (retS L r).1 = (backS L r, keptS L r) := by
  unfold retS at h ⊢
  split at h
  · simp at h
  · rename_i h1
    split at h
    · simp at h
    · rename_i h2
      split at h
      · simp at h
      · rename_i h3
        split at h
        · simp at h
        · rename_i h4
          rw [if_neg h1, if_neg h2, if_neg h3, if_neg h4]
          exact ⟨by simpa using h1, by simpa using h2, by simpa using h3, by simpa using h4, rfl⟩
theorem ret_err {L : List Ln} {r : List Int} (h : (retS L r).2 ≠ 0) : (retS L r).1 = ([], []) := by
  unfold retS at h ⊢
  split
  · rfl
  · rename_i h1
    split
    · rfl
    · rename_i h2
      split
      · rfl
      · rename_i h3
        split
        · rfl
        · rename_i h4
          rw [if_neg h1, if_neg h2, if_neg h3, if_neg h4] at h
          simp at h
section
variable {β : Type}
theorem eq_Gd (x y : Gd) (neq : Bool) (h : Hp) (k : Go.AM.K β) : eqK Try.prog neq 35 (.agg (encG x)) (.agg (encG y)) h k = k (B (xor neq (x == y))) := by
  obtain ⟨a, b, c⟩ := x
  obtain ⟨d, e, f⟩ := y
  have q : ((⟨a, b, c⟩ : Gd) == ⟨d, e, f⟩) = (a == d && (b == e && c == f)) := by rw [Bool.eq_iff_iff]; simp
  rw [q]
  simp [encG]
theorem Index_Good_L2 {T : Tab} {D : DTab} {N : Nat} {x0 : Hp → Option β} {xr : AV → Hp → Option β} {l : List Gd} {b : Bool} {v : Gd} {h : Hp} {m : Nat} (hm : h[m]? = some (.arr 3 [encG v] true false)) (hl : l.length < 4611686018427387904) (heq : ∀ (x y : Gd) (h : Hp) (k : Go.AM.K β), eqK Try.prog false 35 (.agg (encG x)) (.agg (encG y)) h k = k (B (x == y))) :
    ∀ (n i : Nat), i ≤ l.length → l.length < i + n → f_slices_Index_Good_L2 Try.prog T D N x0 xr n (.lst 3 b (l.map encG)) (.ptr m 0 0 1) (I l.length) (I i) h = match (l.drop i).findIdx? (fun y => v == y) with | some j => xr (I ((i + j : Nat) : Int)) h | none => x0 h := by
  intro n
  induction n with
  | zero => intro i h1 h2; omega
  | succ n ih =>
    intro i h1 h2
    show f_slices_Index_Good_b2 Try.prog T D N (f_slices_Index_Good_L2 Try.prog T D N x0 xr n) x0 xr _ _ _ _ h = _
    unfold f_slices_Index_Good_b2
    rcases Nat.lt_or_ge i l.length with hi | hi
    · have hx : l[i]? = some l[i] := List.getElem?_eq_getElem hi
      have hlt : ((i : Int) < (l.length : Int)) := by omega
      have hw : IntKind.i64.wrap ((i : Int) + 1) = ((i + 1 : Nat) : Int) := by rw [wrap64 (by omega) (by omega)]; omega
      have hpx := fun k => heq v l[i] h k
      have h3 := ih (i + 1) hi (by omega)
      have ic : ∀ k : Go.AM.K β, iaK 3 (.lst 3 b (l.map encG)) (I i) k = k (.ep (encG l[i]) 0) := fun k => iaK_at i rfl hx k
      have ld : ∀ k : Go.AM.K β, ldK 3 true (.ep (encG l[i]) 0) h k = k ((fun y => .agg (encG y)) l[i]) := fun k => by simp [encG]
      rw [List.drop_eq_getElem_cons hi, List.findIdx?_cons]
      have lv : ∀ k : Go.AM.K β, ldK 3 true (.ptr m 0 0 1) h k = k ((fun x => .agg (encG x)) v) := fun k => by simp [hm, encG]
      dsimp only at h3 ld lv ⊢
      simp only [arithK_lss, hlt, decide_true, condK_bool, if_true, ic, ld, lv, hpx]
      cases hc : (v == l[i]) with
      | true => simp
      | false =>
        simp only [Bool.false_eq_true, if_false, arithK_add, hw]
        refine h3.trans ?_
        cases (List.drop (i + 1) l).findIdx? (fun y => v == y) with
        | none => rfl
        | some j =>
          show xr (I ((i + 1 + j : Nat) : Int)) h = xr (I ((i + (j + 1) : Nat) : Int)) h
          rw [show i + 1 + j = i + (j + 1) by omega]
    · have : i = l.length := by omega
      subst this
      simp
theorem F_slices_Contains_Good_val (l : List Gd) (b : Bool) (v : Gd) (hl : l.length < 1000000) (heq : ∀ (x y : Gd) (h : Hp) (k : Go.AM.K AV), eqK Try.prog false 35 (.agg (encG x)) (.agg (encG y)) h k = k (B (x == y))) (h : Hp) : F_slices_Contains_Good [.lst 3 b (l.map encG), (fun x => .agg (encG x)) v] h = some (B (l.contains v), h) := by
  have e : ∀ h, F_slices_Index_Good [.lst 3 b (l.map encG), (fun x => .agg (encG x)) v] h = some (I (match l.findIdx? (fun y => v == y) with | some j => (j : Int) | none => -1), h) :=
    F_slices_Index_Good_run rfl (by
      have := Index_Good_L2 (l := l) (T := t_slices_Index_Good) (D := d_slices_Index_Good) (N := NN) (b := b) (v := v) (h := [.arr 3 [encG v] true false]) (m := 0) (x0 := fun h => f_slices_Index_Good_j1 Try.prog t_slices_Index_Good d_slices_Index_Good NN (fun v g => cvt false g v) h) (xr := fun a h => cvt false h a) rfl (by omega) heq NN 0 (Nat.zero_le _) (by have := NN_ge; omega)
      have bx : ∀ k : AV → Hp → Option AV, effK (boxE 3 ((fun x => .agg (encG x)) v) ([] : Hp).length) [] k = k (.ptr 0 0 0 1) [.arr 3 [encG v] true false] := fun k => by simp [boxE, encG]
      simp only [nrm, nrmC, f_slices_Index_Good, lenK_lst, List.length_map, bx]
      simp only [List.drop_zero] at this
      refine this.trans ?_
      cases l.findIdx? (fun y => v == y) with
      | none => rfl
      | some j => simp)
  have bx : ∀ k : AV → Hp → Option AV, effK (boxE 3 ((fun x => .agg (encG x)) v) ([] : Hp).length) [] k = k (.ptr 0 0 0 1) [.arr 3 [encG v] true false] := fun k => by simp [boxE, encG]
  have lv : ∀ k : Go.AM.K AV, ldK 3 true (.ptr 0 0 0 1) [.arr 3 [encG v] true false] k = k ((fun x => .agg (encG x)) v) := fun k => by simp [encG]
  refine F_slices_Contains_Good_run rfl ?_ h
  simp only [nrm, nrmC, f_slices_Contains_Good, bx, lv, t_slices_Contains_Good_58, callK_F, e]
  have : l.contains v = (l.findIdx? (fun y => v == y)).isSome := by rw [List.findIdx?_isSome, List.contains_eq_any_beq]
  rw [this]
  cases l.findIdx? (fun y => v == y) <;> simp
end
end Go.AM


namespace Go.AM
open Go.Proofs
set_option linter.unusedVariables false
set_option linter.unusedSimpArgs false
set_option linter.constructorNameAsVariable false
set_option maxRecDepth 20000
theorem Refuses_L2 {N : Nat} {x0 : Hp → Option AV} {xr : AV → Hp → Option AV} {X : Option AV} (hx : ∀ h, x0 h = X) (t A C : List Gd) (r : List Int) (bt ba bc br : Bool) (hl : t.length < 1000) (hA : A.length < 1000) (hC : C.length < 1000) (hr : r.length < 1000)
    (hg : ∀ g ∈ t, A.contains g = r.contains g.id ∧ C.contains g = !r.contains g.id) :
    ∀ (n : Nat) (pre post : List Gd) (h : Hp), t = pre ++ post → post.length < n →
    f_law44_ReceiptRefuses_L2 Try.prog t_law44_ReceiptRefuses d_law44_ReceiptRefuses N x0 xr n (.lst 1 br (r.map encI)) (.lst 3 ba (A.map encG)) (.lst 3 bc (C.map encG)) (.lst 3 bt (t.map encG)) (I t.length) (I pre.length) h = X := by
  intro n
  induction n with
  | zero => intro pre post h _ h2; omega
  | succ n ih =>
    intro pre post h hc hn
    show f_law44_ReceiptRefuses_b2 Try.prog t_law44_ReceiptRefuses d_law44_ReceiptRefuses N (f_law44_ReceiptRefuses_L2 Try.prog t_law44_ReceiptRefuses d_law44_ReceiptRefuses N x0 xr n) x0 xr _ _ _ _ _ _ h = _
    cases post with
    | nil =>
      have : t = pre := by simpa using hc
      subst this
      simp [f_law44_ReceiptRefuses_b2, hx]
    | cons c post =>
      have hi : pre.length < t.length := by rw [hc]; simp
      have hci : t[pre.length]? = some c := by rw [hc]; simp
      have hlt : ((pre.length : Int) < (t.length : Int)) := by omega
      have hw : IntKind.i64.wrap ((pre.length : Int) + 1) = (((pre ++ [c]).length : Nat) : Int) := by rw [wrap64 (by omega) (by omega)]; simp
      have ic : ∀ k : Go.AM.K AV, iaK 3 (.lst 3 bt (t.map encG)) (I pre.length) k = k (.ep (encG c) 0) := fun k => iaK_at pre.length rfl hci k
      have step := fun h => ih (pre ++ [c]) post h (by simpa using hc) (by simpa using hn)
      have f1 := F_slices_Contains_Good_val A ba c (by omega) (fun x y h k => by simpa using eq_Gd x y false h k)
      have f2 := F_slices_Contains_Good_val C bc c (by omega) (fun x y h k => by simpa using eq_Gd x y false h k)
      have f3 := F_slices_Contains_int_val r br c.id (by omega) (fun x y h k => by simp)
      obtain ⟨g1, g2⟩ := hg c (by rw [hc]; simp)
      rw [g1] at f1
      rw [g2] at f2
      dsimp only at f1 f2 f3
      have d1 : ∀ h base, G_slices_Contains_Good [.lst 3 ba (A.map encG), .agg (encG c)] h base = some (B (r.contains c.id), EF []) := fun h base => (closedXD_val (f1 h) base).trans (by simp [idss, ids, encG])
      have d2 : ∀ h base, G_slices_Contains_Good [.lst 3 bc (C.map encG), .agg (encG c)] h base = some (B (!r.contains c.id), EF []) := fun h base => (closedXD_val (f2 h) base).trans (by simp [idss, ids, encG])
      have d3 : ∀ h base, G_slices_Contains_int [.lst 1 br (r.map encI), I c.id] h base = some (B (r.contains c.id), EF []) := fun h base => (closedXD_val (f3 h) base).trans (by simp [idss, ids])
      simp only [f_law44_ReceiptRefuses_b2, arithK_lss, hlt, decide_true, condK_bool, if_true, ic]
      clear hc ih hci ic f1 f2 f3 g1 g2 hg
      obtain ⟨i, cl, a⟩ := c
      simp only [encG] at *
      generalize t.map encG = TT at *
      generalize A.map encG = AA at *
      generalize C.map encG = CC at *
      generalize hR : r.contains i = rc at *
      generalize r.map encI = RR at *
      cases rc <;> simp [boxE, stE, ap, d1, d2, d3, eqK_bool, disjAll, disj2, idsOf, wrOf, hw] at hw ⊢ <;> simpa [hw] using step _
set_option maxHeartbeats 4000000 in
theorem refuses_law (p : Prc) (r : List Int) (b : Bool) : F_law44_ReceiptRefuses [.agg (encPr p), SL 1 encI b r] [] = some (B true, []) := by
  refine F_law44_ReceiptRefuses_run (a0 := .agg (encPr p)) (a1 := SL 1 encI b r) (by simp [encPr]) ?_ []
  simp only [nrm, nrmC, SL]
  have l1 : ∀ k : Go.AM.K AV, lenK (.lst 3 (p.b1 && p.sent.isEmpty) (p.sent.map encG)) k = k (I p.sent.length) := fun k => by simp
  have l2 : ∀ k : Go.AM.K AV, lenK (.lst 3 (p.b2 && p.got.isEmpty) (p.got.map encG)) k = k (I p.got.length) := fun k => by simp
  have l3 : ∀ k : Go.AM.K AV, lenK (.lst 1 (p.b3 && p.tol.isEmpty) (p.tol.map encI)) k = k (I p.tol.length) := fun k => by simp
  have l4 : ∀ k : Go.AM.K AV, lenK (.lst 1 (b && r.isEmpty) (r.map encI)) k = k (I r.length) := fun k => by simp
  obtain ⟨e1, he1⟩ : ∃ e, decide ((12 : Int) < (p.sent.length : Int)) = e := ⟨_, rfl⟩
  obtain ⟨e2, he2⟩ : ∃ e, decide ((12 : Int) < (p.got.length : Int)) = e := ⟨_, rfl⟩
  obtain ⟨e3, he3⟩ : ∃ e, decide ((12 : Int) < (p.tol.length : Int)) = e := ⟨_, rfl⟩
  obtain ⟨e4, he4⟩ : ∃ e, decide ((30 : Int) < (r.length : Int)) = e := ⟨_, rfl⟩
  cases hq : (e1 || e2 || e3 || e4) with
  | true =>
    simp only [encPr, SL]
    generalize p.sent.map encG = S at *
    generalize p.got.map encG = G at *
    generalize p.tol.map encI = TT at *
    generalize r.map encI = MM at *
    cases e1 <;> cases e2 <;> cases e3 <;> cases e4 <;> simp at hq <;> simp [f_law44_ReceiptRefuses, F_law44_awake_val, boxE, l1, l2, l3, l4, he1, he2, he3, he4]
  | false =>
    simp only [Bool.or_eq_false_iff] at hq
    obtain ⟨⟨⟨rfl, rfl⟩, rfl⟩, rfl⟩ := hq
    have k1 : p.sent.length < 1000 := by simp at he1; omega
    have k2 : p.got.length < 1000 := by simp at he2; omega
    have k3 : p.tol.length < 1000 := by simp at he3; omega
    have k4 : r.length < 1000 := by simp at he4; omega
    have c1 := F_law44_compare_val p k1 k2 k3
    rw [show cmpP p = cmpS p.sent p.got p.tol from rfl] at c1
    have cln := cmpS_len p.sent p.got p.tol
    by_cases h0 : (cmpS p.sent p.got p.tol).2 = 0
    · obtain ⟨s1, s2, s3, s4, s5, s6⟩ := cmp_ok h0
      rw [h0] at c1
      have c2 := F_slices_Clone_Line_val (cmpS p.sent p.got p.tol).1 (cmpS p.sent p.got p.tol).1.isEmpty (by omega)
      rw [SL, Bool.and_self] at c2
      have c3 := F_slices_Clone_int_val r b (by omega)
      have c4 := F_receipt_Returns_val (cmpS p.sent p.got p.tol).1 r (cmpS p.sent p.got p.tol).1.isEmpty (b && r.isEmpty) (by omega) k4
      by_cases h1 : (retS (cmpS p.sent p.got p.tol).1 r).2 = 0
      · obtain ⟨r1, r2, r3, r4, r5⟩ := ret_ok h1
        rw [r5, h1] at c4
        have hasc := (ascI_sorted r none r2).1
        have hsl := (lines_sorted r1).1
        have hcnt := back_count hsl hasc
        rw [all_len.2 r4] at hcnt
        rw [s6] at c4 c2 hcnt c1
        rw [back_eq s1 s2 s4] at c4 hcnt
        rw [kept_eq s1 s2 s4] at c4
        have hA := List.length_filter_le (fun g : Gd => r.contains g.id) p.got
        have hC := List.length_filter_le (fun g : Gd => !r.contains g.id) p.got
        have hsum : (p.got.filter fun g : Gd => r.contains g.id).length + (p.got.filter fun g : Gd => !r.contains g.id).length = p.got.length := by
          have := List.length_eq_countP_add_countP (fun g : Gd => r.contains g.id) (l := p.got)
          rw [List.countP_eq_length_filter, List.countP_eq_length_filter] at this
          simp only [Bool.not_eq_true, Bool.decide_eq_false] at this
          omega
        have q1 := check_filter s2 fun g => r.contains g.id
        have q2 := check_filter s2 fun g => !r.contains g.id
        have hg : ∀ g ∈ p.got, (p.got.filter fun g : Gd => r.contains g.id).contains g = r.contains g.id ∧ (p.got.filter fun g : Gd => !r.contains g.id).contains g = !r.contains g.id := fun g hg => by
          constructor
          · rw [Bool.eq_iff_iff, List.contains_iff_mem, List.mem_filter]; simp [hg]
          · rw [Bool.eq_iff_iff, List.contains_iff_mem, List.mem_filter]; simp [hg]
        generalize (mergeG p.sent p.got).map (lineG p.tol) = LL at *
        generalize p.got.filter (fun g : Gd => r.contains g.id) = A at *
        generalize p.got.filter (fun g : Gd => !r.contains g.id) = C at *
        have v1 := F_slices_Clone_Good_val A A.isEmpty (by omega)
        have v2 := F_slices_Clone_Good_val C C.isEmpty (by omega)
        rw [SL, Bool.and_self] at v1 v2
        have v3 := F_receipt_Check_val A A.isEmpty (by omega)
        have v4 := F_receipt_Check_val C C.isEmpty (by omega)
        rw [q1] at v3
        rw [q2] at v4
        have L2 := fun h => Refuses_L2 (N := NN) (x0 := fun h => f_law44_ReceiptRefuses_j1 Try.prog t_law44_ReceiptRefuses d_law44_ReceiptRefuses NN (fun v g => cvt false g v) h) (xr := fun w133_4 h => cvt false h w133_4) (X := some (B true)) (fun h => rfl) p.got A C r (p.b2 && p.got.isEmpty) A.isEmpty C.isEmpty (b && r.isEmpty) k2 (by omega) (by omega) k4 hg NN [] p.got h rfl (by have := NN_ge; omega)
        have la : ∀ k : Go.AM.K AV, lenK (.lst 3 A.isEmpty (A.map encG)) k = k (I r.length) := fun k => by simp [hcnt]
        have lc : ∀ k : Go.AM.K AV, lenK (.lst 3 C.isEmpty (C.map encG)) k = k (I C.length) := fun k => by simp
        have w1 : IntKind.i64.wrap ((r.length : Int) + (C.length : Int)) = (p.got.length : Int) := by rw [wrap64 (by omega) (by omega)]; omega
        simp only [encPr, SL] at c1 c3 ⊢
        clear hg hcnt hsum hA hC q1 q2
        generalize LL.map encLn = LM at *
        generalize LL.isEmpty = z1 at *
        generalize p.sent.map encG = S at *
        generalize p.got.map encG = G at *
        generalize p.tol.map encI = TT at *
        generalize A.map encG = AA at *
        generalize C.map encG = CC at *
        generalize r.map encI = MM at *
        generalize A.isEmpty = za at *
        generalize C.isEmpty = zc at *
        simp (maxSteps := 10000000) only [f_law44_ReceiptRefuses]
        simp (maxSteps := 10000000) [F_law44_awake_val, boxE, l1, l2, l3, l4, he1, he2, he3, he4, c1, c2, c3, c4, v1, v2, v3, v4, w1, la, lc]
        exact L2 _
      · have e := ret_err h1
        have h1' : ((retS (cmpS p.sent p.got p.tol).1 r).2 == 0) = false := by simpa using h1
        rw [e] at c4
        generalize (retS (cmpS p.sent p.got p.tol).1 r).2 = er at *
        generalize (cmpS p.sent p.got p.tol).1 = LL at *
        clear h1
        simp only [encPr, SL, List.map_nil, List.isEmpty_nil] at c1 c3 c4 ⊢
        generalize LL.map encLn = LM at *
        generalize LL.isEmpty = z1 at *
        generalize p.sent.map encG = S at *
        generalize p.got.map encG = G at *
        generalize p.tol.map encI = TT at *
        generalize r.map encI = MM at *
        simp [f_law44_ReceiptRefuses, F_law44_awake_val, boxE, l1, l2, l3, l4, he1, he2, he3, he4, c1, c2, c3, c4, h1']
    · have ho := cmp_err h0
      have h0' : ((cmpS p.sent p.got p.tol).2 == 0) = false := by simpa using h0
      rw [ho] at c1
      clear ho h0 cln
      generalize (cmpS p.sent p.got p.tol).2 = er at *
      simp only [encPr, SL] at c1 ⊢
      generalize p.sent.map encG = S at *
      generalize p.got.map encG = G at *
      generalize p.tol.map encI = TT at *
      generalize r.map encI = MM at *
      simp [f_law44_ReceiptRefuses, F_law44_awake_val, boxE, l1, l2, l3, l4, he1, he2, he3, he4, c1, h0']
end Go.AM


import Derived.Test.YtlnjnfbdcdmacaaAmStep
namespace Go.AM
open Go.RowKit
set_option linter.unusedVariables false
set_option linter.unusedSimpArgs false
variable {P : Program} {μ μ' : Mu} {h h' : Hp} {w w' : World}
/-- Elements of n cells. -/
def Sized (n : Nat) (es : List (List AV)) : Prop := ∀ e ∈ es, e.length = n ∧ ∀ c ∈ e, okC c = true
theorem flat_length {n : Nat} : ∀ {es : List (List AV)}, Sized n es → es.flatten.length = es.length * n
  | [], _ => by simp
  | e :: es, hs => by
    have h1 := flat_length (es := es) (fun x hx => hs x (by simp [hx]))
    have h2 := (hs e (by simp)).1
    simp only [List.flatten_cons, List.length_append, h1, h2, List.length_cons, Nat.add_mul, Nat.one_mul]
    omega
theorem flat_get {n : Nat} : ∀ {es : List (List AV)} (_ : Sized n es) (i j : Nat) (e : List AV) (c : AV), es[i]? = some e → e[j]? = some c → es.flatten[i * n + j]? = some c
  | [], _, i, j, e, c, h1, _ => by simp at h1
  | x :: es, hs, 0, j, e, c, h1, h2 => by
    simp at h1; subst h1
    have := (List.getElem?_eq_some_iff.1 h2).1
    simp only [Nat.zero_mul, Nat.zero_add, List.flatten_cons]
    rw [List.getElem?_append_left this]; exact h2
  | x :: es, hs, i + 1, j, e, c, h1, h2 => by
    have hx := (hs x (by simp)).1
    have ih := flat_get (es := es) (fun y hy => hs y (by simp [hy])) i j e c (by simpa using h1) h2
    simp only [List.flatten_cons]
    rw [List.getElem?_append_right (by rw [hx, Nat.add_mul]; omega), hx, ← ih]
    congr 1
    rw [Nat.add_mul]
    omega
theorem flat_set {n : Nat} : ∀ {es : List (List AV)} (_ : Sized n es) (i : Nat) (e : List AV), i < es.length → (es.set i e).flatten = es.flatten.take (i * n) ++ e ++ es.flatten.drop (i * n + n)
  | [], _, i, e, h1 => by simp at h1
  | x :: es, hs, 0, e, _ => by
    have hx := (hs x (by simp)).1
    simp only [List.set_cons_zero, List.flatten_cons, Nat.zero_mul, Nat.zero_add, List.take_zero, List.nil_append]
    rw [← hx, List.drop_left]
  | x :: es, hs, i + 1, e, h1 => by
    have hx := (hs x (by simp)).1
    have ih := flat_set (es := es) (fun y hy => hs y (by simp [hy])) i e (by simpa using h1)
    simp only [List.set_cons_succ, List.flatten_cons, ih]
    have e1 : (i + 1) * n = x.length + i * n := by rw [hx, Nat.add_mul]; omega
    rw [e1, List.take_length_add_append, Nat.add_assoc, List.drop_length_add_append]
    simp [List.append_assoc]
theorem VRs.len_le {μ : Mu} {h : Hp} {as : List AV} {vs : List Value} (hv : VRs μ h as vs) : as.length = vs.length := hv.length
/-- An array of the call's own, in a block. -/
theorem ORel.own_arr {id sz cap blk : Nat} {es : List (List AV)} {cur : Array Value} {T : TypeId} (hm : μ id = .real blk 0 cap) (hs : Sized sz es) (hle : es.length ≤ cap) (hcap : cap ≤ maxLen)
    (hb : w.heap[blk]? = some (.cells cur T (0, 0))) (hc : cur.size = cap * sz) (h1 : ∀ v ∈ cur.toList.take (es.length * sz), v.oneCell' = true)
    (hr : VRs μ h es.flatten (cur.toList.take (es.length * sz))) : ORel μ h w id (.arr sz es true false) := by
  refine ⟨hs, ?_⟩
  rw [hm]
  refine ⟨rfl, hle, hcap, (Array.getElem?_eq_some_iff.1 hb).1, fun i e j c p q => ?_, fun _ => ⟨rfl, cur, T, hb, hc⟩⟩
  obtain ⟨v, r1, r2⟩ := VRs.get hr _ _ (flat_get hs i j e c p q)
  refine ⟨v, ?_, h1 v (List.mem_of_getElem? r1), r2⟩
  rw [Nat.zero_add, cell_of_row w blk _ cur T (0, 0) hb]
  rw [List.getElem?_take] at r1
  split at r1
  · simpa using r1
  · simp at r1
/-- And back. -/
theorem ORel.own_flat {id sz : Nat} {es : List (List AV)} {nil : Bool} {blk o cap : Nat} (H : ORel μ h w id (.arr sz es true nil)) (hm : μ id = .real blk o cap) :
    ∃ cur T, w.heap[blk]? = some (.cells cur T (0, 0)) ∧ cur.size = cap * sz ∧ o = 0 ∧ es.length ≤ cap ∧ cap ≤ maxLen ∧ (∀ v ∈ cur.toList.take (es.length * sz), v.oneCell' = true) ∧ VRs μ h es.flatten (cur.toList.take (es.length * sz)) := by
  obtain ⟨hs, H2⟩ := H
  rw [hm] at H2
  obtain ⟨hn, hle, hcap, hlt, hcell, hown⟩ := H2
  obtain ⟨rfl, cur, T, hb, hc⟩ := hown rfl
  have hfl := flat_length (n := sz) hs
  have hlen : (cur.toList.take (es.length * sz)).length = es.length * sz := by
    rw [List.length_take]
    have : es.length * sz ≤ cap * sz := Nat.mul_le_mul_right _ hle
    simp; omega
  have key : ∀ (k : Nat) (c : AV) (v : Value), es.flatten[k]? = some c → (cur.toList.take (es.length * sz))[k]? = some v → v.oneCell' = true ∧ VR μ h c v := by
    intro k c v h1 h2
    have hk := (List.getElem?_eq_some_iff.1 h1).1
    rw [hfl] at hk
    have hsz : 0 < sz := by rcases Nat.eq_zero_or_pos sz with h0 | h0; · subst h0; simp at hk
                            · exact h0
    have hi : k / sz < es.length := (Nat.div_lt_iff_lt_mul hsz).2 hk
    have hj : k % sz < sz := Nat.mod_lt _ hsz
    have hse := hs es[k / sz] (List.getElem_mem hi)
    have hj' : k % sz < es[k / sz].length := by rw [hse.1]; exact hj
    have e1 := flat_get hs (k / sz) (k % sz) _ _ (List.getElem?_eq_getElem hi) (List.getElem?_eq_getElem hj')
    have ek : k / sz * sz + k % sz = k := by rw [Nat.mul_comm]; exact Nat.div_add_mod k sz
    rw [ek] at e1
    rw [h1] at e1
    injection e1 with e1
    subst e1
    obtain ⟨v', r1, r2, r3⟩ := hcell _ _ _ _ (List.getElem?_eq_getElem hi) (List.getElem?_eq_getElem hj')
    rw [Nat.zero_add, ek, cell_of_row w blk _ cur T (0, 0) hb] at r1
    rw [List.getElem?_take] at h2
    split at h2
    · have : cur[k]? = some v := by simpa using h2
      rw [this] at r1
      injection r1 with r1
      subst r1
      exact ⟨r2, r3⟩
    · rename_i hnk; exact absurd hk hnk
  refine ⟨cur, T, hb, hc, rfl, hle, hcap, ?_, VRs.of_get (by rw [hfl, hlen]) (fun i a v p q => (key i a v p q).2)⟩
  intro v hv
  obtain ⟨k, hk, e⟩ := List.getElem_of_mem hv
  have hk' : k < es.flatten.length := by rw [hfl]; rw [hlen] at hk; exact hk
  exact (key k _ v (List.getElem?_eq_getElem hk') (by rw [List.getElem?_eq_getElem hk, e])).1

/-- Behind an operation: its value, and the state. -/
def Out (P : Program) (s : Sem Next) (μ : Mu) (h : Hp) (w : World) (a : AV) (h' : Hp) : Prop :=
  ∃ μ' w', Step μ h w μ' h' w' ∧ ((∃ v, s.run P w = .ok (.value v) w' ∧ VR μ' h' a v) ∨ (s.run P w = .ok .skip w' ∧ a = .u))
def apAt (h : Hp) (base : Nat) (e : Eff) : Hp := (e.news.zipIdx base).foldl (fun h p => h.set p.2 p.1) (e.puts.foldl (fun h p => h.set p.1 p.2) h)

theorem new_arr (R : Rel μ h w) {base n : Nat} (hd : h[base]? = some .dead) {es : List (List AV)} {cells : Array Value} {T : TypeId} (hs : Sized n es) (hc : cells.size = es.length * n) (hcap : es.length ≤ maxLen)
    (h1 : ∀ v ∈ cells.toList, v.oneCell' = true) (hr : VRs μ h es.flatten cells.toList) (w1 : World) (hw1 : Step μ h w μ h w1) :
    Step μ h w (μ.set base (.real w1.heap.size 0 es.length)) (h.set base (.arr n es true false)) (w1.alloc (.cells cells T)) := by
  have hlt : base < h.length := (List.getElem?_eq_some_iff.1 hd).1
  refine hw1.trans (Step.upd hw1.rel (loc := .real w1.heap.size 0 es.length) hd trivial (Frame.alloc _ _ _) ?_ rfl ?_)
  · intro b x c e; injection e with e1 e2 e3; subst e1; exact .inl (Nat.le_refl _)
  · intro hE
    have hlen : cells.toList.take (es.length * n) = cells.toList := List.take_of_length_le (by simp [hc])
    refine ORel.own_arr (cap := es.length) (blk := w1.heap.size) (cur := cells) (T := T) (by simp) hs (Nat.le_refl _) hcap (heap_alloc_new w1 _) hc ?_ ?_
    · rw [hlen]; exact h1
    · rw [hlen]; exact VRs.evo hE _ _ hr
theorem VRs.one {as : List AV} {vs : List Value} (hv : VRs μ h as vs) (ok : as.all okC = true) : ∀ v ∈ vs, v.oneCell' = true := by
  intro v hm
  obtain ⟨k, hk, e⟩ := List.getElem_of_mem hm
  have hk' : k < as.length := by rw [hv.length]; exact hk
  obtain ⟨v', h1, h2⟩ := VRs.get hv k _ (List.getElem?_eq_getElem hk')
  rw [List.getElem?_eq_getElem hk] at h1
  injection h1 with h1
  rw [e] at h1
  subst h1
  exact VR.one h2 (List.all_eq_true.1 ok _ (List.getElem_mem hk'))
theorem box_sound (R : Rel μ h w) {base n : Nat} {x a : AV} {e : Eff} {v : Value} {elem : TypeId} (hx : VR μ h x v) (hk : boxE n x base = some (a, e)) (hd : h[base]? = some .dead) :
    ∃ w' u μ', (Instr.box elem v).run P w = .ok u w' ∧ Step μ h w μ' (apAt h base e) w' ∧ VR μ' (apAt h base e) a u := by
  unfold boxE at hk
  split at hk <;> try (simp at hk; done)
  rename_i hc
  simp only [Option.some.injEq, Prod.mk.injEq] at hk
  obtain ⟨rfl, rfl⟩ := hk
  have hcs := VR.cells hx hc.2
  have hlt : base < h.length := (List.getElem?_eq_some_iff.1 hd).1
  have hl := hcs.length
  have hst := new_arr (T := elem) R hd (es := [cellsOf x]) (cells := v.cells) (n := n) (by intro y hy; simp at hy; subst hy; exact ⟨hc.1, fun c hcc => List.all_eq_true.1 hc.2 c hcc⟩) (by simp [← hc.1, hl]) (by simp [maxLen])
    (VRs.one hcs hc.2) (by simpa using hcs) w (Step.refl R)
  refine ⟨_, .pointer (some ⟨w.heap.size, 0, none⟩), _, ?_, hst, ?_⟩
  · simp [Instr.box, newVar, newRow, newObj, Sem.run_bind, Sem.run]
  · simp only [VR, apAt, EN]
    refine ⟨_, rfl, n, [cellsOf x], true, false, by simp [hlt], by simp, fun _ => ⟨w.heap.size, 0, 1, by simp, by simp⟩⟩
theorem alloc_sound (R : Rel μ h w) {base n : Nat} {z a : AV} {e : Eff} {elem : TypeId} (hz : zeroAV P elem = some z) (hk : boxE n z base = some (a, e)) (hd : h[base]? = some .dead) :
    ∃ w' u μ', (Instr.alloc elem true (.tuple #[])).run P w = .ok u w' ∧ Step μ h w μ' (apAt h base e) w' ∧ VR μ' (apAt h base e) a u := by
  obtain ⟨v, h1, h2⟩ := zero_sound (μ := μ) (h := h) (w := w) hz
  obtain ⟨w', u, μ', h3, h4, h5⟩ := box_sound (P := P) (elem := elem) R h2 hk hd
  refine ⟨w', u, μ', ?_, h4, h5⟩
  simp only [Instr.alloc, Sem.run_bind, h1, Result.andThen_ok]
  simpa [Instr.box, Sem.run_bind] using h3
theorem makeMap_sound (R : Rel μ h w) {base : Nat} {ty : TypeId} (hd : h[base]? = some .dead) :
    ∃ w' u μ', (Instr.makeMap ty none).run P w = .ok u w' ∧ Step μ h w μ' (apAt h base (EN (.map []))) w' ∧ VR μ' (apAt h base (EN (.map []))) (.mp base) u := by
  have hlt : base < h.length := (List.getElem?_eq_some_iff.1 hd).1
  have hst : Step μ h w (μ.set base (.real w.heap.size 0 0)) (h.set base (.map [])) (w.alloc (.map #[] 0)) := by
    refine Step.upd R (loc := .real w.heap.size 0 0) hd trivial (Frame.alloc _ _ _) ?_ rfl ?_
    · intro b x c e; injection e with e1 e2 e3; subst e1; exact .inl (Nat.le_refl _)
    · intro hE
      exact ⟨w.heap.size, by simp, #[], 0, heap_alloc_new w _, rfl, fun i k a e h1 => by simp at h1⟩
  refine ⟨_, .map (some w.heap.size), _, ?_, hst, ?_⟩
  · simp [Instr.makeMap, newObj, Sem.run_bind, Sem.run]
  · simp only [VR, apAt, EN]
    exact ⟨[], w.heap.size, by simp [hlt], by simp, rfl⟩
theorem putAt_length {e cs : List AV} {sub : Nat} (hl : sub + cs.length ≤ e.length) : (putAt e sub cs).length = e.length := by
  simp [putAt]; omega
theorem putAt_get {e cs : List AV} {sub j : Nat} (hl : sub + cs.length ≤ e.length) : (putAt e sub cs)[j]? = if sub ≤ j ∧ j < sub + cs.length then cs[j - sub]? else e[j]? := by
  unfold putAt
  by_cases h1 : j < sub
  · rw [List.getElem?_append_left (by simp; omega), List.getElem?_append_left (by simp; omega), List.getElem?_take, if_pos h1, if_neg (by omega)]
  · by_cases h2 : j < sub + cs.length
    · rw [List.getElem?_append_left (by simp; omega), List.getElem?_append_right (by simp; omega), if_pos ⟨by omega, h2⟩]
      congr 1; simp; omega
    · rw [List.getElem?_append_right (by simp; omega), if_neg (by omega), List.getElem?_drop]
      congr 1; simp; omega
theorem store_sound (R : Rel μ h w) {n : Nat} {ty : TypeId} {p x a : AV} {e : Eff} {v v' : Value} (hs : szOf P ty = some n) (hp : VR μ h p v) (hx : VR μ h x v') (hk : stE n p x h = some (a, e)) (base : Nat) :
    ∃ w' μ', (Instr.storeAt ty v v').run P w = .ok () w' ∧ Step μ h w μ' (apAt h base e) w' ∧ a = .u := by
  unfold stE at hk
  split at hk <;> try (simp at hk; done)
  rename_i id idx sub fr
  split at hk <;> try (simp at hk; done)
  rename_i sz es own nil ho
  split at hk <;> try (simp at hk; done)
  rename_i hc
  obtain ⟨hfr, rfl, hn, hok⟩ := hc
  split at hk <;> try (simp at hk; done)
  rename_i el hel
  split at hk <;> try (simp at hk; done)
  rename_i hfit
  simp only [Option.some.injEq, Prod.mk.injEq] at hk
  obtain ⟨rfl, rfl⟩ := hk
  simp only [VR] at hp
  obtain ⟨ad, rfl, sz', es', own', nil', ho', _, hq⟩ := hp
  rw [ho] at ho'
  injection ho' with ho'
  injection ho' with e1 e2 e3 e4
  subst e1 e2 e3 e4
  obtain ⟨blk, o, cap, hm, rfl⟩ := hq hfr.symm
  have hO := R.obj id _ ho
  obtain ⟨cur, T, hb, hcur, rfl, hle, hcap, h1, hr⟩ := ORel.own_flat hO hm
  have hsz : Sized sz es := hO.1
  have hlt : idx < es.length := (List.getElem?_eq_some_iff.1 hel).1
  have hell := hsz el (List.mem_of_getElem? hel)
  have hcs := VR.cells hx hok
  have hcl := hcs.length
  have hvn : v'.cells.toList.length = n := by rw [← hcl, hn]
  have hin : idx * sz + sub + n ≤ cur.size := by
    have h2 : (idx + 1) * sz ≤ cap * sz := Nat.mul_le_mul_right _ (by omega)
    rw [Nat.add_mul] at h2
    rw [hcur]
    have := hell.1
    omega
  have hone := VRs.one hcs hok
  have hstore := run_storeCells_at P blk (idx * sz + sub) T v'.cells.toList 0 cur w hb (by rw [hvn]; simpa using hin) hone
  simp only [Nat.add_zero] at hstore
  obtain ⟨row, hrow⟩ : ∃ row : Array Value, row = (cur.toList.take (idx * sz + sub) ++ v'.cells.toList ++ cur.toList.drop (idx * sz + sub + v'.cells.toList.length)).toArray := ⟨_, rfl⟩
  rw [← hrow] at hstore
  have hrowsz : row.size = cur.size := by
    have hvs : v'.cells.size = n := by simpa using hvn
    rw [hrow]; simp [hvs]; omega
  have hset : (w.setRow blk row).heap[blk]? = some (.cells row T (0, 0)) := setRow_heap w blk cur row T (0, 0) hb
  refine ⟨w.setRow blk row, _, ?_, Step.upd R (o' := .arr sz (es.set idx (putAt el sub (cellsOf x))) true nil) (loc := μ id) ho ⟨_, nil, rfl, by simp, fun _ => rfl⟩ ?_ ?_ rfl ?_, rfl⟩
  · have : v'.cells.size = n := by simpa using hvn
    simp [Instr.storeAt, Instr.sureAddr, storeVar, Sem.run_bind, run_sizeOf' hs, this]
    simpa using hstore
  · exact ⟨rfl, rfl, rfl, by simp, fun k _ hk => setRow_other w blk k _ (fun e => hk ⟨rfl, 0, cap, by rw [e]; exact hm⟩)⟩
  · intro b x c e
    exact .inr ⟨rfl, x, c, e⟩
  · intro hE
    have hnil : nil = false := by have := hO.2; rw [hm] at this; exact this.1
    subst hnil
    have hlen' : sub + (cellsOf x).length ≤ el.length := by rw [hn]; exact hfit
    have hsz' : Sized sz (es.set idx (putAt el sub (cellsOf x))) := by
      intro y hy
      rcases List.mem_or_eq_of_mem_set hy with hy | rfl
      · exact hsz y hy
      · refine ⟨by rw [putAt_length hlen']; exact hell.1, fun c hc => ?_⟩
        simp only [putAt, List.mem_append] at hc
        rcases hc with (hc | hc) | hc
        · exact hell.2 c (List.mem_of_mem_take hc)
        · exact List.all_eq_true.1 hok c hc
        · exact hell.2 c (List.mem_of_mem_drop hc)
    have hfl := flat_length hsz
    have hflat : (es.set idx (putAt el sub (cellsOf x))).flatten = es.flatten.take (idx * sz + sub) ++ cellsOf x ++ es.flatten.drop (idx * sz + sub + n) := by
      have he : es.set idx el = es := by rw [List.getElem?_eq_getElem hlt] at hel; injection hel with hel; rw [← hel]; simp
      have e0 : es.flatten = es.flatten.take (idx * sz) ++ el ++ es.flatten.drop (idx * sz + sz) := by
        rw [← flat_set hsz idx el hlt, he]
      have hpre : (es.flatten.take (idx * sz)).length = idx * sz := by
        rw [List.length_take, hfl]
        have : (idx + 1) * sz ≤ es.length * sz := Nat.mul_le_mul_right _ hlt
        rw [Nat.add_mul] at this; omega
      rw [flat_set hsz idx _ hlt]
      unfold putAt
      have t1 : es.flatten.take (idx * sz + sub) = es.flatten.take (idx * sz) ++ el.take sub := by
        conv => lhs; rw [e0]
        rw [List.append_assoc, List.take_append, hpre, List.take_of_length_le (by rw [hpre]; omega)]
        congr 1
        rw [show idx * sz + sub - idx * sz = sub by omega, List.take_append_of_le_length (by rw [hell.1]; have := hell.1; omega)]
      have t2 : es.flatten.drop (idx * sz + sub + n) = el.drop (sub + n) ++ es.flatten.drop (idx * sz + sz) := by
        conv => lhs; rw [e0]
        rw [List.append_assoc, List.drop_append, hpre, List.drop_eq_nil_of_le (by rw [hpre]; omega), List.nil_append]
        rw [show idx * sz + sub + n - idx * sz = sub + n by omega, List.drop_append_of_le_length (by have := hell.1; omega)]
      rw [t1, t2, hn]
      simp [List.append_assoc]
    have hmul : es.length * sz ≤ cap * sz := Nat.mul_le_mul_right _ hle
    have hmul2 : (idx + 1) * sz ≤ es.length * sz := Nat.mul_le_mul_right _ hlt
    rw [Nat.add_mul] at hmul2
    have hrt : row.toList.take (es.length * sz) = cur.toList.take (idx * sz + sub) ++ v'.cells.toList ++ (cur.toList.take (es.length * sz)).drop (idx * sz + sub + n) := by
      have hq1 : (cur.toList.take (idx * sz + sub)).length = idx * sz + sub := by rw [List.length_take, Array.length_toList]; omega
      rw [hrow]
      simp only [hvn]
      rw [List.append_assoc, List.take_append, hq1, List.take_of_length_le (by rw [hq1]; have := hell.1; omega), List.append_assoc]
      congr 1
      rw [List.take_append, hvn, List.take_of_length_le (by rw [hvn]; have := hell.1; omega)]
      congr 1
      rw [List.drop_take]
      congr 1
      omega
    have hvr : VRs (μ.set id (μ id)) (h.set id (.arr sz (es.set idx (putAt el sub (cellsOf x))) true false)) (es.set idx (putAt el sub (cellsOf x))).flatten (row.toList.take (es.length * sz)) := by
      rw [hflat, hrt]
      have r1 := VRs.take (idx * sz + sub) hr
      rw [List.take_take, Nat.min_eq_left (by have := hell.1; omega)] at r1
      exact VRs.evo hE _ _ (VRs.append (VRs.append r1 hcs) (VRs.drop _ hr))
    refine ORel.own_arr (cur := row) (T := T) (cap := cap) (blk := blk) (by simp [hm]) hsz' (by simpa using hle) hcap hset (by rw [hrowsz]; exact hcur) ?_ (by simpa using hvr)
    simp only [List.length_set]
    intro u hu
    rw [hrt] at hu
    rcases List.mem_append.1 hu with hu | hu
    · rcases List.mem_append.1 hu with hu | hu
      · refine h1 u ?_
        have : cur.toList.take (idx * sz + sub) = (cur.toList.take (es.length * sz)).take (idx * sz + sub) := by rw [List.take_take, Nat.min_eq_left (by have := hell.1; omega)]
        rw [this] at hu
        exact List.mem_of_mem_take hu
      · exact hone u hu
    · exact h1 u (List.mem_of_mem_drop hu)
end Go.AM

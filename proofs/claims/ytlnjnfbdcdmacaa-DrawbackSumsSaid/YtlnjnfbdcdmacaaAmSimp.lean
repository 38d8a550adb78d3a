import Derived.Test.YtlnjnfbdcdmacaaAmRunK
namespace Go.AM
set_option linter.unusedVariables false
set_option linter.constructorNameAsVariable false
variable {β : Type}
abbrev I (n : Int) : AV := .s (.int .i64 n)
abbrev B (b : Bool) : AV := .s (.bool b)
abbrev nilS : AV := .s (.slice none 0 0)
theorem arithK_add (a : IntKind) (m n : Int) (k : K β) : arithK .add (.s (.int a m)) (.s (.int a n)) k = k (.s (.int a (a.wrap (m + n)))) := by simp [arithK]
theorem arithK_sub (a : IntKind) (m n : Int) (k : K β) : arithK .sub (.s (.int a m)) (.s (.int a n)) k = k (.s (.int a (a.wrap (m - n)))) := by simp [arithK]
theorem arithK_mul (a : IntKind) (m n : Int) (k : K β) : arithK .mul (.s (.int a m)) (.s (.int a n)) k = k (.s (.int a (a.wrap (m * n)))) := by simp [arithK]
theorem arithK_lss (a : IntKind) (m n : Int) (k : K β) : arithK .lss (.s (.int a m)) (.s (.int a n)) k = k (.s (.bool (m < n))) := by simp [arithK]
theorem arithK_leq (a : IntKind) (m n : Int) (k : K β) : arithK .leq (.s (.int a m)) (.s (.int a n)) k = k (.s (.bool (m ≤ n))) := by simp [arithK]
theorem arithK_gtr (a : IntKind) (m n : Int) (k : K β) : arithK .gtr (.s (.int a m)) (.s (.int a n)) k = k (.s (.bool (n < m))) := by simp [arithK]
theorem arithK_geq (a : IntKind) (m n : Int) (k : K β) : arithK .geq (.s (.int a m)) (.s (.int a n)) k = k (.s (.bool (n ≤ m))) := by simp [arithK]
theorem condK_bool (q : Bool) (a b : Option β) : condK (.s (.bool q)) a b = if q = true then a else b := by cases q <;> rfl
theorem grpK_and (b c : Bool) (h : Hp) (k : AV → Hp → Option β) : grpK true (.s (.bool b)) h (fun K => K (.s (.bool c)) h) k = k (.s (.bool (b && c))) h := by cases b <;> rfl
theorem grpK_or (b c : Bool) (h : Hp) (k : AV → Hp → Option β) : grpK false (.s (.bool b)) h (fun K => K (.s (.bool c)) h) k = k (.s (.bool (b || c))) h := by cases b <;> rfl
theorem grpK_tt (h : Hp) (run : (AV → Hp → Option β) → Option β) (k : AV → Hp → Option β) : grpK true (.s (.bool true)) h run k = run k := rfl
theorem grpK_tf (h : Hp) (run : (AV → Hp → Option β) → Option β) (k : AV → Hp → Option β) : grpK true (.s (.bool false)) h run k = k (.s (.bool false)) h := rfl
theorem grpK_ft (h : Hp) (run : (AV → Hp → Option β) → Option β) (k : AV → Hp → Option β) : grpK false (.s (.bool true)) h run k = k (.s (.bool true)) h := rfl
theorem grpK_ff (h : Hp) (run : (AV → Hp → Option β) → Option β) (k : AV → Hp → Option β) : grpK false (.s (.bool false)) h run k = run k := rfl
theorem pickK_bool (q : Bool) (a b : AV) (k : K β) : pickK (.s (.bool q)) a b k = k (if q then a else b) := rfl
theorem notK_bool (b : Bool) (k : K β) : notK (.s (.bool b)) k = k (.s (.bool !b)) := rfl
theorem exK_tup (vs : List AV) (i : Nat) (k : K β) : exK (.tup vs) i k = match vs[i]? with | some v => k v | none => none := rfl
theorem lenK_sl (sz id off len fr : Nat) (full : Bool) (k : K β) : lenK (.sl sz id off len fr full) k = k (.s (.int .i64 len)) := rfl
theorem lenK_lst (sz : Nat) (nil : Bool) (es : List (List AV)) (k : K β) : lenK (.lst sz nil es) k = k (.s (.int .i64 es.length)) := rfl
theorem lenK_nil (n c : Nat) (k : K β) : lenK (.s (.slice none n c)) k = k (.s (.int .i64 n)) := rfl
theorem faK_ptr (off id idx sub fr : Nat) (k : K β) : faK off (.ptr id idx sub fr) k = k (.ptr id idx (sub + off) fr) := rfl
theorem faK_ep (off : Nat) (e : List AV) (sub : Nat) (k : K β) : faK off (.ep e sub) k = k (.ep e (sub + off)) := rfl
theorem iaK_sl {n id off len fr : Nat} {full : Bool} {kk : IntKind} {m : Int} (h0 : 0 ≤ m) (h1 : m < len) (k : K β) : iaK n (.sl n id off len fr full) (.s (.int kk m)) k = k (.ptr id (off + m.toNat) 0 fr) := by simp [iaK, h0, h1]
theorem iaK_lst {n : Nat} {b : Bool} {es : List (List AV)} {kk : IntKind} {m : Int} {e : List AV} (h0 : 0 ≤ m) (he : es[m.toNat]? = some e) (k : K β) : iaK n (.lst n b es) (.s (.int kk m)) k = k (.ep e 0) := by simp [iaK, h0, he]
theorem iaK_map {α : Type} {n : Nat} {b : Bool} {f : α → List AV} {l : List α} {kk : IntKind} {i : Nat} (k : K β) : iaK n (.lst n b (l.map f)) (.s (.int kk (i : Int))) k = match l[i]? with | some p => k (.ep (f p) 0) | none => none := by
  simp [iaK]
  cases l[i]? <;> rfl
theorem iaK_map0 {α : Type} {n : Nat} {b : Bool} {f : α → List AV} {l : List α} {kk : IntKind} (k : K β) : iaK n (.lst n b (l.map f)) (.s (.int kk 0)) k = match l[0]? with | some p => k (.ep (f p) 0) | none => none := iaK_map (i := 0) k
theorem iaK_at {α : Type} {n : Nat} {b : Bool} {f : α → List AV} {l : List α} {kk : IntKind} {m : Int} {p : α} (i : Nat) (hm : m = i) (hp : l[i]? = some p) (k : K β) : iaK n (.lst n b (l.map f)) (.s (.int kk m)) k = k (.ep (f p) 0) := by
  subst hm; rw [iaK_map, hp]
theorem ldK_ep (n : Nat) (agg : Bool) (e : List AV) (sub : Nat) (h : Hp) (k : K β) : ldK n agg (.ep e sub) h k = match pickC n agg e sub with | some v => k v | none => none := rfl
theorem nilK_ptr (a b c d : Nat) (k : K β) : nilK (.ptr a b c d) k = k (.ptr a b c d) := rfl
theorem nilK_ep (e : List AV) (sub : Nat) (k : K β) : nilK (.ep e sub) k = k (.ep e sub) := rfl
theorem nilK_fn (f : Nat) (cs : List AV) (k : K β) : nilK (.fn f cs) k = k (.fn f cs) := rfl
theorem eqK_int {P : Program} {neq : Bool} {ty : TypeId} {a : IntKind} {m n : Int} {h : Hp} (k : K β) : eqK P neq ty (.s (.int a m)) (.s (.int a n)) h k = k (.s (.bool (xor neq (m == n)))) := by simp [eqK]
theorem eqK_lst {P : Program} {neq : Bool} {ty : TypeId} {sz n c : Nat} {nil : Bool} {es : List (List AV)} {h : Hp} (k : K β) (he : (elemOf P ty).isSome = true) : eqK P neq ty (.lst sz nil es) (.s (.slice none n c)) h k = k (.s (.bool (xor neq nil))) := by
  obtain ⟨e, he⟩ := Option.isSome_iff_exists.1 he
  simp [eqK, he]
theorem eqK_sl {P : Program} {neq : Bool} {ty : TypeId} {sz id off len fr n c sz' : Nat} {full own nil : Bool} {es : List (List AV)} {h : Hp} (k : K β) (he : (elemOf P ty).isSome = true) (hid : h[id]? = some (.arr sz' es own nil)) (hf : es.length = fr) :
    eqK P neq ty (.sl sz id off len fr full) (.s (.slice none n c)) h k = k (.s (.bool (xor neq nil))) := by
  obtain ⟨e, he⟩ := Option.isSome_iff_exists.1 he
  simp [eqK, he, hid, hf]
theorem okE_map {α : Type} {st : Bool} {f : α → List AV} {l : List α} (hf : ∀ x, (f x).all (fun c => bif st then isS c else plain c) = true) : okE st (l.map f) = true := by
  simp only [okE, List.all_map, List.all_eq_true, Function.comp]
  intro x _
  simpa using hf x
theorem minK_int (a : IntKind) (m n : Int) (k : K β) : minK (.s (.int a m)) (.s (.int a n)) k = k (.s (.int a (min m n))) := by
  simp only [minK, if_true]; congr 2; rw [Int.min_def]; congr 1; split <;> split <;> omega
theorem maxK_int (a : IntKind) (m n : Int) (k : K β) : maxK (.s (.int a m)) (.s (.int a n)) k = k (.s (.int a (max m n))) := by
  simp only [maxK, if_true]; congr 2; rw [Int.max_def]; congr 1; split <;> split <;> omega
theorem callK_F (F : Fun) (args : List AV) (h : Hp) (k : AV → Hp → Option β) : callK (some F) args h k = match F args h with | some (v, h') => k v h' | none => none := rfl
theorem callVK_fn (T : Tab) (g : Nat) (caps args : List AV) (h : Hp) (k : AV → Hp → Option β) : callVK T (.fn g caps) args h k = callK (T g) (args ++ caps) h k := rfl
theorem callK_some {F : Option Fun} {G : Fun} {args : List AV} {h h' : Hp} {v : AV} (hF : F = some G) (hv : G args h = some (v, h')) (k : AV → Hp → Option β) : callK F args h k = k v h' := by simp [callK, hF, hv]
theorem effK_some (v : AV) (e : Eff) (h : Hp) (k : AV → Hp → Option β) : effK (some (v, e)) h k = k v (ap h e) := rfl
theorem effK_box (n m : Nat) (v : AV) (h : Hp) (k : AV → Hp → Option β) (hm : h.length = m) (h1 : (cellsOf v).length = n) (h2 : (cellsOf v).all okC = true) : effK (boxE n v m) h k = k (.ptr m 0 0 1) (h ++ [.arr n [cellsOf v] true false]) := by
  simp [boxE, h1, h2, effK, ap]
theorem get_app {h g : Hp} {id : Nat} {o : AObj} (hid : h[id]? = some o) : (h ++ g)[id]? = some o := by
  rw [List.getElem?_append_left (List.getElem?_eq_some_iff.1 hid).1]; exact hid
theorem get_new (h g : Hp) (n : Nat) : (h ++ g)[h.length + n]? = g[n]? := by rw [List.getElem?_append_right (by omega)]; congr 1; omega
theorem get_new0 (h g : Hp) : (h ++ g)[h.length]? = g[0]? := get_new h g 0
theorem set_new (h g : Hp) (n : Nat) (o : AObj) : (h ++ g).set (h.length + n) o = h ++ g.set n o := by rw [List.set_append_right _ _ (by omega)]; congr 2; omega
theorem set_new0 (h g : Hp) (o : AObj) : (h ++ g).set h.length o = h ++ g.set 0 o := set_new h g 0 o
theorem wrap64 {n : Int} (h1 : -9223372036854775808 ≤ n) (h2 : n < 9223372036854775808) : IntKind.i64.wrap n = n := by rw [IntKind.wrap_i64]; omega
theorem wrapU {n : Int} (h1 : 0 ≤ n) (h2 : n < 18446744073709551616) : IntKind.u64.wrap n = n := by rw [IntKind.wrap_u64]; omega
theorem ldK_ptr (n : Nat) (agg : Bool) (id idx sub fr : Nat) (h : Hp) (k : K β) : ldK n agg (.ptr id idx sub fr) h k = match h[id]? with
    | some (.arr _ es _ _) => if es.length = fr then (match es[idx]? with | some e => (match pickC n agg e sub with | some v => k v | none => none) | none => none) else none
    | _ => none := rfl
theorem stE_ptr (n id idx sub fr : Nat) (v : AV) (h : Hp) : stE n (.ptr id idx sub fr) v h = match h[id]? with
    | some (.arr sz es own nil) =>
      if es.length = fr ∧ own = true ∧ (cellsOf v).length = n ∧ (cellsOf v).all okC then
        match es[idx]? with
        | some e => if sub + n ≤ e.length then some (.u, ⟨[(id, .arr sz (es.set idx (putAt e sub (cellsOf v))) own nil)], [], [id]⟩) else none
        | none => none
      else none
    | _ => none := rfl
theorem ap_put (h : Hp) (id : Nat) (o : AObj) (ft : List Nat) : ap h ⟨[(id, o)], [], ft⟩ = h.set id o := by simp [ap]
theorem ap_new (h : Hp) (o : AObj) (ft : List Nat) : ap h ⟨[], [o], ft⟩ = h ++ [o] := by simp [ap]
theorem ap_none (h : Hp) (ft : List Nat) : ap h ⟨[], [], ft⟩ = h := by simp [ap]
theorem disjAll_nil (lg : List Ent) : disjAll [] lg = true := rfl
/-- A closed call of one slice that lies in the heap whole; the answer is of numbers. -/
theorem closedX_sl1 {shp shr : List Sh} {R : Fun} {sz n id : Nat} {full nl : Bool} {es : List (List AV)} {h : Hp} {v : AV} (hid : h[id]? = some (.arr sz es true nl)) (hn : es.length = n) (ok : okE false es = true) (hs : scal v = true) (hv : closedX shp shr R [.lst sz nl es] [] = some (v, [])) :
    closedX shp shr R [.sl sz id 0 n n full] h = some (v, h) := by
  refine closedX_scal ?_ hv hs
  subst hn
  simp [cvts, cvt, hid, ok]
theorem cvt_s (st : Bool) (h : Hp) (v : Value) : cvt st h (.s v) = some (.s v) := rfl
theorem cvt_lst (h : Hp) (sz : Nat) (b : Bool) (es : List (List AV)) : cvt false h (.lst sz b es) = some (.lst sz b es) := rfl
theorem cvt_agg (st : Bool) (h : Hp) (cs : List AV) : cvt st h (.agg cs) = (cvts st h cs).map .agg := rfl
theorem cvt_tup (st : Bool) (h : Hp) (cs : List AV) : cvt st h (.tup cs) = (cvts st h cs).map .tup := rfl
theorem cvts_nil (st : Bool) (h : Hp) : cvts st h [] = some [] := rfl
theorem cvts_cons (st : Bool) (h : Hp) (a : AV) (as : List AV) : cvts st h (a :: as) = match cvt st h a, cvts st h as with | some a', some as' => some (a' :: as') | _, _ => none := rfl
theorem cvt_whole {st : Bool} {h : Hp} {sz id n fr : Nat} {full nl : Bool} {es : List (List AV)} (hid : h[id]? = some (.arr sz es true nl)) (hn : es.length = n) (hf : es.length = fr) (ok : okE st es = true) : cvt st h (.sl sz id 0 n fr full) = some (.lst sz nl es) := by
  subst hn hf
  simp [cvt, hid, ok]
attribute [simp] arithK_add arithK_sub arithK_mul arithK_lss arithK_leq arithK_gtr arithK_geq condK_bool grpK_and grpK_or grpK_tt grpK_tf grpK_ft grpK_ff pickK_bool notK_bool exK_tup lenK_sl lenK_lst lenK_nil faK_ptr faK_ep iaK_map iaK_map0 ldK_ep nilK_ptr nilK_ep nilK_fn
  eqK_int eqK_lst minK_int maxK_int callK_F callVK_fn effK_some effK_box get_new get_new0 set_new set_new0 ldK_ptr stE_ptr ap_put ap_new ap_none cellsOf okC gv pickC putAt plain plains cvt_s cvt_lst cvt_agg cvt_tup cvts_nil cvts_cons nrmR nrms nrm nrmC nrmCs
end Go.AM

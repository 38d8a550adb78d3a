import Derived.Test.YtlnjnfbdcdmacaaAmPure
namespace Go.AM
open Go.RowKit
set_option linter.unusedVariables false
set_option linter.unusedSimpArgs false
variable {P : Program} {μ : Mu} {h : Hp} {w : World}
theorem lenM_sound (R : Rel μ h w) {x a : AV} {v : Value} {t k e ty : TypeId} (hu : P.underlying t = some (.map k e)) (hx : VR μ h x v) (hk : lenM x h some = some a) :
    ∃ u, (Builtin.len_ #[t] ty #[v]).run P w = .ok u w ∧ VR μ h a u := by
  unfold lenM at hk
  split at hk <;> try (simp at hk; done)
  · simp only [Option.some.injEq] at hk
    subst hk
    simp only [VR] at hx
    obtain ⟨-, rfl⟩ := hx
    exact ⟨_, by simp [Builtin.len_, Sem.run_bind, run_underlying hu, goInt]; rfl, by simp [VR, gv]⟩
  · split at hk <;> try (simp at hk; done)
    rename_i id _ kvs ho
    simp only [Option.some.injEq] at hk
    subst hk
    simp only [VR] at hx
    obtain ⟨kvs', blk, ho', hm, rfl⟩ := hx
    obtain ⟨blk', hm', es, clock, hh, hl, -⟩ := R.obj _ _ ho
    rw [hm] at hm'
    injection hm' with e1
    subst e1
    exact ⟨.int .i64 kvs.length, by simp [Builtin.len_, Sem.run_bind, run_underlying hu, goInt, getObj, Sem.run, hh, hl], by simp [VR, gv]⟩
theorem pick_sound {c x y a : AV} {v1 v2 v3 : Value} (hc : VR μ h c v1) (hx : VR μ h x v2) (hy : VR μ h y v3) (hk : pickK c x y some = some a) :
    ∃ u, (do pure (Next.value (if ← asBool v1 then v2 else v3)) : Sem Next).run P w = .ok (.value u) w ∧ VR μ h a u := by
  unfold pickK at hk
  split at hk <;> try (simp at hk; done)
  rename_i q
  simp only [Option.some.injEq] at hk
  subst hk
  simp only [VR] at hc
  obtain ⟨-, rfl⟩ := hc
  cases q
  · exact ⟨v3, by simp [asBool, Sem.run_bind], hy⟩
  · exact ⟨v2, by simp [asBool, Sem.run_bind], hx⟩
theorem fa_sound {ty ft : TypeId} {f off n : Nat} {x a : AV} {v : Value} (hf : fieldOf P ty f = some (off, ft)) (hs : szOf P ft = some (n + 1)) (hx : VR μ h x v)
    (hk : faK off x some = some a) : ∃ u, (Instr.fieldAt ty v f).run P w = .ok u w ∧ VR μ h a u := by
  unfold faK at hk
  split at hk <;> try (simp at hk; done)
  case h_2 e sub =>
    simp only [Option.some.injEq] at hk
    subst hk
    simp only [VR] at hx
    obtain ⟨blk, o, vs, rfl, hi, hr, hc⟩ := hx
    unfold fieldOf at hf
    split at hf <;> try (simp at hf; done)
    rename_i fs hu
    simp only [Option.map_eq_some_iff] at hf
    obtain ⟨fl, hfl, e⟩ := hf
    simp only [Prod.mk.injEq] at e
    obtain ⟨e1, e2⟩ := e
    subst e1 e2
    refine ⟨.pointer (some (Addr.add ⟨blk, o + sub, none⟩ fl.offset)), ?_, ?_⟩
    · simp [Instr.fieldAt, Instr.sureAddr, Sem.run_bind, run_underlying hu, hfl, fieldPlace, run_sizeOf' hs]
    · simp only [VR]
      exact ⟨blk, o, vs, by rw [Addr.add_mid, Nat.add_assoc], hi, hr, hc⟩
  rename_i id idx sub fr
  simp only [Option.some.injEq] at hk
  subst hk
  simp only [VR] at hx
  obtain ⟨ad, rfl, sz, es, own, nil, ho, hl, hc⟩ := hx
  unfold fieldOf at hf
  split at hf <;> try (simp at hf; done)
  rename_i fs hu
  simp only [Option.map_eq_some_iff] at hf
  obtain ⟨fl, hfl, e⟩ := hf
  simp only [Prod.mk.injEq] at e
  obtain ⟨e1, e2⟩ := e
  subst e1 e2
  refine ⟨.pointer (some (ad.add fl.offset)), ?_, ?_⟩
  · simp [Instr.fieldAt, Instr.sureAddr, Sem.run_bind, run_underlying hu, hfl, fieldPlace, run_sizeOf' hs]
  · simp only [VR]
    refine ⟨_, rfl, sz, es, own, nil, ho, hl, fun e => ?_⟩
    obtain ⟨blk, o, c, hm, rfl⟩ := hc e
    exact ⟨blk, o, c, hm, by rw [Addr.add_mid]; congr 1; omega⟩
theorem fld_sound {ty ft : TypeId} {f off n : Nat} {x a : AV} {v : Value} (hf : fieldOf P ty f = some (off, ft)) (hs : szOf P ft = some n) (hx : VR μ h x v)
    (hk : fldK n (aggT P ft) off x some = some a) : ∃ u, (Instr.field ty v f).run P w = .ok u w ∧ VR μ h a u := by
  unfold fldK at hk
  split at hk <;> try (simp at hk; done)
  rename_i cs
  split at hk <;> try (simp at hk; done)
  rename_i b hb
  simp only [Option.some.injEq] at hk
  subst hk
  simp only [VR] at hx
  obtain ⟨vs, rfl, hr⟩ := hx
  unfold fieldOf at hf
  split at hf <;> try (simp at hf; done)
  rename_i fs hu
  simp only [Option.map_eq_some_iff] at hf
  obtain ⟨fl, hfl, e⟩ := hf
  simp only [Prod.mk.injEq] at e
  obtain ⟨e1, e2⟩ := e
  subst e1 e2
  have hag := run_isAgg' hs w
  have hsz := run_sizeOf' hs w
  unfold pickC at hb
  cases hq : aggT P fl.type with
  | true =>
    simp only [hq, if_true] at hb
    split at hb <;> try (simp at hb; done)
    rename_i hle
    simp only [Option.some.injEq] at hb
    subst hb
    refine ⟨.agg (vs.extract fl.offset (fl.offset + n)), ?_, ?_⟩
    · simp [Instr.field, asAgg, part, Sem.run_bind, run_underlying hu, hfl, hag, hq, hsz]
    · simp only [VR]
      refine ⟨_, rfl, ?_⟩
      have := VRs.take n (VRs.drop fl.offset hr)
      rwa [Array.toList_extract, List.extract_eq_take_drop, Nat.add_sub_cancel_left]
  | false =>
    simp only [hq, Bool.false_eq_true, if_false] at hb
    obtain ⟨u, hu', hv⟩ := VRs.get hr _ _ hb
    refine ⟨u, ?_, hv⟩
    have : vs[fl.offset]? = some u := by simpa using hu'
    simp [Instr.field, asAgg, part, Sem.run_bind, run_underlying hu, hfl, hag, hq, this]
theorem ia_sound {ty e : TypeId} {n : Nat} {x i a : AV} {v v' : Value} (he : elemOf P ty = some e) (hs : szOf P e = some n) (hx : VR μ h x v) (hi : VR μ h i v')
    (hk : iaK n x i some = some a) : ∃ u, (Instr.indexAt ty v v').run P w = .ok u w ∧ VR μ h a u := by
  unfold iaK at hk
  split at hk <;> try (simp at hk; done)
  case h_2 sz nil es kk m =>
    split at hk <;> try (simp at hk; done)
    rename_i hc
    obtain ⟨rfl, h0⟩ := hc
    split at hk <;> try (simp at hk; done)
    rename_i el hel
    simp only [Option.some.injEq] at hk
    subst hk
    simp only [VR] at hx hi
    obtain ⟨-, rfl⟩ := hi
    have hlt := (List.getElem?_eq_some_iff.1 hel).1
    obtain ⟨A, c, rfl, hlc, -, -, -, hsz, hq⟩ := hx
    obtain ⟨blk, o, vs, rfl, him, hf, hcell⟩ := hq (by omega)
    have hu := elemOf_under he
    obtain ⟨us, g1, g2⟩ := VRf.get hf (fun e he => (hsz e he).1) _ _ hel
    refine ⟨.pointer (some (Addr.add ⟨blk, o, none⟩ (m.toNat * sz))), ?_, ?_⟩
    · have hcond : 0 ≤ m ∧ m < (es.length : Int) := ⟨h0, by omega⟩
      simp [Instr.indexAt, asIntOf, Sem.run_bind, run_underlying hu, hcond, run_sizeOf' hs]
    · simp only [VR]
      refine ⟨blk, o + m.toNat * sz, us, by rw [Addr.add_mid, Nat.add_zero], him, g1, fun j u hu => ?_⟩
      rw [Nat.add_assoc]
      exact hcell _ u (g2 j u hu)
  rename_i sz id off len fr full kk m
  split at hk <;> try (simp at hk; done)
  rename_i hc
  obtain ⟨rfl, h0, hm⟩ := hc
  simp only [Option.some.injEq] at hk
  subst hk
  simp only [VR] at hx hi
  obtain ⟨-, rfl⟩ := hi
  obtain ⟨A, c, rfl, hlc, hA, -, es, own, nil, ho, hfr, hq⟩ := hx
  have hu := elemOf_under he
  obtain ⟨ad, rfl⟩ := Option.isSome_iff_exists.1 (hA (by omega))
  refine ⟨.pointer (some (ad.add (m.toNat * sz))), ?_, ?_⟩
  · have hcond : 0 ≤ m ∧ m < (len : Int) := ⟨h0, hm⟩
    simp [Instr.indexAt, asIntOf, Sem.run_bind, run_underlying hu, hcond, run_sizeOf' hs]
  · simp only [VR]
    refine ⟨_, rfl, sz, es, own, nil, ho, hfr, fun e => ?_⟩
    have := hq e
    unfold SlOk at this
    split at this
    · rename_i blk o cap hmu
      obtain ⟨a', e1, hcap, hne⟩ := this
      injection e1 with e1
      subst e1
      have := hne (by omega)
      subst this
      exact ⟨blk, o, cap, hmu, by rw [Addr.add_mid]; congr 1; rw [Nat.add_mul]; omega⟩
    · omega
theorem arrOf_under {ty e : TypeId} {n : Nat} (he : arrOf P ty = some (n, e)) : P.underlying ty = some (.array n e) := by
  unfold arrOf at he
  split at he <;> simp_all
theorem iaA_sound {ty e : TypeId} {n len : Nat} {x i a : AV} {v v' : Value} (he : arrOf P ty = some (len, e)) (hs : szOf P e = some n) (hx : VR μ h x v) (hi : VR μ h i v')
    (hk : iaA n len x i some = some a) : ∃ u, (Instr.indexAt ty v v').run P w = .ok u w ∧ VR μ h a u := by
  unfold iaA at hk
  split at hk <;> try (simp at hk; done)
  case h_2 el sub kk m =>
    split at hk <;> try (simp at hk; done)
    rename_i hc
    simp only [Option.some.injEq] at hk
    subst hk
    simp only [VR] at hx hi
    obtain ⟨-, rfl⟩ := hi
    obtain ⟨blk, o, vs, rfl, him, hr, hcell⟩ := hx
    have hu := arrOf_under he
    refine ⟨.pointer (some (Addr.add ⟨blk, o + sub, none⟩ (m.toNat * n))), ?_, ?_⟩
    · simp [Instr.indexAt, asIntOf, Sem.run_bind, run_underlying hu, hc, run_sizeOf' hs, Instr.sureAddr]
    · simp only [VR]
      exact ⟨blk, o, vs, by rw [Addr.add_mid, Nat.add_assoc], him, hr, hcell⟩
  rename_i id idx sub fr kk m
  split at hk <;> try (simp at hk; done)
  rename_i hc
  simp only [Option.some.injEq] at hk
  subst hk
  simp only [VR] at hx hi
  obtain ⟨-, rfl⟩ := hi
  obtain ⟨ad, rfl, sz, es, own, nil, ho, hfr, hq⟩ := hx
  have hu := arrOf_under he
  refine ⟨.pointer (some (ad.add (m.toNat * n))), ?_, ?_⟩
  · simp [Instr.indexAt, asIntOf, Sem.run_bind, run_underlying hu, hc, run_sizeOf' hs, Instr.sureAddr]
  · simp only [VR]
    refine ⟨_, rfl, sz, es, own, nil, ho, hfr, fun e => ?_⟩
    obtain ⟨blk, o, c, hmu, rfl⟩ := hq e
    exact ⟨blk, o, c, hmu, by rw [Addr.add_mid]; congr 1; omega⟩
theorem ch_sound {ty : TypeId} {x i a : AV} {v v' : Value} (hu : P.underlying ty = some .string) (hx : VR μ h x v) (hi : VR μ h i v')
    (hk : chK x i some = some a) : ∃ u, (Instr.index ty v v').run P w = .ok u w ∧ VR μ h a u := by
  unfold chK at hk
  split at hk <;> try (simp at hk; done)
  rename_i s kk m
  split at hk <;> try (simp at hk; done)
  rename_i hc
  split at hk <;> try (simp at hk; done)
  rename_i b hb
  simp only [Option.some.injEq] at hk
  subst hk
  simp only [VR] at hx hi
  obtain ⟨-, rfl⟩ := hi
  obtain ⟨-, rfl⟩ := hx
  exact ⟨.int .u8 b.toNat, by simp [Instr.index, asIntOf, Sem.run_bind, run_underlying hu, hc, hb], by simp [VR, gv]⟩
theorem run_bound {x : Option AV} {v : Option Value} {d n cap : Nat} (code : BoundsCode) (hx : ∀ y, x = some y → ∃ u, v = some u ∧ VR μ h y u) (hb : boundOr x d = some n) (hle : n ≤ cap) :
    ∀ u, v = some u → x.isSome = true → (Go.Instr.sliceBound u cap code).run P w = .ok n w := by
  intro u hu hs
  obtain ⟨y, rfl⟩ := Option.isSome_iff_exists.1 hs
  obtain ⟨u', e, hv⟩ := hx y rfl
  rw [hu] at e
  injection e with e
  subst e
  unfold boundOr at hb
  split at hb
  · simp_all
  · rename_i k m e
    injection e with e
    subst e
    simp only [VR] at hv
    obtain ⟨-, rfl⟩ := hv
    split at hb <;> try (simp at hb; done)
    rename_i h0
    simp only [Option.some.injEq] at hb
    subst hb
    have hc : 0 ≤ m ∧ m ≤ (cap : Int) := ⟨h0, by omega⟩
    simp [Instr.sliceBound, asIntOf, Sem.run_bind, hc]
  · simp at hb

theorem bound_int {x : AV} {v : Value} {d n : Nat} (hv : VR μ h x v) (hb : boundOr (some x) d = some n) : ∃ k, v = .int k n := by
  unfold boundOr at hb
  split at hb
  · simp at *
  · rename_i k m e
    injection e with e
    subst e
    simp only [VR] at hv
    obtain ⟨-, rfl⟩ := hv
    split at hb <;> try (simp at hb; done)
    rename_i h0
    simp only [Option.some.injEq] at hb
    subst hb
    exact ⟨k, by rw [Int.toNat_of_nonneg h0]⟩
  · simp at hb
theorem run_sliceBound (k : IntKind) (n cap : Nat) (code : BoundsCode) (hle : n ≤ cap) (w : World) : (Instr.sliceBound (.int k n) cap code).run P w = .ok n w := by
  have hc : 0 ≤ (n : Int) ∧ (n : Int) ≤ (cap : Int) := ⟨by omega, by omega⟩
  simp [Instr.sliceBound, asIntOf, Sem.run_bind, hc, hle]
/-- The three bounds of a slice expression. -/
theorem run_bounds {lo hi mx : Option AV} {vl vh vm : Option Value} {len cap l hh m : Nat} (hlo : ∀ y, lo = some y → ∃ u, vl = some u ∧ VR μ h y u) (nlo : lo = none → vl = none)
    (hhi : ∀ y, hi = some y → ∃ u, vh = some u ∧ VR μ h y u) (nhi : hi = none → vh = none) (hmx : ∀ y, mx = some y → ∃ u, vm = some u ∧ VR μ h y u) (nmx : mx = none → vm = none)
    (bl : boundOr lo 0 = some l) (bh : boundOr hi len = some hh) (bm : boundOr mx len = some m) (h1 : l ≤ hh) (h2 : hh ≤ m) (h3 : m ≤ len) (h4 : mx.isSome = true → hi.isSome = true) (hc : len ≤ cap) :
    (Instr.sliceBounds true len cap vl vh vm).run P w = .ok (l, hh, if mx.isSome then m else cap) w := by
  have hl : (vl = none ∧ l = 0) ∨ ∃ k, vl = some (.int k l) := by
    cases lo with
    | none => left; simp only [boundOr, Option.some.injEq] at bl; exact ⟨nlo rfl, bl.symm⟩
    | some y => right; obtain ⟨u, rfl, hu⟩ := hlo y rfl; obtain ⟨k, rfl⟩ := bound_int hu bl; exact ⟨k, rfl⟩
  have hh' : (hi = none ∧ vh = none ∧ hh = len) ∨ (hi.isSome = true ∧ ∃ k, vh = some (.int k hh)) := by
    cases hi with
    | none => left; simp only [boundOr, Option.some.injEq] at bh; exact ⟨rfl, nhi rfl, bh.symm⟩
    | some y => right; obtain ⟨u, rfl, hu⟩ := hhi y rfl; obtain ⟨k, rfl⟩ := bound_int hu bh; exact ⟨rfl, k, rfl⟩
  have hm' : (mx = none ∧ vm = none) ∨ (mx.isSome = true ∧ ∃ k, vm = some (.int k m)) := by
    cases mx with
    | none => left; exact ⟨rfl, nmx rfl⟩
    | some y => right; obtain ⟨u, rfl, hu⟩ := hmx y rfl; obtain ⟨k, rfl⟩ := bound_int hu bm; exact ⟨rfl, k, rfl⟩
  clear hlo nlo hhi nhi hmx nmx bl bh bm
  unfold Instr.sliceBounds
  rcases hm' with ⟨rfl, rfl⟩ | ⟨hms, km, rfl⟩
  · rcases hh' with ⟨rfl, rfl, rfl⟩ | ⟨hhs, kh, rfl⟩
    · rcases hl with ⟨rfl, rfl⟩ | ⟨kl, rfl⟩
      · simp [Sem.run_bind]
      · simp [Sem.run_bind, run_sliceBound, h1]
    · rcases hl with ⟨rfl, rfl⟩ | ⟨kl, rfl⟩
      · simp [Sem.run_bind, run_sliceBound, show hh ≤ cap by omega]
      · simp [Sem.run_bind, run_sliceBound, show hh ≤ cap by omega, h1]
  · rcases hh' with ⟨rfl, rfl, rfl⟩ | ⟨hhs, kh, rfl⟩
    · exact absurd (h4 hms) (by simp)
    · rcases hl with ⟨rfl, rfl⟩ | ⟨kl, rfl⟩
      · simp [Sem.run_bind, run_sliceBound, show m ≤ cap by omega, h2, hms]
      · simp [Sem.run_bind, run_sliceBound, show m ≤ cap by omega, h2, hms, h1]
theorem slice_sound {ty e : TypeId} {n : Nat} {x a : AV} {v : Value} {lo hi mx : Option AV} {vl vh vm : Option Value} (he : elemOf P ty = some e) (hs : szOf P e = some n) (hx : VR μ h x v)
    (hlo : ∀ y, lo = some y → ∃ u, vl = some u ∧ VR μ h y u) (nlo : lo = none → vl = none)
    (hhi : ∀ y, hi = some y → ∃ u, vh = some u ∧ VR μ h y u) (nhi : hi = none → vh = none) (hmx : ∀ y, mx = some y → ∃ u, vm = some u ∧ VR μ h y u) (nmx : mx = none → vm = none)
    (hk : sliceK n x lo hi mx some = some a) : ∃ u, (Instr.sliceAt ty v vl vh vm).run P w = .ok u w ∧ VR μ h a u := by
  unfold sliceK at hk
  split at hk <;> try (simp at hk; done)
  case h_2 sz nil es =>
    split at hk <;> try (simp at hk; done)
    rename_i m hh l bm bh bl
    split at hk <;> try (simp at hk; done)
    rename_i hc
    obtain ⟨rfl, h1, h2, h3, h4⟩ := hc
    simp only [Option.some.injEq] at hk
    subst hk
    simp only [VR] at hx
    obtain ⟨A, c, rfl, hlc, hcm, hn, hA, hsz, hq⟩ := hx
    have hu := elemOf_under he
    have hb := run_bounds (P := P) (w := w) hlo nlo hhi nhi hmx nmx bl bh bm h1 h2 h3 h4 hlc
    obtain ⟨M, hM⟩ : ∃ M, M = (if mx.isSome then m else c) := ⟨_, rfl⟩
    rw [← hM] at hb
    have hmM : m ≤ M := by rw [hM]; split <;> omega
    have hMc : M ≤ c := by rw [hM]; split <;> omega
    have hl : ((es.drop l).take (hh - l)).length = hh - l := by simp; omega
    refine ⟨.slice (if M = l then A else A.map (·.add (l * sz))) (hh - l) (M - l), ?_, ?_⟩
    · simp [Instr.sliceAt, Instr.slice, Sem.run_bind, run_underlying hu, hb, run_sizeOf' hs]
    · simp only [VR]
      refine ⟨_, _, by rw [hl], by rw [hl]; omega, by omega, by rw [hn]; split <;> simp, fun hn0 => ?_, fun e he => hsz e (List.mem_of_mem_drop (List.mem_of_mem_take he)), fun hp => ?_⟩
      · have : A = none := by
          split at hn0
          · exact hn0
          · simpa using hn0
        have := hA this
        omega
      · rw [hl] at hp
        obtain ⟨blk, o, vs, rfl, him, hf, hcell⟩ := hq (by omega)
        obtain ⟨us, g1, g2⟩ := VRf.drop l hf (fun e he => (hsz e he).1) (by omega)
        obtain ⟨us', g3, g4⟩ := VRf.take (hh - l) g1
        refine ⟨blk, o + l * sz, us', by rw [if_neg (by omega), Option.map_some, Addr.add_mid], him, g3, fun j u hu => ?_⟩
        rw [Nat.add_assoc]
        exact hcell _ u (g2 _ _ (g4 _ _ hu))
  rename_i sz id off len fr full
  split at hk <;> try (simp at hk; done)
  rename_i m hh l bm bh bl
  split at hk <;> try (simp at hk; done)
  rename_i hc
  obtain ⟨rfl, h1, h2, h3, h4⟩ := hc
  simp only [Option.some.injEq] at hk
  subst hk
  simp only [VR] at hx
  obtain ⟨A, c, rfl, hlc, hA, hf, es, own, nil, ho, hfr, hq⟩ := hx
  have hu := elemOf_under he
  have hb := run_bounds (P := P) (w := w) hlo nlo hhi nhi hmx nmx bl bh bm h1 h2 h3 h4 hlc
  obtain ⟨M, hM⟩ : ∃ M, M = (if mx.isSome then m else c) := ⟨_, rfl⟩
  rw [← hM] at hb
  have hmM : m ≤ M := by rw [hM]; split <;> omega
  have hMc : M ≤ c := by rw [hM]; split <;> omega
  refine ⟨.slice (if M = l then A else A.map (·.add (l * sz))) (hh - l) (M - l), ?_, ?_⟩
  · simp [Instr.sliceAt, Instr.slice, Sem.run_bind, run_underlying hu, hb, run_sizeOf' hs]
  · simp only [VR]
    refine ⟨_, _, rfl, by omega, ?_, ?_, es, own, nil, ho, hfr, fun e => ?_⟩
    · intro hp
      have := hA (by omega)
      obtain ⟨ad, rfl⟩ := Option.isSome_iff_exists.1 this
      split <;> rfl
    · intro hfl
      rcases Bool.or_eq_true_iff.1 hfl with hfl | hfl
      · obtain ⟨a1, a2⟩ := Bool.and_eq_true_iff.1 hfl
        rw [hM, if_pos a1]
        have : m = hh := by simpa using a2
        omega
      · obtain ⟨a1, a2⟩ := Bool.and_eq_true_iff.1 hfl
        obtain ⟨a3, a4⟩ := Bool.and_eq_true_iff.1 a1
        have e1 : mx.isSome = false := by cases mx <;> simp_all
        rw [hM, e1]
        have := hf a4
        have : hh = len := by simpa using a2
        simp
        omega
    · have := hq e
      unfold SlOk at this ⊢
      split at this
      · rename_i blk o cap hmu
        obtain ⟨a', rfl, hcap, hne⟩ := this
        by_cases hz : M = l
        · exact ⟨a', by simp [hz], by omega, fun hne' => absurd (by omega) hne'⟩
        · refine ⟨a'.add (l * sz), by simp [hz], by omega, fun _ => ?_⟩
          rw [hne (by omega), Addr.add_mid]
          congr 1
          rw [Nat.add_mul]
          omega
      · rename_i A' hmu
        obtain ⟨rfl, hc0, ho0⟩ := this
        have : M = l := by omega
        exact ⟨by simp [this], by omega, by omega⟩
end Go.AM

/- Plain lemmas of our own, no statement of the seat: maps with keys of ints, or of structs of ints. -/
import Derived.Test.YtcjdbfnnbejmeaaGreatVcD
import Derived.MapKept
import Derived.Maps.RangeRun
import Derived.WideKeyRuns
namespace Go.Proofs.YtcjdbfnnbejmeaaGreat.Vc
set_option linter.unusedSimpArgs false
set_option linter.unusedVariables false
open Go.RowKit
section
variable {P : Program}
theorem cells0 : ∀ (ks : List Nat) (us vs : List Value) (t : Bool), (ks.all fun k => k == 0) = true → eqCells ks us vs = some t → (∀ u ∈ us, ∃ i n, u = .int i n) ∧ (t = true → us = vs)
  | [], [], [], t, _, h => by simp
  | [], [], _ :: _, t, _, h => by simp [eqCells] at h
  | [], _ :: _, _, t, _, h => by simp [eqCells] at h
  | k :: ks, us, vs, t, hk, h => by
    simp only [List.all_cons, Bool.and_eq_true, beq_iff_eq] at hk
    obtain ⟨rfl, hk⟩ := hk
    cases us with
    | nil => simp [eqCells] at h
    | cons u us =>
    cases vs with
    | nil => cases u <;> simp [eqCells] at h
    | cons v vs =>
    cases u <;> cases v <;> simp only [eqCells, reduceCtorEq] at h
    rename_i i a j b
    split at h
    · rename_i hij
      subst hij
      obtain ⟨t', ht', rfl⟩ := Option.map_eq_some_iff.1 h
      obtain ⟨h1, h2⟩ := cells0 ks us vs t' hk ht'
      refine ⟨fun u hu => ?_, fun ht => ?_⟩
      · rcases List.mem_cons.1 hu with rfl | hu
        · exact ⟨_, _, rfl⟩
        · exact h1 u hu
      · simp only [Bool.and_eq_true, decide_eq_true_eq] at ht
        rw [ht.1, h2 ht.2]
    · cases h
theorem keyKinds_none {kt : TypeId} (h : keyKinds P kt = some none) : ∃ kd, P.underlying kt = some (.int kd) := by
  unfold keyKinds at h
  split at h
  · rename_i kd hu; exact ⟨kd, hu⟩
  · split at h
    · split at h
      · split at h <;> simp at h
      · cases h
    · cases h
  · cases h
theorem keyKinds_some {kt : TypeId} {ks : List Nat} (h : keyKinds P kt = some (some ks)) : ∃ fs, P.underlying kt = some (.struct fs) ∧ P.stoodInHeld kt = false ∧ eqKinds P 0 fs.toList = some ks ∧ (ks.all fun k => k == 0) = true := by
  unfold keyKinds at h
  split at h
  · simp at h
  · rename_i fs hu
    split at h
    · rename_i hs
      split at h
      · rename_i ks' hk
        split at h
        · rename_i ha
          simp only [Option.some.injEq] at h
          subst h
          exact ⟨fs, hu, hs, hk, ha⟩
        · cases h
      · cases h
    · cases h
  · cases h
theorem mEq_equal (w : World) {kt : TypeId} {ks : List Nat} (h : keyKinds P kt = some (some ks)) {a b : Value} {t : Bool} (he : mEq (some ks) a b = some t) : (Op.equal kt a b).run P w = .ok t w := by
  obtain ⟨fs, hu, hs, hk, _⟩ := keyKinds_some h
  cases a <;> cases b <;> simp only [mEq, reduceCtorEq] at he
  rename_i us vs
  have hfo : P.underlying kt = some (.struct (P.fieldsOf kt)) := by simp [Program.fieldsOf, hu]
  have hff : P.fieldsOf kt = fs := by simp [Program.fieldsOf, hu]
  have hr := eqFields_run w fs.toList 0 9998 ks us.toList vs.toList [] [] t hk he rfl rfl
  simp only [List.nil_append, Array.toArray_toList] at hr
  have h1 := run_equalIn_struct w 9999 kt us vs hfo hs
  rw [hff, hr] at h1
  exact h1
theorem mEq_stays (w : World) {kt : TypeId} {ks : Option (List Nat)} (h : keyKinds P kt = some ks) {a b : Value} (he : mEq ks a b = some true) : (Instr.keyThatStays b a).run P w = .ok a w := by
  have hb : Instr.sameBits 10000 b a = true := by
    cases ks with
    | none =>
      cases a <;> cases b <;> simp only [mEq, reduceCtorEq] at he
      split at he
      · rename_i hij
        simp only [Option.some.injEq, decide_eq_true_eq] at he
        subst hij he
        simp [Instr.sameBits]
      · cases he
    | some ks =>
      obtain ⟨_, _, _, _, ha⟩ := keyKinds_some h
      cases a <;> cases b <;> simp only [mEq, reduceCtorEq] at he
      rename_i us vs
      obtain ⟨h1, h2⟩ := cells0 ks us.toList vs.toList true ha he
      have : us = vs := Array.ext' (h2 rfl)
      subst this
      simp only [Instr.sameBits, beq_self_eq_true, Bool.true_and, List.all_eq_true]
      rintro ⟨x, y⟩ hxy
      have hxy' : x = y := by
        obtain ⟨i, hi, e⟩ := List.mem_iff_getElem.1 hxy
        simp only [List.getElem_zip, Prod.mk.injEq] at e
        exact e.1.symm.trans e.2
      subst hxy'
      obtain ⟨i, n, rfl⟩ := h1 x (List.of_mem_zip hxy).1
      simp [Instr.sameBits]
  unfold Instr.keyThatStays
  rw [if_pos hb]
  rfl
theorem checkKey_run (w : World) (em : Bool) {kt : TypeId} {ks : Option (List Nat)} (h : keyKinds P kt = some ks) {a : Value} {t : Bool} (he : mEq ks a a = some t) : (Instr.checkKey em 10000 kt a).run P w = .ok () w := by
  cases ks with
  | none =>
    obtain ⟨kd, hu⟩ := keyKinds_none h
    cases a <;> simp only [mEq, reduceCtorEq] at he
    rw [show (10000 : Nat) = 9999 + 1 from rfl, Instr.checkKey]
    simp [run_underlying hu]
  | some ks =>
    obtain ⟨fs, hu, hs, hk, ha⟩ := keyKinds_some h
    cases a <;> simp only [mEq, reduceCtorEq] at he
    rename_i us
    rw [show (10000 : Nat) = 9999 + 1 from rfl, Instr.checkKey]
    simp only [Sem.run_bind, run_underlying hu, Result.andThen_ok]
    rw [← Array.forIn_toList]
    have key : ∀ (L : List Field) (i : Nat) (ks : List Nat) (rest pre : List Value) (t : Bool), eqKinds P i L = some ks → eqCells ks rest rest = some t → pre.length = i → us.toList = pre ++ rest →
        (forIn L () (fun f (_ : Unit) => do
          if f.name ≠ "_" then
            Instr.checkKey em 9999 f.type (← part f.type us f.offset)
            pure (ForInStep.yield ())
          else pure (ForInStep.yield ())) : Sem Unit).run P w = .ok () w := by
      intro L
      induction L with
      | nil => intro i ks rest pre t _ _ _ _; simp
      | cons f L ih =>
        intro i ks rest pre t hk he hp hus
        simp only [eqKinds] at hk
        split at hk
        · rename_i hf
          obtain ⟨hoff, hname⟩ := hf
          have hname' : f.name ≠ "_" := by simpa using hname
          have step : ∀ (v : Value) (vs : List Value) (ks' : List Nat) (t' : Bool), rest = v :: vs → eqKinds P (i + 1) L = some ks' → eqCells ks' vs vs = some t' → (∀ d, P.underlying f.type = some d → aggDesc d = false ∧ ∀ n, (Instr.checkKey em (n + 1) f.type v).run P w = .ok () w) → (∃ d, P.underlying f.type = some d) →
              (forIn (f :: L) () (fun f (_ : Unit) => do
                if f.name ≠ "_" then
                  Instr.checkKey em 9999 f.type (← part f.type us f.offset)
                  pure (ForInStep.yield ())
                else pure (ForInStep.yield ())) : Sem Unit).run P w = .ok () w := by
            intro v vs ks' t' hr hk' he' hd ⟨d, hu'⟩
            subst hr
            obtain ⟨hag, hck⟩ := hd d hu'
            have hget : us[f.offset]? = some v := by
              rw [← Array.getElem?_toList, hus, hoff, ← hp]
              simp
            have hpart : (part f.type us f.offset).run P w = .ok v w := by
              simp [part, run_isAgg' hu', hag, hget]
            simp only [List.forIn_cons, Sem.run_bind, hname', ne_eq, not_false_eq_true, if_true, Result.andThen_ok, hpart, hck 9998, Sem.run_pure]
            exact ih (i + 1) ks' vs (pre ++ [v]) t' hk' he' (by simp [hp]) (by rw [hus]; simp)
          split at hk
          · rename_i kd ks' hu' hks
            simp only [Option.some.injEq] at hk
            subst hk
            cases rest with
            | nil => simp [eqCells] at he
            | cons v vs =>
              cases v <;> simp only [eqCells, reduceCtorEq, if_true] at he
              obtain ⟨t', ht', _⟩ := Option.map_eq_some_iff.1 he
              exact step _ vs ks' t' rfl hks ht' (fun d hd => by rw [hu'] at hd; simp only [Option.some.injEq] at hd; subst hd; exact ⟨rfl, fun n => by simp [Instr.checkKey, run_underlying hu']⟩) ⟨_, hu'⟩
          · rename_i ks' hu' hks
            simp only [Option.some.injEq] at hk
            subst hk
            cases rest with
            | nil => simp [eqCells] at he
            | cons v vs =>
              cases v <;> simp only [eqCells, reduceCtorEq] at he
              obtain ⟨t', ht', _⟩ := Option.map_eq_some_iff.1 he
              exact step _ vs ks' t' rfl hks ht' (fun d hd => by rw [hu'] at hd; simp only [Option.some.injEq] at hd; subst hd; exact ⟨rfl, fun n => by simp [Instr.checkKey, run_underlying hu']⟩) ⟨_, hu'⟩
          · rename_i ks' hu' hks
            simp only [Option.some.injEq] at hk
            subst hk
            cases rest with
            | nil => simp [eqCells] at he
            | cons v vs =>
              cases v <;> simp only [eqCells, reduceCtorEq] at he
              obtain ⟨t', ht', _⟩ := Option.map_eq_some_iff.1 he
              exact step _ vs ks' t' rfl hks ht' (fun d hd => by rw [hu'] at hd; simp only [Option.some.injEq] at hd; subst hd; exact ⟨rfl, fun n => by simp [Instr.checkKey, run_underlying hu']⟩) ⟨_, hu'⟩
          · cases hk
        · cases hk
    rw [key fs.toList 0 ks us.toList [] t hk he rfl rfl]
    rfl
theorem mfind_now {kd : IntKind} (a : Value) : ∀ (es : List MapEntry) (i : Nat) (r : Option (Nat × Value)), mfind none a es i = some r → Instr.findNow (.int kd) a es i = some r
  | [], i, r, h => by simpa [mfind, Instr.findNow] using h
  | e :: es, i, r, h => by
    have ih := mfind_now (kd := kd) a es (i + 1) r
    simp only [mfind] at h
    unfold Instr.findNow
    have hs : ∀ t, mEq none a e.key = some t → Instr.sameNow (.int kd) a e.key = some t := fun t ht => by
      cases a <;> cases hk : e.key <;> rw [hk] at ht <;> simp only [mEq, reduceCtorEq] at ht
      rename_i j x k y
      simp only [Instr.sameNow]
      split at ht
      · rename_i hjk
        rw [if_pos hjk, beq_int]; exact ht
      · cases ht
    split at h
    · rename_i ht
      rw [hs _ ht]; exact h
    · rename_i ht
      rw [hs _ ht]; exact ih h
    · cases h
theorem mfind_ask (w : World) {kt : TypeId} {ks : List Nat} (hk : keyKinds P kt = some (some ks)) (a : Value) : ∀ (es : List MapEntry) (i : Nat) (r : Option (Nat × Value)), mfind (some ks) a es i = some r → (Instr.findAsking kt a es i).run P w = .ok r w
  | [], i, r, h => by
    simp only [mfind, Option.some.injEq] at h
    subst h
    simp [Instr.findAsking]
  | e :: es, i, r, h => by
    have ih := mfind_ask w hk a es (i + 1) r
    simp only [mfind] at h
    split at h
    · rename_i ht
      simp only [Option.some.injEq] at h
      subst h
      simp [Instr.findAsking, mEq_equal w hk ht]
    · rename_i ht
      simp [Instr.findAsking, mEq_equal w hk ht, ih h]
    · cases h
theorem mfind_run (w : World) {kt : TypeId} {ks : Option (List Nat)} (hk : keyKinds P kt = some ks) (a : Value) (es : List MapEntry) (r : Option (Nat × Value)) (h : mfind ks a es 0 = some r) : (Instr.findKey kt a es).run P w = .ok r w := by
  cases ks with
  | none =>
    obtain ⟨kd, hu⟩ := keyKinds_none hk
    exact MapKept.run_findKey hu (mfind_now a es 0 r h)
  | some ks =>
    obtain ⟨fs, hu, _⟩ := keyKinds_some hk
    rw [run_findKey_eq w (by simp [hu])]
    exact mfind_ask w hk a es 0 r h
theorem mfind_get {ks : Option (List Nat)} {a : Value} : ∀ (es : List MapEntry) (i j : Nat) (v : Value), mfind ks a es i = some (some (j, v)) → ∃ e, es[j - i]? = some e ∧ i ≤ j ∧ e.val = v ∧ mEq ks a e.key = some true
  | [], i, j, v, h => by simp [mfind] at h
  | e :: es, i, j, v, h => by
    simp only [mfind] at h
    split at h
    · rename_i ht
      simp only [Option.some.injEq, Prod.mk.injEq] at h
      obtain ⟨rfl, rfl⟩ := h
      exact ⟨e, by simp, Nat.le_refl _, rfl, ht⟩
    · obtain ⟨e', h1, h2, h3, h4⟩ := mfind_get es (i + 1) j v h
      refine ⟨e', ?_, by omega, h3, h4⟩
      rw [show j - i = (j - (i + 1)) + 1 by omega]
      simpa using h1
    · cases h
theorem run_getObj_map {w : World} {r : Nat} {es : Array MapEntry} {clock : Nat} (hb : w.heap[r]? = some (.map es clock)) : (getObj r).run P w = .ok (.map es clock) w := by
  simp [getObj, Sem.run, hb]
theorem run_lookup' (w : World) {t kt et : TypeId} {inf : TypeInfo} {z : Value} {ks : Option (List Nat)} (ht : P.underlying t = some (.map kt et)) (hk : keyKinds P kt = some ks) (hi : P.info? et = some inf) (hz : inf.zero = some z) {b clock : Nat} {es : List MapEntry} {a : Value} {r : Option (Nat × Value)}
    (hb : w.heap[b]? = some (.map es.toArray clock)) (ha : mEq ks a a = some true) (hr : mfind ks a es 0 = some r) (ok : Bool) : (Instr.lookup t (.map (some b)) a ok).run P w = .ok (mres z ok r) w := by
  have hzr : (zeroValue et).run P w = .ok z w := by simp [zeroValue, run_typeInfo' hi, hz]
  simp only [Instr.lookup, Sem.run_bind, run_underlying ht, Result.andThen_ok, run_getObj_map hb, Sem.run_pure, checkKey_run w _ hk ha, mfind_run w hk a es r hr]
  cases r with
  | none => cases ok <;> simp [hzr, mres]
  | some iv => obtain ⟨i, v⟩ := iv; cases ok <;> simp [mres]
theorem run_mapUpdate' (w : World) {t kt et : TypeId} {ks : Option (List Nat)} (ht : P.underlying t = some (.map kt et)) (hk : keyKinds P kt = some ks) {b clock : Nat} {es : List MapEntry} {a v : Value} {r : Option (Nat × Value)}
    (hb : w.heap[b]? = some (.map es.toArray clock)) (ha : mEq ks a a = some true) (hr : mfind ks a es 0 = some r) :
    ∃ es' clock', mset a v es clock r = .mp es' clock' ∧ (Instr.mapUpdate t (.map (some b)) a v).run P w = .ok () { w with heap := w.heap.setIfInBounds b (.map es'.toArray clock') } := by
  cases r with
  | none =>
    refine ⟨_, _, rfl, ?_⟩
    simp only [Instr.mapUpdate, Sem.run_bind, run_underlying ht, Result.andThen_ok, run_getObj_map hb, checkKey_run w _ hk ha, mfind_run w hk a es none hr, MapKept.run_setObj_map _ hb]
    simp
  | some iv =>
    obtain ⟨i, u⟩ := iv
    obtain ⟨e, he, _, _, hq⟩ := mfind_get es 0 i u hr
    simp only [Nat.sub_zero] at he
    refine ⟨_, _, rfl, ?_⟩
    have hst : (Instr.keyThatStays (((es.toArray[i]?).map (·.key)).getD a) a).run P w = .ok a w := by
      have : ((es.toArray[i]?).map (·.key)).getD a = e.key := by simp [he]
      rw [this]
      exact mEq_stays w hk hq
    simp only [Instr.mapUpdate, Sem.run_bind, run_underlying ht, Result.andThen_ok, run_getObj_map hb, checkKey_run w _ hk ha, mfind_run w hk a es _ hr, hst, MapKept.run_setObj_map _ hb]
    simp
theorem run_delete' (w : World) {t kt et t' ty : TypeId} {ks : Option (List Nat)} (ht : P.underlying t = some (.map kt et)) (hk : keyKinds P kt = some ks) {b clock : Nat} {es : List MapEntry} {a : Value} {r : Option (Nat × Value)}
    (hb : w.heap[b]? = some (.map es.toArray clock)) (ha : mEq ks a a = some true) (hr : mfind ks a es 0 = some r) :
    ∃ es' clock', mdrop es clock r = .mp es' clock' ∧ (Builtin.delete_ #[t, t'] ty #[.map (some b), a]).run P w = .ok (.tuple #[]) { w with heap := w.heap.setIfInBounds b (.map es'.toArray clock') } := by
  cases r with
  | none =>
    refine ⟨_, _, rfl, ?_⟩
    simp only [Builtin.delete_, Sem.run_bind, run_underlying ht, Result.andThen_ok, run_getObj_map hb, checkKey_run w _ hk ha, mfind_run w hk a es none hr, MapKept.run_setObj_map _ hb, List.getElem?_toArray, List.getElem?_cons_zero, List.getElem?_cons_succ]
    simp
  | some iv =>
    obtain ⟨i, u⟩ := iv
    obtain ⟨e, he, _, _, hq⟩ := mfind_get es 0 i u hr
    simp only [Nat.sub_zero] at he
    refine ⟨_, _, rfl, ?_⟩
    have hi : i < es.length := (List.getElem?_eq_some_iff.1 he).1
    have her : es.toArray.eraseIdxIfInBounds i = (es.eraseIdx i).toArray := by simp [Array.eraseIdxIfInBounds, hi]
    simp only [Builtin.delete_, Sem.run_bind, run_underlying ht, Result.andThen_ok, run_getObj_map hb, checkKey_run w _ hk ha, mfind_run w hk a es _ hr, MapKept.run_setObj_map _ hb, List.getElem?_toArray, List.getElem?_cons_zero, List.getElem?_cons_succ, her]
    simp
end
end Go.Proofs.YtcjdbfnnbejmeaaGreat.Vc

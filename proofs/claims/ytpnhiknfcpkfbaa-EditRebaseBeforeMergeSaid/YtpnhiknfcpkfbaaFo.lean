import Derived.Test.YtpnhiknfcpkfbaaFi
import Derived.Test.YtpnhiknfcpkfbaaFj
import Derived.Test.YtpnhiknfcpkfbaaFh
namespace Go.Proofs.Ytpnhiknfcpkfbaa
set_option linter.unusedSimpArgs false
set_option linter.unusedVariables false
open Go.Proofs.Ytpnhiknfcpkfbaa.Vc
/-! ### Parts of slices -/
theorem SlK.sub {R : RO} {a : Option Addr} {cap k : Nat} {xs : List (List Value)} (h : SlK R (.slice a xs.length cap) k xs) {l u : Nat} (hl : l ≤ u) (hu : u ≤ xs.length) : SlK R (.slice (if cap = l then a else a.map (·.add (l * k))) (u - l) (cap - l)) k ((xs.take u).drop l) := by
  obtain ⟨a', cap', e, hc, hf⟩ := h
  simp only [Value.slice.injEq] at e
  obtain ⟨rfl, _, rfl⟩ := e
  have hlen : ((xs.take u).drop l).length = u - l := by simp; omega
  refine ⟨_, _, by rw [hlen], by omega, fun i us hi => ?_⟩
  have hil : i < u - l := by rw [← hlen]; exact (List.getElem?_eq_some_iff.1 hi).1
  rw [List.getElem?_drop, List.getElem?_take_of_lt (by omega)] at hi
  obtain ⟨h1, ad, rfl, hR⟩ := hf (l + i) us hi
  refine ⟨h1, ad.add (l * k), by rw [if_neg (by omega)]; rfl, fun j v hj => ?_⟩
  have := hR j v hj
  rw [add_add] at this ⊢
  rw [add_add]
  rw [show l * k + (i * k + j) = (l + i) * k + j by rw [Nat.add_mul]; omega]
  exact this
theorem EdsV.sub {R : RO} {a : Option Addr} {cap : Nat} {ds : List De} (h : EdsV R (.slice a ds.length cap) ds) {l u : Nat} (hl : l ≤ u) (hu : u ≤ ds.length) : EdsV R (.slice (if cap = l then a else a.map (·.add (l * 13))) (u - l) (cap - l)) ((ds.take u).drop l) := by
  obtain ⟨cs, h1, h2, h3, h4⟩ := h
  rw [← h2] at h1
  refine ⟨_, SlK.sub h1 hl (by omega), by simp; omega, fun i c d hc hd => ?_, by simp; omega⟩
  have hil : i < u - l := by
    have := (List.getElem?_eq_some_iff.1 hd).1
    simp at this; omega
  rw [List.getElem?_drop, List.getElem?_take_of_lt (by omega)] at hc hd
  exact h3 _ c d hc hd
def rowC (es : List Ed) : List Value := (es.map Ed.cells).flatten
theorem rowC_cl (es : List Ed) : ∀ c ∈ es.map Ed.cells, c.length = 13 := fun c hc => by obtain ⟨x, _, rfl⟩ := List.mem_map.1 hc; rfl
theorem rowC_len (es : List Ed) : (rowC es).length = es.length * 13 := by
  unfold rowC
  rw [length_flattenK (rowC_cl es)]
  simp
theorem EdC.src {R : RO} {a : Option Addr} {cap : Nat} {es : List Ed} (h : EdC R (.slice a es.length cap) es) {u : Nat} (hu : u ≤ es.length) {kk : List Value → Prop} {t : Tok kk} (hk : kk (rowC (es.take u))) : SrcP R 13 (if cap = 0 then a else a.map (·.add (0 * 13))) (u - 0) kk t := by
  have h' : SlK R (.slice a (es.map Ed.cells).length cap) 13 (es.map Ed.cells) := by rw [List.length_map]; exact h
  have h1 := SlK.sub h' (l := 0) (u := u) (Nat.zero_le _) (by simpa using hu)
  rw [List.drop_zero, ← List.map_take] at h1
  obtain ⟨a', cap', e, _, hf⟩ := SlK.form h1
  simp only [Value.slice.injEq] at e
  obtain ⟨e1, _, _⟩ := e
  rw [e1]
  refine vsrc (rowC (es.take u)) (by rw [rowC_len]; simp; omega) (fun v hv => ?_) (fun hne => ?_) hk
  · obtain ⟨c, hc, hv'⟩ := List.mem_flatten.1 hv
    obtain ⟨x, _, rfl⟩ := List.mem_map.1 hc
    exact edcells_one _ v hv'
  · have hl : 0 < (es.take u).length := by
      have h1 := rowC_len (es.take u)
      have h2 := List.length_pos_iff.2 hne
      omega
    obtain ⟨_, ad, ha, _⟩ := hf 0 (by simpa using hl)
    refine ⟨ad, ha, fun i v hi => ?_⟩
    obtain ⟨us, hus, hv⟩ := flat_get (k := 13) (rowC_cl _) (by omega) hi
    obtain ⟨hlt, rfl⟩ := List.getElem?_eq_some_iff.1 hus
    obtain ⟨_, ad', ha', hR⟩ := hf _ hlt
    rw [ha] at ha'
    simp only [Option.some.injEq] at ha'
    subst ha'
    have := hR _ _ hv
    rw [add_add, Nat.mul_comm, Nat.div_add_mod] at this
    exact this
theorem EdsV.src {R : RO} {v : Value} {ds : List De} (h : EdsV R v ds) : ∃ (a : Option Addr) (cap : Nat) (ps : List Pl), v = .slice a ds.length cap ∧ ps.map (·.1) = ds ∧ (∀ p ∈ ps, PlOK R p) ∧ ∀ {kk : List Value → Prop} {t : Tok kk}, kk (rowP ps) → SrcP R 13 a ds.length kk t := by
  obtain ⟨a, cap, ps, rfl, _, h1, h2, h3⟩ := h.pls
  refine ⟨a, cap, ps, rfl, h1, h2, fun hk => vsrc (rowP ps) (by rw [rowP_len, ← h1]; simp) (fun u hu => ?_) h3 hk⟩
  unfold rowP at hu
  obtain ⟨c, hc, hu'⟩ := List.mem_flatten.1 hu
  obtain ⟨q, _, rfl⟩ := List.mem_map.1 hc
  exact edcells_one _ u hu'
/-! ### Rebasing before merging: plain facts -/
theorem force_idem {o : List De} : forceD (forceD o) = forceD o := by
  unfold forceD
  rw [List.filter_eq_self]
  intro d hd
  have := (mem_forceD (o := o)).1 hd
  simp only [Bool.not_eq_true', List.any_eq_false]
  intro x hx
  have hx' := (List.mem_filter.1 hx).1
  rw [this.2 x hx']; simp
theorem recs_force {o : List De} : recsD (forceD o) = [] := by
  unfold recsD
  rw [List.filterMap_eq_nil_iff]
  intro d hd
  have h1 := (mem_forceD (o := o)).1 hd
  rw [Option.map_eq_none_iff, List.find?_eq_none]
  intro x hx
  rw [h1.2 x (mem_forceD.1 hx).1]; simp
/-- The edits in force lead to the same as the whole list. -/
theorem force_before {A B o oA o' : List De} (hA : ∀ d, d ∈ oA ↔ d ∈ A) (ho : SortedD o) (hm : ∀ d, d ∈ o ↔ d ∈ A ∨ d ∈ B) (ho' : SortedD o') (hm' : ∀ d, d ∈ o' ↔ d ∈ forceD oA ∨ d ∈ B) : forceD o = forceD o' := by
  refine SortedD.ext (forceD_sorted ho) (forceD_sorted ho') fun d => ?_
  rw [mem_forceD, mem_forceD]
  constructor
  · rintro ⟨h1, h2⟩
    refine ⟨(hm' d).2 ?_, fun b hb => h2 b ?_⟩
    · rcases (hm d).1 h1 with h | h
      · exact .inl (mem_forceD.2 ⟨(hA d).2 h, fun b hb => h2 b ((hm b).2 (.inl ((hA b).1 hb)))⟩)
      · exact .inr h
    · rcases (hm' b).1 hb with h | h
      · exact (hm b).2 (.inl ((hA b).1 (mem_forceD.1 h).1))
      · exact (hm b).2 (.inr h)
  · rintro ⟨h1, h2⟩
    refine ⟨(hm d).2 ?_, fun b hb => ?_⟩
    · rcases (hm' d).1 h1 with h | h
      · exact .inl ((hA d).1 (mem_forceD.1 h).1)
      · exact .inr h
    · cases hdb : overD d b with
      | false => rfl
      | true =>
        exfalso
        rcases (hm b).1 hb with h | h
        · by_cases hf : ∃ c ∈ oA, overD b c = true
          · obtain ⟨c, hc, hbc⟩ := over_force _ b (Nat.le_refl _) hf
            have := h2 c ((hm' c).2 (.inl hc))
            rw [overD_trans hdb hbc] at this; cases this
          · have hbf : b ∈ forceD oA := mem_forceD.2 ⟨(hA b).2 h, fun c hc => by
              cases hbc : overD b c with
              | false => rfl
              | true => exact absurd ⟨c, hc, hbc⟩ hf⟩
            have := h2 b ((hm' b).2 (.inl hbf))
            rw [hdb] at this; cases this
        · have := h2 b ((hm' b).2 (.inr h))
          rw [hdb] at this; cases this
theorem Cons.sub {l l' : List De} (h : Cons l) (hs : ∀ d ∈ l', d ∈ l) : Cons l' := ⟨fun d hd => h.1 d (hs d hd), fun a ha b hb => h.2 a (hs a ha) b (hs b hb)⟩
theorem mergeP_force {s : Se} {rl : List Nd} {ms : List Mv} {o o' : List De} (h : forceD o = forceD o') : mergeP s rl ms o = mergeP s rl ms o' := by unfold mergeP; rw [h]
set_option maxHeartbeats 1000000 in
theorem lBefore (R : RO) (es : List Ed) (v : Value) (h : EdC R v es) (hl : es.length ≤ 1099511627776) (es2 : List Ed) (v2 : Value) (h2 : EdC R v2 es2) (hl2 : es2.length ≤ 1099511627776) (s : Ed) : CallsR Try.prog 6 [v, v2, s.val] R fun _ v => v = .bool true := by
  have hMs := fun R' hle => eMadeSeries s.minute es2 v2 R' (EdC.mono (R' := R') h2 hle) hl2
  have h' := h
  have h2' := h2
  obtain ⟨a, cap, rfl, hc, _⟩ := h.form
  obtain ⟨a2, cap2, rfl, hc2, _⟩ := h2.form
  simp only [Ed.val]
  refine callsT mix Try.func6 comp6 (by simp [Try.ntmps6]) ?_; simp only [go_sem, ↓reduceIte, Nat.reduceEqDiff, Nat.reduceAdd, Nat.reduceMul, Nat.reduceLeDiff, Nat.reduceLT, Nat.reduceBNe, reduceCtorEq, vc6, rs6]
  refine vcall (eSanity R) ?_
  rintro R1 v hle1 rfl
  try simp only [go_sem, ↓reduceIte, Nat.reduceEqDiff, Nat.reduceAdd, Nat.reduceMul, Nat.reduceLeDiff, Nat.reduceLT, Nat.reduceBNe, reduceCtorEq]
  have hT1 : (rowC (es.take 6)).length = min es.length 6 * 13 := by rw [rowC_len, List.length_take, Nat.min_comm]
  have hT2 : (rowC (es2.take 6)).length = min es2.length 6 * 13 := by rw [rowC_len, List.length_take, Nat.min_comm]
  have hS1 : es.take (min es.length 6) = es.take 6 := by
    rcases Nat.le_total es.length 6 with h | h
    · rw [Nat.min_eq_left h, List.take_of_length_le (Nat.le_refl _), List.take_of_length_le h]
    · rw [Nat.min_eq_right h]
  have hS2 : es2.take (min es2.length 6) = es2.take 6 := by
    rcases Nat.le_total es2.length 6 with h | h
    · rw [Nat.min_eq_left h, List.take_of_length_le (Nat.le_refl _), List.take_of_length_le h]
    · rw [Nat.min_eq_right h]
  refine ⟨0, min es.length 6, rfl, by omega, Nat.zero_le _, by omega, ?_⟩
  refine EdC.src (h'.mono hle1) (by omega) ?_
  rw [hS1]
  try simp only [go_sem, ↓reduceIte, Nat.reduceEqDiff, Nat.reduceAdd, Nat.reduceMul, Nat.reduceLeDiff, Nat.reduceLT, Nat.reduceBNe, reduceCtorEq, Nat.sub_zero]
  refine vappO [] rfl rfl (by omega) ?_
  try simp only [go_sem, ↓reduceIte, Nat.reduceEqDiff, Nat.reduceAdd, Nat.reduceMul, Nat.reduceLeDiff, Nat.reduceLT, Nat.reduceBNe, reduceCtorEq]
  refine ⟨0, min es2.length 6, rfl, by omega, Nat.zero_le _, by omega, ?_⟩
  refine EdC.src (h2'.mono hle1) (by omega) ?_
  rw [hS2]
  try simp only [go_sem, ↓reduceIte, Nat.reduceEqDiff, Nat.reduceAdd, Nat.reduceMul, Nat.reduceLeDiff, Nat.reduceLT, Nat.reduceBNe, reduceCtorEq, Nat.sub_zero]
  refine vappO (rowC (es.take 6)) rfl (by rw [hT1]) (by omega) ?_
  try simp only [go_sem, ↓reduceIte, Nat.reduceEqDiff, Nat.reduceAdd, Nat.reduceMul, Nat.reduceLeDiff, Nat.reduceLT, Nat.reduceBNe, reduceCtorEq]
  obtain ⟨G, hG⟩ : ∃ G, G = es.take 6 ++ es2.take 6 := ⟨_, rfl⟩
  have hGl : G.length = min es.length 6 + min es2.length 6 := by rw [hG]; simp; omega
  have hGr : rowC (es.take 6) ++ rowC (es2.take 6) = rowC G := by rw [hG]; unfold rowC; simp
  rw [hGr]
  refine vfreeze ?_
  try simp only [go_sem, ↓reduceIte, Nat.reduceEqDiff, Nat.reduceAdd, Nat.reduceMul, Nat.reduceLeDiff, Nat.reduceLT, Nat.reduceBNe, reduceCtorEq]
  intro b cap3 R2 hle2 hrow hcap3 hfr
  have hGc : EdC R2 (.slice (some ⟨b, 0, none⟩) (min es.length 6 + min es2.length 6) cap3) G := by
    rw [← hGl]
    have := RowIn.slK (xs := G.map Ed.cells) (k := 13) hrow (rowC_cl G) (by omega) hcap3
    rw [List.length_map] at this
    exact this
  have hMd := eMade G _ R2 hGc (by omega)
  have hMs := fun R' hle => eMadeSeries s.minute es2 _ R' (EdC.mono (R' := R') h2' hle) hl2
  obtain ⟨xs, hxs⟩ : ∃ xs, xs = madeL G := ⟨_, rfl⟩
  have hxl := madeL_len G
  have hcons := madeL_cons G
  have hms := movesOf_ok es2
  have hml := movesOf_len es2
  obtain ⟨ms, hmse⟩ : ∃ ms, ms = movesOf es2 := ⟨_, rfl⟩
  rw [← hxs] at hMd hxl hcons
  rw [← hmse] at hMs hms hml
  refine vcall hMd ?_
  intro R3 u hle3 hx
  obtain ⟨xa, xcap, rfl, hxc, hxf⟩ := PlOK.of hx
  try simp only [go_sem, ↓reduceIte, Nat.reduceEqDiff, Nat.reduceAdd, Nat.reduceMul, Nat.reduceLeDiff, Nat.reduceLT, Nat.reduceBNe, reduceCtorEq]
  obtain ⟨n, hn⟩ : ∃ n, n = min (min es.length 6) xs.length := ⟨_, rfl⟩
  have hn1 : n ≤ xs.length := by omega
  refine vcall (hMs R3 (RO.le_trans hle1 (RO.le_trans hle2 hle3))) ?_
  rintro R4 u hle4 ⟨rv, mv, rfl, hrv, hmv⟩
  obtain ⟨ra, rn, rc, rfl⟩ := hrv.form
  obtain ⟨ma, mcap, rfl, _⟩ := hmv.form
  simp only [go_sem, ↓reduceIte, Nat.reduceEqDiff, Nat.reduceAdd, Nat.reduceMul, Nat.reduceLeDiff, Nat.reduceLT, Nat.reduceBNe, reduceCtorEq, Se.cells]
  obtain ⟨A, hA⟩ : ∃ A, A = (xs.take n).drop 0 := ⟨_, rfl⟩
  have hA' : A = xs.take n := hA
  have hAv := EdsV.sub hx (l := 0) (u := n) (Nat.zero_le _) hn1
  rw [← hA] at hAv
  have hAl : A.length = n := by rw [hA', List.length_take]; omega
  obtain ⟨oA, hA1, hA2, hA3⟩ := allD_cons (hcons.sub (l' := A) fun d hd => List.mem_of_mem_take (hA' ▸ hd)) (by omega)
  refine ⟨0, n, rfl, by omega, Nat.zero_le _, by omega, ?_⟩
  refine vcall (eRebase A _ R4 (hAv.mono hle4)) ?_
  intro R5 r hle5 hr
  unfold RebV at hr
  rw [hA1] at hr
  obtain ⟨u, w, rfl, hu, hw⟩ := hr
  obtain ⟨wa, wcap, rfl, _⟩ := hw.form
  obtain ⟨F, hF⟩ : ∃ F, F = forceD oA := ⟨_, rfl⟩
  have hFl : F.length ≤ 6 := by
    have h1 := allD_len hA1
    have h2 : (forceD oA).length ≤ oA.length := List.length_filter_le _ _
    rw [hF]; omega
  rw [← hF] at hu
  obtain ⟨fa, fcap, rfl, _⟩ := hu.form
  try simp only [go_sem, ↓reduceIte, Nat.reduceEqDiff, Nat.reduceAdd, Nat.reduceMul, Nat.reduceLeDiff, Nat.reduceLT, Nat.reduceBNe, reduceCtorEq]
  have hFc : Cons F := hcons.sub fun d hd => List.mem_of_mem_take (hA' ▸ (hA3 d).1 (mem_forceD.1 (hF ▸ hd)).1)
  have hF1 : allD F = .ok F := by
    obtain ⟨o, h1, h2, h3⟩ := allD_cons hFc (by omega)
    rw [h1, SortedD.ext h2 (hF ▸ forceD_sorted hA2) h3]
  refine vcall (eRebase F _ R5 hu) ?_
  intro R6 r hle6 hr
  unfold RebV at hr
  rw [hF1] at hr
  obtain ⟨u2, w2, rfl, hu2, hw2⟩ := hr
  rw [hF, force_idem, ← hF] at hu2
  rw [hF, recs_force] at hw2
  obtain ⟨w2a, w2cap, rfl, _⟩ := hw2.form
  obtain ⟨u2a, u2cap, rfl, _⟩ := hu2.form
  simp only [go_sem, ↓reduceIte, Nat.reduceEqDiff, Nat.reduceAdd, Nat.reduceMul, Nat.reduceLeDiff, Nat.reduceLT, Nat.reduceBNe, reduceCtorEq, Se.cells]
  obtain ⟨S, hS⟩ : ∃ S : Se, S = ⟨.slice ra rn rc, s.minute % 3, 1, zA, 0, 0, .slice ma ms.length mcap⟩ := ⟨_, rfl⟩
  have hSc : S.cells = [.slice ra rn rc, .int .i64 (s.minute % 3), .int .i64 1, .string zA, .int .i64 0, .int .i64 0, .slice ma ms.length mcap] := by rw [hS]; rfl
  have hSr : S.rule = .slice ra rn rc := by rw [hS]
  have hSm : S.moves = .slice ma ms.length mcap := by rw [hS]
  have hSl : S.length = 1 := by rw [hS]
  have hMg := fun ds v R' (hle : RO.le R4 R') (hd : EdsV R' v ds) (hdl : ds.length ≤ 18) => eMerge S (ruleN s.minute) ms ds v R' (by rw [hSr]; exact hrv.mono hle) (by rw [hSm]; exact hmv.mono hle) hd (by omega)
  rw [hSc] at hMg
  have hle46 := RO.le_trans hle5 hle6
  refine vcall (hMg xs _ R6 hle46 (hx.mono (RO.le_trans hle4 hle46)) (by omega)) ?_
  intro R7 r hle7 hr
  obtain ⟨o, ho1, ho2, ho3⟩ := allD_cons hcons (by omega)
  unfold MergeV at hr
  rw [ho1] at hr
  dsimp only at hr
  rw [if_neg (by simp [hms, hSl])] at hr
  obtain ⟨p1, q1, rfl, hp1, hq1⟩ := hr
  obtain ⟨p1a, p1c, rfl, _⟩ := hp1.form
  obtain ⟨q1a, q1c, rfl, _⟩ := hq1.form
  simp only [go_sem, ↓reduceIte, Nat.reduceEqDiff, Nat.reduceAdd, Nat.reduceMul, Nat.reduceLeDiff, Nat.reduceLT, Nat.reduceBNe, reduceCtorEq, Se.cells]
  have hle57 := RO.le_trans hle6 hle7
  obtain ⟨fa', fcap', fps, e, hfp1, hfp2, hfsrc⟩ := (hu.mono hle57).src
  simp only [Value.slice.injEq] at e
  obtain ⟨rfl, _, rfl⟩ := e
  refine hfsrc ?_
  have hfpl : fps.length = F.length := by rw [← hfp1]; simp
  simp only [go_sem, ↓reduceIte, Nat.reduceEqDiff, Nat.reduceAdd, Nat.reduceMul, Nat.reduceLeDiff, Nat.reduceLT, Nat.reduceBNe, reduceCtorEq, Se.cells]
  refine vappO [] rfl rfl (by omega) ?_
  simp only [go_sem, ↓reduceIte, Nat.reduceEqDiff, Nat.reduceAdd, Nat.reduceMul, Nat.reduceLeDiff, Nat.reduceLT, Nat.reduceBNe, reduceCtorEq, Se.cells]
  have hBv := EdsV.sub (hx.mono (RO.le_trans hle4 (RO.le_trans hle46 hle7))) (l := n) (u := xs.length) hn1 (Nat.le_refl _)
  obtain ⟨B, hB⟩ : ∃ B, B = (xs.take xs.length).drop n := ⟨_, rfl⟩
  have hB' : B = xs.drop n := by rw [hB, List.take_length]
  have hBl : B.length = xs.length - n := by rw [hB', List.length_drop]
  rw [← hB] at hBv
  obtain ⟨ba, bcap, bps, e, hbp1, hbp2, hbsrc⟩ := EdsV.src hBv
  simp only [Value.slice.injEq] at e
  obtain ⟨e1, _, _⟩ := e
  rw [hBl] at hbsrc
  rw [← e1] at hbsrc
  have hbpl : bps.length = xs.length - n := by rw [← hBl, ← hbp1]; simp
  refine ⟨n, xs.length, by omega, by omega, by omega, by omega, hbsrc ?_⟩
  simp only [go_sem, ↓reduceIte, Nat.reduceEqDiff, Nat.reduceAdd, Nat.reduceMul, Nat.reduceLeDiff, Nat.reduceLT, Nat.reduceBNe, reduceCtorEq, Se.cells]
  refine vappO (rowP fps) rfl (by rw [rowP_len, hfpl]) (by omega) ?_
  simp only [go_sem, ↓reduceIte, Nat.reduceEqDiff, Nat.reduceAdd, Nat.reduceMul, Nat.reduceLeDiff, Nat.reduceLT, Nat.reduceBNe, reduceCtorEq, Se.cells]
  have hrr : rowP fps ++ rowP bps = rowP (fps ++ bps) := by unfold rowP; simp
  rw [hrr]
  refine vfreeze ?_
  simp only [go_sem, ↓reduceIte, Nat.reduceEqDiff, Nat.reduceAdd, Nat.reduceMul, Nat.reduceLeDiff, Nat.reduceLT, Nat.reduceBNe, reduceCtorEq, Se.cells]
  intro b4 cap4 R8 hle8 hrow4 hcap4 hfr4
  have hle48 := RO.le_trans hle46 (RO.le_trans hle7 hle8)
  obtain ⟨T, hT⟩ : ∃ T, T = F ++ B := ⟨_, rfl⟩
  have hTl : T.length = F.length + (xs.length - n) := by rw [hT, List.length_append, hBl]
  have hTv : EdsV R8 (.slice (some ⟨b4, 0, none⟩) (F.length + (xs.length - n)) cap4) T := by
    have := EdsV.row (ps := fps ++ bps) hrow4 hcap4 (fun p hp => by
      rcases List.mem_append.1 hp with hp | hp
      · exact (hfp2 p hp).mono hle8
      · exact (hbp2 p hp).mono hle8) (by simp; omega)
    rw [List.map_append, hfp1, hbp1, ← hT, List.length_append, hfpl, hbpl] at this
    exact this
  refine vcall (hMg T _ R8 hle48 hTv (by omega)) ?_
  intro R9 r hle9 hr
  have hsplit : ∀ d, d ∈ xs ↔ d ∈ A ∨ d ∈ B := fun d => by rw [hA', hB', ← List.mem_append, List.take_append_drop]
  have hTc : Cons T := hcons.sub fun d hd => by
    rw [hT] at hd
    rcases List.mem_append.1 hd with h | h
    · exact (hsplit d).2 (.inl ((hA3 d).1 (mem_forceD.1 (hF ▸ h)).1))
    · exact (hsplit d).2 (.inr h)
  obtain ⟨o', hT1, hT2, hT3⟩ := allD_cons hTc (by omega)
  have hmg : mergeP S (ruleN s.minute) ms o = mergeP S (ruleN s.minute) ms o' := mergeP_force (force_before (B := B) hA3 ho2 (fun d => by rw [ho3, hsplit]) hT2 (fun d => by rw [hT3, hT, List.mem_append, hF]))
  unfold MergeV at hr
  rw [hT1] at hr
  dsimp only at hr
  rw [if_neg (by simp [hms, hSl])] at hr
  obtain ⟨p2, q2, rfl, hp2, hq2⟩ := hr
  rw [← hmg] at hp2
  obtain ⟨p2a, p2c, rfl, _⟩ := hp2.form
  obtain ⟨q2a, q2c, rfl, _⟩ := hq2.form
  simp only [go_sem, ↓reduceIte, Nat.reduceEqDiff, Nat.reduceAdd, Nat.reduceMul, Nat.reduceLeDiff, Nat.reduceLT, Nat.reduceBNe, reduceCtorEq, Se.cells]
  refine vcall (eSameList _ _ _ _ R9 (hu.mono (RO.le_trans hle57 (RO.le_trans hle8 hle9))) (hu2.mono (RO.le_trans hle7 (RO.le_trans hle8 hle9)))) ?_
  rintro R10 v hle10 rfl
  try simp only [go_sem, ↓reduceIte, Nat.reduceEqDiff, Nat.reduceAdd, Nat.reduceMul, Nat.reduceLeDiff, Nat.reduceLT, Nat.reduceBNe, reduceCtorEq, Se.cells]
  refine ⟨fun _ => ?_, fun h => absurd rfl h⟩
  refine vcall (eSameParts _ _ _ _ R10 (hp1.mono (RO.le_trans hle8 (RO.le_trans hle9 hle10))) (hp2.mono hle10)) ?_
  rintro R11 v hle11 rfl
  try simp only [go_sem, ↓reduceIte, Nat.reduceEqDiff, Nat.reduceAdd, Nat.reduceMul, Nat.reduceLeDiff, Nat.reduceLT, Nat.reduceBNe, reduceCtorEq, Se.cells]
end Go.Proofs.Ytpnhiknfcpkfbaa

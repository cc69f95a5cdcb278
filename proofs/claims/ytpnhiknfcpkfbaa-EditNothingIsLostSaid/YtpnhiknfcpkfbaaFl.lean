import Derived.Test.YtpnhiknfcpkfbaaFj
namespace Go.Proofs.Ytpnhiknfcpkfbaa
set_option linter.unusedSimpArgs false
set_option linter.unusedVariables false
open Go.Proofs.Ytpnhiknfcpkfbaa.Vc
set_option maxHeartbeats 1000000 in
theorem lNothing (R : RO) (es : List Ed) (v : Value) (h : EdC R v es) (hl : es.length ≤ 1099511627776) : CallsR Try.prog 5 [v] R fun _ v => v = .bool true := by
  have hMd := fun R' hle => eMade es v R' (EdC.mono (R' := R') h hle) hl
  obtain ⟨a, cap, rfl, hc, _⟩ := h.form
  refine callsT mix Try.func5 comp5 (by simp [Try.ntmps5]) ?_; simp only [go_sem, ↓reduceIte, Nat.reduceEqDiff, Nat.reduceAdd, Nat.reduceMul, Nat.reduceLeDiff, Nat.reduceLT, Nat.reduceBNe, reduceCtorEq, vc5, rs5]
  refine vcall (eSanity R) ?_
  rintro R1 v hle1 rfl
  try simp only [go_sem, ↓reduceIte, Nat.reduceEqDiff, Nat.reduceAdd, Nat.reduceMul, Nat.reduceLeDiff, Nat.reduceLT, Nat.reduceBNe, reduceCtorEq]
  obtain ⟨xs, hxs⟩ : ∃ xs, xs = madeL es := ⟨_, rfl⟩
  have hxl := madeL_len es
  have hcons := madeL_cons es
  have hkeys := madeL_keys es
  rw [← hxs] at hMd hxl hcons hkeys
  refine vcall (hMd R1 hle1) ?_
  intro R2 u hle2 hx
  have hxc' := hx
  obtain ⟨xa, xcap, rfl, hxc, hxf⟩ := PlOK.of hx
  try simp only [go_sem, ↓reduceIte, Nat.reduceEqDiff, Nat.reduceAdd, Nat.reduceMul, Nat.reduceLeDiff, Nat.reduceLT, Nat.reduceBNe, reduceCtorEq]
  refine vcall (eRebase xs _ R2 hx) ?_
  intro R3 r hle3 hr
  obtain ⟨o, ho1, ho2, ho3⟩ := allD_cons hcons (by omega)
  unfold RebV at hr
  rw [ho1] at hr
  obtain ⟨u1, w1, rfl, hu, hw⟩ := hr
  have hlen := force_recs_len o o
  obtain ⟨fs, hfs⟩ : ∃ fs, fs = forceD o := ⟨_, rfl⟩
  obtain ⟨rs, hrs⟩ : ∃ rs, rs = recsD o := ⟨_, rfl⟩
  have hol : o.length = xs.length := by
    have nd : ∀ l : List De, KeysD l → l.Nodup := fun l h => h.imp fun {a b} hk e => by
      subst e
      have : keyEq a a = true := by simp [keyEq]
      rw [this] at hk; cases hk
    have h1 := List.Nodup.length_le_of_subset (nd o (ho2.imp fun h => lessD_key h)) (fun d hd => (ho3 d).1 hd)
    have h2 := List.Nodup.length_le_of_subset (nd xs hkeys) (fun d hd => (ho3 d).2 hd)
    omega
  rw [show o.filter (fun a => !(o.any (overD a))) = fs from hfs.symm, show o.filterMap (fun a => (o.find? (overD a)).map (ovOf a)) = rs from hrs.symm] at hlen
  rw [← hfs] at hu
  rw [← hrs] at hw
  have hfl : fs.length ≤ xs.length := by omega
  have hrl : rs.length ≤ xs.length := by omega
  have hu' := hu
  obtain ⟨fa, fcap, rfl, hfc, hff⟩ := PlOK.of hu
  obtain ⟨wa, wcap, rfl, hwc, hwf⟩ := hw.form
  try simp only [go_sem, ↓reduceIte, Nat.reduceEqDiff, Nat.reduceAdd, Nat.reduceMul, Nat.reduceLeDiff, Nat.reduceLT, Nat.reduceBNe, reduceCtorEq]
  refine ⟨_, W.in64 (by omega), ?_⟩
  refine ⟨fun hne => by omega, fun _ => ?_⟩
  have hL : ∀ (p q : Pl) (R : RO), CallsR Try.prog 13 [p.ed.val, q.ed.val] R fun _ v => v = .bool (lessD p.1 q.1) := fun p q R => eLess p.ed q.ed R
  have hO : ∀ (p q : Pl) (R : RO), CallsR Try.prog 14 [p.ed.val, q.ed.val] R fun _ v => v = .bool (overD p.1 q.1) := fun p q R => eOverrules p.ed q.ed R
  simp only [Ed.val, Pl.ed, De.ed] at hL hO
  have hfsort : SortedD fs := by rw [hfs]; exact forceD_sorted ho2
  have hfmem : ∀ d ∈ fs, d ∈ xs := fun d hd => by rw [hfs] at hd; exact (ho3 d).1 (mem_forceD.1 hd).1
  have hle23 := hle3
  refine vcLoop Nat (fun i => [(8, .val (.int .i64 i)), (4, .val (.slice xa xs.length xcap)), (5, .val (.slice fa fs.length fcap)), (6, .val (.slice wa rs.length wcap)), (3, .val (.bool true))]) (fun _ => []) (fun i _ => i ≤ fs.length) (fun i => fs.length - i) 0 ?_ rfl ?_ ?_
  · (try simp only [go_sem, ↓reduceIte, Nat.reduceEqDiff, Nat.reduceAdd, Nat.reduceMul, Nat.reduceLeDiff, Nat.reduceLT, Nat.reduceBNe, reduceCtorEq]) <;> (repeat' (first | rfl | trivial | constructor | (intro h; exact absurd rfl h)))
  · exact Nat.zero_le _
  · rintro i env R4 hle4 hE hi
    (simp only [go_sem] at hE; obtain ⟨e8, e4, e5, e6, e3⟩ := hE; simp only [go_sem, ↓reduceIte, Nat.reduceEqDiff, Nat.reduceAdd, Nat.reduceMul, Nat.reduceLeDiff, Nat.reduceLT, Nat.reduceBNe, reduceCtorEq, e8, e4, e5, e6, e3]; dsimp only at *)
    refine ⟨fun hlt => ?_, fun hge => ?_⟩
    · have hlt' : i < fs.length := by omega
      obtain ⟨ad, p, had, hp1, hR, hpok⟩ := hff i hlt'
      have hpx : p.1 ∈ xs := by rw [hp1]; exact hfmem _ (List.getElem_mem hlt')
      obtain ⟨j, hj, hidx, hxj⟩ := idx_mem hkeys hpx
      obtain ⟨adx, q, hadx, hq1, hRq, hqok⟩ := hxf j hj
      have hqp : q.1 = p.1 := by rw [hq1, hxj]
      refine ⟨by omega, vat ad had ?_⟩
      try simp only [go_sem, ↓reduceIte, Nat.reduceEqDiff, Nat.reduceAdd, Nat.reduceMul, Nat.reduceLeDiff, Nat.reduceLT, Nat.reduceBNe, reduceCtorEq]
      refine vload (.int .i64 p.1.device) (hle4 _ _ (hR 2 _ rfl)) ?_
      simp only [go_sem, ↓reduceIte, Nat.reduceEqDiff, Nat.reduceAdd, Nat.reduceMul, Nat.reduceLeDiff, Nat.reduceLT, Nat.reduceBNe, reduceCtorEq, e8, e4, e5, e6, e3]
      refine ⟨by omega, vat ad had ?_⟩
      try simp only [go_sem, ↓reduceIte, Nat.reduceEqDiff, Nat.reduceAdd, Nat.reduceMul, Nat.reduceLeDiff, Nat.reduceLT, Nat.reduceBNe, reduceCtorEq]
      refine vload (.int .i64 p.1.seq) (hle4 _ _ (hR 3 _ rfl)) ?_
      simp only [go_sem, ↓reduceIte, Nat.reduceEqDiff, Nat.reduceAdd, Nat.reduceMul, Nat.reduceLeDiff, Nat.reduceLT, Nat.reduceBNe, reduceCtorEq, e8, e4, e5, e6, e3]
      refine vcall (eFind p.1.device p.1.seq xs _ R4 (hx.mono (RO.le_trans hle3 hle4))) ?_
      rintro R5 v hle5 rfl
      rw [hidx]
      simp only [go_sem, ↓reduceIte, Nat.reduceEqDiff, Nat.reduceAdd, Nat.reduceMul, Nat.reduceLeDiff, Nat.reduceLT, Nat.reduceBNe, reduceCtorEq, e8, e4, e5, e6, e3]
      refine ⟨fun hnn => ⟨fun hpos => ?_, fun hz => ?_⟩, fun hneg => by omega⟩
      · obtain ⟨ad', p', had', hp1', hR', hpok'⟩ := hff (i - 1) (by omega)
        have hti : ((i : Int) - 1).toNat = i - 1 := by omega
        have hless : lessD p'.1 p.1 = true := by
          rw [hp1, hp1']
          exact (List.pairwise_iff_getElem.1 hfsort) (i - 1) i (by omega) hlt' (by omega)
        refine ⟨_, W.in64 (by omega), by omega, by omega, ?_⟩
        rw [hti]
        refine vat ad' had' ?_
        try simp only [go_sem, ↓reduceIte, Nat.reduceEqDiff, Nat.reduceAdd, Nat.reduceMul, Nat.reduceLeDiff, Nat.reduceLT, Nat.reduceBNe, reduceCtorEq]
        refine vloadn p'.ed.cells rfl (fun j u hj => hle5 _ _ (hle4 _ _ (hR' j u hj))) ?_
        simp only [go_sem, ↓reduceIte, Nat.reduceEqDiff, Nat.reduceAdd, Nat.reduceMul, Nat.reduceLeDiff, Nat.reduceLT, Nat.reduceBNe, reduceCtorEq, Ed.cells, Pl.ed, De.ed, e8, e4, e5, e6, e3]
        refine ⟨by omega, vat ad had ?_⟩
        try simp only [go_sem, ↓reduceIte, Nat.reduceEqDiff, Nat.reduceAdd, Nat.reduceMul, Nat.reduceLeDiff, Nat.reduceLT, Nat.reduceBNe, reduceCtorEq]
        refine vloadn p.ed.cells rfl (fun j u hj => hle5 _ _ (hle4 _ _ (hR j u hj))) ?_
        simp only [go_sem, ↓reduceIte, Nat.reduceEqDiff, Nat.reduceAdd, Nat.reduceMul, Nat.reduceLeDiff, Nat.reduceLT, Nat.reduceBNe, reduceCtorEq, Ed.cells, Pl.ed, De.ed, e8, e4, e5, e6, e3]
        refine vcall (hL p' p R5) ?_
        rintro R6 v hle6 rfl
        rw [hless]
        simp only [go_sem, ↓reduceIte, Nat.reduceEqDiff, Nat.reduceAdd, Nat.reduceMul, Nat.reduceLeDiff, Nat.reduceLT, Nat.reduceBNe, reduceCtorEq, e8, e4, e5, e6, e3]
        refine ⟨by omega, vat ad had ?_⟩
        try simp only [go_sem, ↓reduceIte, Nat.reduceEqDiff, Nat.reduceAdd, Nat.reduceMul, Nat.reduceLeDiff, Nat.reduceLT, Nat.reduceBNe, reduceCtorEq]
        refine vloadn p.ed.cells rfl (fun j u hj => (RO.le_trans hle5 hle6) _ _ (hle4 _ _ (hR j u hj))) ?_
        simp only [go_sem, ↓reduceIte, Nat.reduceEqDiff, Nat.reduceAdd, Nat.reduceMul, Nat.reduceLeDiff, Nat.reduceLT, Nat.reduceBNe, reduceCtorEq, Ed.cells, Pl.ed, De.ed, e8, e4, e5, e6, e3]
        refine ⟨by omega, vat adx hadx ?_⟩
        try simp only [go_sem, ↓reduceIte, Nat.reduceEqDiff, Nat.reduceAdd, Nat.reduceMul, Nat.reduceLeDiff, Nat.reduceLT, Nat.reduceBNe, reduceCtorEq]
        refine vloadn q.ed.cells rfl (fun k u hk => (RO.le_trans hle5 hle6) _ _ (hle4 _ _ (hle23 _ _ (hRq k u hk)))) ?_
        simp only [go_sem, ↓reduceIte, Nat.reduceEqDiff, Nat.reduceAdd, Nat.reduceMul, Nat.reduceLeDiff, Nat.reduceLT, Nat.reduceBNe, reduceCtorEq, Ed.cells, Pl.ed, De.ed, e8, e4, e5, e6, e3]
        refine vcall (eSameR p.1 q.1 p.ed.cells q.ed.cells R6 (hpok.mono (RO.le_trans hle4 (RO.le_trans hle5 hle6))).edV (hqok.mono (RO.le_trans hle23 (RO.le_trans hle4 (RO.le_trans hle5 hle6)))).edV) ?_
        rintro R9 v hle9 rfl
        rw [hqp, decide_eq_true rfl]
        simp only [go_sem, ↓reduceIte, Nat.reduceEqDiff, Nat.reduceAdd, Nat.reduceMul, Nat.reduceLeDiff, Nat.reduceLT, Nat.reduceBNe, reduceCtorEq, e8, e4, e5, e6, e3]
        exact ⟨_, W.in64 (by omega), i + 1, by omega, by constructor, by omega⟩
      · refine ⟨by omega, vat ad had ?_⟩
        try simp only [go_sem, ↓reduceIte, Nat.reduceEqDiff, Nat.reduceAdd, Nat.reduceMul, Nat.reduceLeDiff, Nat.reduceLT, Nat.reduceBNe, reduceCtorEq]
        refine vloadn p.ed.cells rfl (fun j u hj => hle5 _ _ (hle4 _ _ (hR j u hj))) ?_
        simp only [go_sem, ↓reduceIte, Nat.reduceEqDiff, Nat.reduceAdd, Nat.reduceMul, Nat.reduceLeDiff, Nat.reduceLT, Nat.reduceBNe, reduceCtorEq, Ed.cells, Pl.ed, De.ed, e8, e4, e5, e6, e3]
        refine ⟨by omega, vat adx hadx ?_⟩
        try simp only [go_sem, ↓reduceIte, Nat.reduceEqDiff, Nat.reduceAdd, Nat.reduceMul, Nat.reduceLeDiff, Nat.reduceLT, Nat.reduceBNe, reduceCtorEq]
        refine vloadn q.ed.cells rfl (fun k u hk => hle5 _ _ (hle4 _ _ (hle23 _ _ (hRq k u hk)))) ?_
        simp only [go_sem, ↓reduceIte, Nat.reduceEqDiff, Nat.reduceAdd, Nat.reduceMul, Nat.reduceLeDiff, Nat.reduceLT, Nat.reduceBNe, reduceCtorEq, Ed.cells, Pl.ed, De.ed, e8, e4, e5, e6, e3]
        refine vcall (eSameR p.1 q.1 p.ed.cells q.ed.cells R5 (hpok.mono (RO.le_trans hle4 hle5)).edV (hqok.mono (RO.le_trans hle23 (RO.le_trans hle4 hle5))).edV) ?_
        rintro R9 v hle9 rfl
        rw [hqp, decide_eq_true rfl]
        simp only [go_sem, ↓reduceIte, Nat.reduceEqDiff, Nat.reduceAdd, Nat.reduceMul, Nat.reduceLeDiff, Nat.reduceLT, Nat.reduceBNe, reduceCtorEq, e8, e4, e5, e6, e3]
        exact ⟨_, W.in64 (by omega), i + 1, by omega, by constructor, by omega⟩
    · refine vcLoop Nat (fun i => [(10, .val (.int .i64 i)), (4, .val (.slice xa xs.length xcap)), (5, .val (.slice fa fs.length fcap)), (6, .val (.slice wa rs.length wcap)), (3, .val (.bool true))]) (fun _ => []) (fun i _ => i ≤ rs.length) (fun i => rs.length - i) 0 ?_ rfl ?_ ?_
      · (try simp only [go_sem, ↓reduceIte, Nat.reduceEqDiff, Nat.reduceAdd, Nat.reduceMul, Nat.reduceLeDiff, Nat.reduceLT, Nat.reduceBNe, reduceCtorEq]) <;> (repeat' (first | rfl | trivial | constructor | (intro h; exact absurd rfl h)))
      · exact Nat.zero_le _
      rintro i2 env R5 hle5 hE hi2
      (simp only [go_sem] at hE; obtain ⟨e10, e4', e5', e6', e3'⟩ := hE; simp only [go_sem, ↓reduceIte, Nat.reduceEqDiff, Nat.reduceAdd, Nat.reduceMul, Nat.reduceLeDiff, Nat.reduceLT, Nat.reduceBNe, reduceCtorEq, e10, e4', e5', e6', e3']; dsimp only at *)
      intro hlt
      have hlt' : i2 < (recsD o).length := by rw [← hrs]; omega
      obtain ⟨ea, eb, hea, heb, hover, hrec, hprev⟩ := recs_at ho2 hlt'
      obtain ⟨ad, had, hR⟩ := hwf i2 (by omega)
      have hrec' : rs[i2]'(by omega) = ovOf ea eb := by rw [← hrec]; simp only [hrs]
      rw [hrec'] at hR
      have hRR : ∀ R6, RO.le R5 R6 → ∀ j u, (Ov.cells (ovOf ea eb))[j]? = some u → R6 ((ad.add (i2 * 4)).add j) u := fun R6 hle6 j u hj => hle6 _ _ (hle5 _ _ (hle4 _ _ (hR j u hj)))
      obtain ⟨ja, hja, hidxa, hxja⟩ := idx_mem hkeys ((ho3 ea).1 hea)
      obtain ⟨jb, hjb, hidxb, hxjb⟩ := idx_mem hkeys ((ho3 eb).1 heb)
      have hidxf : idxE (isKey ea.device ea.seq) 0 fs = -1 := idx_none fun d hd => by
        cases hk : isKey ea.device ea.seq d with
        | false => rfl
        | true =>
          exfalso
          rw [hfs] at hd
          obtain ⟨hd1, hd2⟩ := mem_forceD.1 hd
          have hko : KeysD o := ho2.imp fun h => lessD_key h
          have : d = ea := hko.eq hd1 hea (by rw [keyEq_iff]; simpa [isKey] using hk)
          rw [this] at hd2
          have h5 := hd2 eb heb
          rw [hover] at h5; cases h5
      obtain ⟨ada, qa, hada, hqa1, hRqa, hqaok⟩ := hxf ja hja
      obtain ⟨adb, qb, hadb, hqb1, hRqb, hqbok⟩ := hxf jb hjb
      have hqa : qa.1 = ea := by rw [hqa1, hxja]
      have hqb : qb.1 = eb := by rw [hqb1, hxjb]
      have hle35 := RO.le_trans hle3 (RO.le_trans hle4 hle5)
      refine ⟨by omega, vat ad had ?_⟩
      try simp only [go_sem, ↓reduceIte, Nat.reduceEqDiff, Nat.reduceAdd, Nat.reduceMul, Nat.reduceLeDiff, Nat.reduceLT, Nat.reduceBNe, reduceCtorEq]
      refine vload (.int .i64 ea.device) (hRR R5 (RO.le_refl _) 0 _ rfl) ?_
      simp only [go_sem, ↓reduceIte, Nat.reduceEqDiff, Nat.reduceAdd, Nat.reduceMul, Nat.reduceLeDiff, Nat.reduceLT, Nat.reduceBNe, reduceCtorEq, e10, e4', e5', e6', e3']
      refine ⟨by omega, vat ad had ?_⟩
      try simp only [go_sem, ↓reduceIte, Nat.reduceEqDiff, Nat.reduceAdd, Nat.reduceMul, Nat.reduceLeDiff, Nat.reduceLT, Nat.reduceBNe, reduceCtorEq]
      refine vload (.int .i64 ea.seq) (hRR R5 (RO.le_refl _) 1 _ rfl) ?_
      simp only [go_sem, ↓reduceIte, Nat.reduceEqDiff, Nat.reduceAdd, Nat.reduceMul, Nat.reduceLeDiff, Nat.reduceLT, Nat.reduceBNe, reduceCtorEq, e10, e4', e5', e6', e3']
      refine ⟨by omega, vat ad had ?_⟩
      try simp only [go_sem, ↓reduceIte, Nat.reduceEqDiff, Nat.reduceAdd, Nat.reduceMul, Nat.reduceLeDiff, Nat.reduceLT, Nat.reduceBNe, reduceCtorEq]
      refine vload (.int .i64 eb.device) (hRR R5 (RO.le_refl _) 2 _ rfl) ?_
      simp only [go_sem, ↓reduceIte, Nat.reduceEqDiff, Nat.reduceAdd, Nat.reduceMul, Nat.reduceLeDiff, Nat.reduceLT, Nat.reduceBNe, reduceCtorEq, e10, e4', e5', e6', e3']
      refine ⟨by omega, vat ad had ?_⟩
      try simp only [go_sem, ↓reduceIte, Nat.reduceEqDiff, Nat.reduceAdd, Nat.reduceMul, Nat.reduceLeDiff, Nat.reduceLT, Nat.reduceBNe, reduceCtorEq]
      refine vload (.int .i64 eb.seq) (hRR R5 (RO.le_refl _) 3 _ rfl) ?_
      simp only [go_sem, ↓reduceIte, Nat.reduceEqDiff, Nat.reduceAdd, Nat.reduceMul, Nat.reduceLeDiff, Nat.reduceLT, Nat.reduceBNe, reduceCtorEq, e10, e4', e5', e6', e3']
      refine vcall (eFind ea.device ea.seq xs _ R5 (hx.mono hle35)) ?_
      rintro R6 v hle6 rfl
      rw [hidxa]
      simp only [go_sem, ↓reduceIte, Nat.reduceEqDiff, Nat.reduceAdd, Nat.reduceMul, Nat.reduceLeDiff, Nat.reduceLT, Nat.reduceBNe, reduceCtorEq, e10, e4', e5', e6', e3']
      refine vcall (eFind eb.device eb.seq xs _ R6 (hx.mono (RO.le_trans hle35 hle6))) ?_
      rintro R7 v hle7 rfl
      rw [hidxb]
      simp only [go_sem, ↓reduceIte, Nat.reduceEqDiff, Nat.reduceAdd, Nat.reduceMul, Nat.reduceLeDiff, Nat.reduceLT, Nat.reduceBNe, reduceCtorEq, e10, e4', e5', e6', e3']
      refine ⟨fun _ => ⟨fun _ => ?_, fun h => by omega⟩, fun h => by omega⟩
      refine ⟨by omega, vat ad had ?_⟩
      try simp only [go_sem, ↓reduceIte, Nat.reduceEqDiff, Nat.reduceAdd, Nat.reduceMul, Nat.reduceLeDiff, Nat.reduceLT, Nat.reduceBNe, reduceCtorEq]
      refine vload (.int .i64 ea.device) (hRR R7 (RO.le_trans hle6 hle7) 0 _ rfl) ?_
      simp only [go_sem, ↓reduceIte, Nat.reduceEqDiff, Nat.reduceAdd, Nat.reduceMul, Nat.reduceLeDiff, Nat.reduceLT, Nat.reduceBNe, reduceCtorEq, e10, e4', e5', e6', e3']
      refine ⟨by omega, vat ad had ?_⟩
      try simp only [go_sem, ↓reduceIte, Nat.reduceEqDiff, Nat.reduceAdd, Nat.reduceMul, Nat.reduceLeDiff, Nat.reduceLT, Nat.reduceBNe, reduceCtorEq]
      refine vload (.int .i64 ea.seq) (hRR R7 (RO.le_trans hle6 hle7) 1 _ rfl) ?_
      simp only [go_sem, ↓reduceIte, Nat.reduceEqDiff, Nat.reduceAdd, Nat.reduceMul, Nat.reduceLeDiff, Nat.reduceLT, Nat.reduceBNe, reduceCtorEq, e10, e4', e5', e6', e3']
      have hle37 := RO.le_trans hle35 (RO.le_trans hle6 hle7)
      refine vcall (eFind ea.device ea.seq fs _ R7 (hu'.mono (RO.le_trans hle4 (RO.le_trans hle5 (RO.le_trans hle6 hle7))))) ?_
      rintro R8 v hle8 rfl
      rw [hidxf]
      try simp only [go_sem, ↓reduceIte, Nat.reduceEqDiff, Nat.reduceAdd, Nat.reduceMul, Nat.reduceLeDiff, Nat.reduceLT, Nat.reduceBNe, reduceCtorEq, Int.reduceLE, Int.reduceLT, Int.reduceToNat, Int.cast_ofNat_Int, Int.reduceEq, Int.reduceNe]
      refine vcLoop Nat (fun k => [(14, .val (.int .i64 k)), (13, .val (.bool ((fs.take k).any (overD ea)))), (11, .val (.int .i64 ja)), (12, .val (.int .i64 jb)), (10, .val (.int .i64 i2)), (4, .val (.slice xa xs.length xcap)), (5, .val (.slice fa fs.length fcap)), (6, .val (.slice wa rs.length wcap)), (3, .val (.bool true))]) (fun _ => []) (fun k _ => k ≤ fs.length) (fun k => fs.length - k) 0 ?_ rfl ?_ ?_
      · (try simp only [go_sem, ↓reduceIte, Nat.reduceEqDiff, Nat.reduceAdd, Nat.reduceMul, Nat.reduceLeDiff, Nat.reduceLT, Nat.reduceBNe, reduceCtorEq]) <;> (repeat' (first | rfl | trivial | constructor | (intro h; exact absurd rfl h)))
      · exact Nat.zero_le _
      rintro k env R9 hle9 hE hk
      (simp only [go_sem] at hE; obtain ⟨e14, e13, e11, e12, e10', e4'', e5'', e6'', e3''⟩ := hE; simp only [go_sem, ↓reduceIte, Nat.reduceEqDiff, Nat.reduceAdd, Nat.reduceMul, Nat.reduceLeDiff, Nat.reduceLT, Nat.reduceBNe, reduceCtorEq, e14, e13, e11, e12, e10', e4'', e5'', e6'', e3'']; dsimp only at *)
      refine ⟨fun hlt3 => ?_, fun hge3 => ?_⟩
      · have hk' : k < fs.length := by omega
        obtain ⟨adf, f, hadf, hf1, hRf, hfok⟩ := hff k hk'
        have hany : (fs.take (k + 1)).any (overD ea) = ((fs.take k).any (overD ea) || overD ea f.1) := by
          rw [List.take_succ_eq_append_getElem hk', List.any_append, hf1]; simp
        refine ⟨fun hno => ⟨by omega, vat ada hada ?_⟩, fun hyes => ?_⟩
        · try simp only [go_sem, ↓reduceIte, Nat.reduceEqDiff, Nat.reduceAdd, Nat.reduceMul, Nat.reduceLeDiff, Nat.reduceLT, Nat.reduceBNe, reduceCtorEq]
          refine vloadn qa.ed.cells rfl (fun j u hj => hle9 _ _ (hle8 _ _ (hle37 _ _ (hRqa j u hj)))) ?_
          simp only [go_sem, ↓reduceIte, Nat.reduceEqDiff, Nat.reduceAdd, Nat.reduceMul, Nat.reduceLeDiff, Nat.reduceLT, Nat.reduceBNe, reduceCtorEq, Ed.cells, Pl.ed, De.ed, e14, e13, e11, e12, e10', e4'', e5'', e6'', e3'']
          refine ⟨by omega, vat adf hadf ?_⟩
          try simp only [go_sem, ↓reduceIte, Nat.reduceEqDiff, Nat.reduceAdd, Nat.reduceMul, Nat.reduceLeDiff, Nat.reduceLT, Nat.reduceBNe, reduceCtorEq]
          refine vloadn f.ed.cells rfl (fun j u hj => hle9 _ _ (hle8 _ _ (hle7 _ _ (hle6 _ _ (hle5 _ _ (hle4 _ _ (hRf j u hj))))))) ?_
          simp only [go_sem, ↓reduceIte, Nat.reduceEqDiff, Nat.reduceAdd, Nat.reduceMul, Nat.reduceLeDiff, Nat.reduceLT, Nat.reduceBNe, reduceCtorEq, Ed.cells, Pl.ed, De.ed, e14, e13, e11, e12, e10', e4'', e5'', e6'', e3'']
          refine vcall (hO qa f R9) ?_
          rintro R10 v hle10 rfl
          simp only [go_sem, ↓reduceIte, Nat.reduceEqDiff, Nat.reduceAdd, Nat.reduceMul, Nat.reduceLeDiff, Nat.reduceLT, Nat.reduceBNe, reduceCtorEq, e14, e13, e11, e12, e10', e4'', e5'', e6'', e3'']
          refine ⟨_, W.in64 (by omega), k + 1, by omega, ?_, by omega⟩
          try simp only [go_sem, ↓reduceIte, Nat.reduceEqDiff, Nat.reduceAdd, Nat.reduceMul, Nat.reduceLeDiff, Nat.reduceLT, Nat.reduceBNe, reduceCtorEq]
          exact ⟨rfl, by rw [hany, hno, hqa]; rfl⟩
        · refine ⟨_, W.in64 (by omega), k + 1, by omega, ?_, by omega⟩
          try simp only [go_sem, ↓reduceIte, Nat.reduceEqDiff, Nat.reduceAdd, Nat.reduceMul, Nat.reduceLeDiff, Nat.reduceLT, Nat.reduceBNe, reduceCtorEq]
          exact ⟨rfl, by rw [hany, hyes]; rfl⟩
      · obtain rfl : k = fs.length := by omega
        rw [List.take_length]
        have hbeat : fs.any (overD ea) = true := by
          obtain ⟨c, hc, hcc⟩ := over_force _ ea (Nat.le_refl _) ⟨eb, heb, hover⟩
          rw [hfs]
          exact List.any_eq_true.2 ⟨c, hc, hcc⟩
        refine ⟨fun _ => ⟨by omega, vat ada hada ?_⟩, fun h => by rw [hbeat] at h; cases h⟩
        try simp only [go_sem, ↓reduceIte, Nat.reduceEqDiff, Nat.reduceAdd, Nat.reduceMul, Nat.reduceLeDiff, Nat.reduceLT, Nat.reduceBNe, reduceCtorEq]
        refine vloadn qa.ed.cells rfl (fun j u hj => hle9 _ _ (hle8 _ _ (hle37 _ _ (hRqa j u hj)))) ?_
        simp only [go_sem, ↓reduceIte, Nat.reduceEqDiff, Nat.reduceAdd, Nat.reduceMul, Nat.reduceLeDiff, Nat.reduceLT, Nat.reduceBNe, reduceCtorEq, Ed.cells, Pl.ed, De.ed, e14, e13, e11, e12, e10', e4'', e5'', e6'', e3'']
        refine ⟨by omega, vat adb hadb ?_⟩
        try simp only [go_sem, ↓reduceIte, Nat.reduceEqDiff, Nat.reduceAdd, Nat.reduceMul, Nat.reduceLeDiff, Nat.reduceLT, Nat.reduceBNe, reduceCtorEq]
        refine vloadn qb.ed.cells rfl (fun j u hj => hle9 _ _ (hle8 _ _ (hle37 _ _ (hRqb j u hj)))) ?_
        simp only [go_sem, ↓reduceIte, Nat.reduceEqDiff, Nat.reduceAdd, Nat.reduceMul, Nat.reduceLeDiff, Nat.reduceLT, Nat.reduceBNe, reduceCtorEq, Ed.cells, Pl.ed, De.ed, e14, e13, e11, e12, e10', e4'', e5'', e6'', e3'']
        refine vcall (hO qa qb R9) ?_
        rintro R10 v hle10 rfl
        rw [hqa, hqb, hover]
        simp only [go_sem, ↓reduceIte, Nat.reduceEqDiff, Nat.reduceAdd, Nat.reduceMul, Nat.reduceLeDiff, Nat.reduceLT, Nat.reduceBNe, reduceCtorEq, e14, e13, e11, e12, e10', e4'', e5'', e6'', e3'']
        refine ⟨fun hpos => ?_, fun hz => ⟨_, W.in64 (by omega), i2 + 1, by omega, by constructor, by omega⟩⟩
        obtain ⟨pa, pb, hpa, hprec, hpless⟩ := hprev (by omega)
        obtain ⟨jp, hjp, hidxp, hxjp⟩ := idx_mem hkeys ((ho3 pa).1 hpa)
        obtain ⟨adp, qp, hadp, hqp1, hRqp, hqpok⟩ := hxf jp hjp
        have hqp : qp.1 = pa := by rw [hqp1, hxjp]
        obtain ⟨ad', had', hR'⟩ := hwf (i2 - 1) (by omega)
        have hprec' : rs[i2 - 1]'(by omega) = ovOf pa pb := by rw [← hprec]; simp only [hrs]
        rw [hprec'] at hR'
        have hle310 := RO.le_trans hle37 (RO.le_trans hle8 (RO.le_trans hle9 hle10))
        have hle410 := RO.le_trans hle4 (RO.le_trans hle5 (RO.le_trans hle6 (RO.le_trans hle7 (RO.le_trans hle8 (RO.le_trans hle9 hle10)))))
        have hti : ((i2 : Int) - 1).toNat = i2 - 1 := by omega
        refine ⟨_, W.in64 (by omega), by omega, by omega, ?_⟩
        rw [hti]
        refine vat ad' had' ?_
        try simp only [go_sem, ↓reduceIte, Nat.reduceEqDiff, Nat.reduceAdd, Nat.reduceMul, Nat.reduceLeDiff, Nat.reduceLT, Nat.reduceBNe, reduceCtorEq]
        refine vload (.int .i64 pa.device) (hle410 _ _ (hR' 0 _ rfl)) ?_
        try simp only [go_sem, ↓reduceIte, Nat.reduceEqDiff, Nat.reduceAdd, Nat.reduceMul, Nat.reduceLeDiff, Nat.reduceLT, Nat.reduceBNe, reduceCtorEq, Ed.cells, Pl.ed, De.ed, e14, e13, e11, e12, e10', e4'', e5'', e6'', e3'']
        refine ⟨_, W.in64 (by omega), by omega, by omega, ?_⟩
        rw [hti]
        refine vat ad' had' ?_
        try simp only [go_sem, ↓reduceIte, Nat.reduceEqDiff, Nat.reduceAdd, Nat.reduceMul, Nat.reduceLeDiff, Nat.reduceLT, Nat.reduceBNe, reduceCtorEq]
        refine vload (.int .i64 pa.seq) (hle410 _ _ (hR' 1 _ rfl)) ?_
        try simp only [go_sem, ↓reduceIte, Nat.reduceEqDiff, Nat.reduceAdd, Nat.reduceMul, Nat.reduceLeDiff, Nat.reduceLT, Nat.reduceBNe, reduceCtorEq, Ed.cells, Pl.ed, De.ed, e14, e13, e11, e12, e10', e4'', e5'', e6'', e3'']
        refine ⟨by omega, vat ada hada ?_⟩
        try simp only [go_sem, ↓reduceIte, Nat.reduceEqDiff, Nat.reduceAdd, Nat.reduceMul, Nat.reduceLeDiff, Nat.reduceLT, Nat.reduceBNe, reduceCtorEq]
        refine vloadn qa.ed.cells rfl (fun j u hj => hle310 _ _ (hRqa j u hj)) ?_
        try simp only [go_sem, ↓reduceIte, Nat.reduceEqDiff, Nat.reduceAdd, Nat.reduceMul, Nat.reduceLeDiff, Nat.reduceLT, Nat.reduceBNe, reduceCtorEq, Ed.cells, Pl.ed, De.ed, e14, e13, e11, e12, e10', e4'', e5'', e6'', e3'']
        refine vcall (eFind pa.device pa.seq xs _ R10 (hx.mono hle310)) ?_
        rintro R11 v hle11 rfl
        rw [hidxp]
        try simp only [go_sem, ↓reduceIte, Nat.reduceEqDiff, Nat.reduceAdd, Nat.reduceMul, Nat.reduceLeDiff, Nat.reduceLT, Nat.reduceBNe, reduceCtorEq, Ed.cells, Pl.ed, De.ed, e14, e13, e11, e12, e10', e4'', e5'', e6'', e3'']
        refine ⟨by omega, vat adp hadp ?_⟩
        try simp only [go_sem, ↓reduceIte, Nat.reduceEqDiff, Nat.reduceAdd, Nat.reduceMul, Nat.reduceLeDiff, Nat.reduceLT, Nat.reduceBNe, reduceCtorEq]
        refine vloadn qp.ed.cells rfl (fun j u hj => hle11 _ _ (hle310 _ _ (hRqp j u hj))) ?_
        try simp only [go_sem, ↓reduceIte, Nat.reduceEqDiff, Nat.reduceAdd, Nat.reduceMul, Nat.reduceLeDiff, Nat.reduceLT, Nat.reduceBNe, reduceCtorEq, Ed.cells, Pl.ed, De.ed, e14, e13, e11, e12, e10', e4'', e5'', e6'', e3'']
        refine vcall (hL qp qa R11) ?_
        rintro R12 v hle12 rfl
        rw [hqp, hqa, hpless]
        try simp only [go_sem, ↓reduceIte, Nat.reduceEqDiff, Nat.reduceAdd, Nat.reduceMul, Nat.reduceLeDiff, Nat.reduceLT, Nat.reduceBNe, reduceCtorEq, Ed.cells, Pl.ed, De.ed, e14, e13, e11, e12, e10', e4'', e5'', e6'', e3'']
        exact ⟨_, W.in64 (by omega), i2 + 1, by omega, by constructor, by omega⟩
end Go.Proofs.Ytpnhiknfcpkfbaa

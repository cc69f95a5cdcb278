import Derived.Test.YtclkibjonbhldaaGreatDoorBa
/- Plain lemmas of our own, no statement of the seat: the reference's bounds of two lists. -/
namespace Go.Proofs.YtclkibjonbhldaaGreatDoor
set_option linter.unusedSimpArgs false
set_option linter.unusedVariables false
open Go.Proofs.YtclkibjonbhldaaGreatDoor.Vc
abbrev IntV := EncV (fun x : Int => [Value.int .i64 x]) 1
abbrev rowS (l : List Sp) : List Value := (l.map Sp.cells).flatten
theorem rowE_len {α : Type} {enc : α → List Value} {k : Nat} (hk : ∀ x, (enc x).length = k) (l : List α) : (l.map enc).flatten.length = l.length * k := by
  rw [length_flattenK (k := k) (fun us hus => by obtain ⟨x, _, rfl⟩ := List.mem_map.1 hus; exact hk x), List.length_map]
theorem rowS_len (l : List Sp) : (rowS l).length = l.length * 2 := rowE_len (enc := Sp.cells) (k := 2) (fun _ => rfl) l
theorem flat_get {α : Type} {k : Nat} {cs : List (List α)} (hk : ∀ us ∈ cs, us.length = k) (h0 : 0 < k) {i : Nat} {v : α} (h : cs.flatten[i]? = some v) : ∃ us, cs[i / k]? = some us ∧ us[i % k]? = some v := by
  have hlt := (List.getElem?_eq_some_iff.1 h).1
  rw [length_flattenK hk] at hlt
  have hq : i / k < cs.length := (Nat.div_lt_iff_lt_mul h0).2 hlt
  refine ⟨cs[i / k], List.getElem?_eq_getElem hq, ?_⟩
  have h1 := getElem?_flatten hk (i / k) (i % k) _ (List.getElem?_eq_getElem hq) (Nat.mod_lt _ h0)
  rw [Nat.mul_comm, Nat.div_add_mod] at h1
  rw [← h1]; exact h
/-- The cells of a list that lies in the facts. -/
theorem EncV.src {b : List Blk} {α : Type} {enc : α → List Value} {k : Nat} {R : RO} {a : Option Addr} {n cap : Nat} {xs : List α} (h : EncV enc k R (.slice a n cap) xs) (hn : n = xs.length) (h0 : 0 < k) (hk : ∀ x, (enc x).length = k) (h1 : ∀ x, ∀ u ∈ enc x, u.oneCell' = true) {kk : List Value → Prop} {t : Tok kk} (hkk : kk (xs.map enc).flatten) : SrcP (allR b R) k a n kk t := by
  obtain ⟨a', cap', e, _, hf⟩ := h.form
  simp only [Value.slice.injEq] at e
  obtain ⟨rfl, -, -⟩ := e
  subst hn
  refine vsrc _ (rowE_len hk xs) (fun u hu => ?_) (fun hne => ?_) hkk
  · obtain ⟨c, hc, hu'⟩ := List.mem_flatten.1 hu
    obtain ⟨x, _, rfl⟩ := List.mem_map.1 hc
    exact h1 x u hu'
  · have hl : 0 < xs.length := by
      rcases Nat.eq_zero_or_pos xs.length with h | h
      · rw [List.eq_nil_of_length_eq_zero h] at hne; exact absurd rfl hne
      · exact h
    obtain ⟨ad, ha, _⟩ := hf 0 hl
    refine ⟨ad, ha, fun i v hi => ?_⟩
    obtain ⟨us, hus, hu⟩ := flat_get (k := k) (fun us hus => by obtain ⟨x, _, rfl⟩ := List.mem_map.1 hus; exact hk x) h0 hi
    rw [List.getElem?_map] at hus
    obtain ⟨x, hx, rfl⟩ := Option.map_eq_some_iff.1 hus
    obtain ⟨hlt, rfl⟩ := List.getElem?_eq_some_iff.1 hx
    obtain ⟨ad', ha', hR⟩ := hf _ hlt
    rw [ha] at ha'
    simp only [Option.some.injEq] at ha'
    subst ha'
    have := hR _ _ hu
    rw [add_add, Nat.mul_comm, Nat.div_add_mod] at this
    exact this
theorem Sp.one (s : Sp) : ∀ u ∈ s.cells, u.oneCell' = true := by simp [Sp.cells, Value.oneCell']
theorem SpV.src {b : List Blk} {R : RO} {a : Option Addr} {n cap : Nat} {xs : List Sp} (h : SpV R (.slice a n cap) xs) (hn : n = xs.length) {kk : List Value → Prop} {t : Tok kk} (hkk : kk (rowS xs)) : SrcP (allR b R) 2 a n kk t := EncV.src h hn (by omega) (fun _ => rfl) Sp.one hkk
theorem rowS_get (l : List Sp) (i c : Nat) (hi : i < l.length) (hc : c < 2) : (rowS l)[i * 2 + c]? = (l[i].cells)[c]? := by
  induction l generalizing i with
  | nil => simp at hi
  | cons x l ih =>
    rw [show rowS (x :: l) = x.cells ++ rowS l from rfl]
    match i with
    | 0 => rw [List.getElem?_append_left (by simp [Sp.cells]; omega)]; simp
    | i + 1 =>
      rw [List.getElem?_append_right (by simp [Sp.cells]; omega)]
      simp only [Sp.cells, List.length_cons, List.length_nil, List.getElem_cons_succ]
      rw [show (i + 1) * 2 + c - (0 + 1 + 1) = i * 2 + c by omega]
      exact ih i (by simpa using hi)
theorem rowS_app (a b : List Sp) : rowS a ++ rowS b = rowS (a ++ b) := by unfold rowS; rw [List.map_append, List.flatten_append]
theorem insI_len (l : List Int) (x : Int) : (insI l x).length ≤ l.length + 1 := by
  have h := congrArg List.length (List.takeWhile_append_dropWhile (p := fun y => decide (y < x)) (l := l))
  rw [List.length_append] at h
  unfold insI
  dsimp only
  split <;> simp only [List.length_append, List.length_cons] <;> omega
def bnd (l : List Int) (s : Sp) : List Int := insI (insI l s.f) s.t
theorem bnd_facts (zs : List Sp) : ∀ l : List Int, Inc l → Inc (zs.foldl bnd l) ∧ (∀ y, y ∈ zs.foldl bnd l ↔ y ∈ l ∨ ∃ s ∈ zs, y = s.f ∨ y = s.t) ∧ (zs.foldl bnd l).length ≤ l.length + 2 * zs.length := by
  induction zs with
  | nil => intro l h; exact ⟨h, by simp, by simp⟩
  | cons z zs ih =>
    intro l h
    obtain ⟨h1, h2, h3⟩ := ih (bnd l z) (insI_inc (insI_inc h))
    refine ⟨h1, fun y => ?_, ?_⟩
    · rw [List.foldl_cons, h2]
      unfold bnd
      rw [insI_mem, insI_mem]
      constructor
      · rintro ((h | h | h) | ⟨s, hs, h⟩)
        · exact .inr ⟨z, by simp, .inr h⟩
        · exact .inr ⟨z, by simp, .inl h⟩
        · exact .inl h
        · exact .inr ⟨s, by simp [hs], h⟩
      · rintro (h | ⟨s, hs, h⟩)
        · exact .inl (.inr (.inr h))
        · rcases List.mem_cons.1 hs with rfl | hs
          · rcases h with h | h
            · exact .inl (.inr (.inl h))
            · exact .inl (.inl h)
          · exact .inr ⟨s, hs, h⟩
    · rw [List.foldl_cons, List.length_cons]
      have h4 := insI_len (insI l z.f) z.t
      have h5 := insI_len l z.f
      unfold bnd at h3 ⊢
      omega
theorem flat1 (l : List Int) : (l.map fun x => [Value.int .i64 x]).flatten = l.map (.int .i64) := by
  induction l with
  | nil => rfl
  | cons x l ih => rw [List.map_cons, List.flatten_cons, ih]; rfl
set_option maxHeartbeats 1000000 in
theorem rBounds (xs ys : List Sp) (v u : Value) (R : RO) (h : SpV R v xs) (k : SpV R u ys) (hl : xs.length + ys.length ≤ 10000000) : CallsR Tryz.prog 94 [v, u] R fun R' r => ∃ l, IntV R' r l ∧ Inc l ∧ (∀ y, y ∈ l ↔ ∃ s ∈ xs ++ ys, y = s.f ∨ y = s.t) ∧ l.length ≤ 2 * (xs.length + ys.length) := by
  obtain ⟨a, cap, rfl, hc, hf⟩ := h.form
  obtain ⟨b, cap', rfl, hc', hf'⟩ := k.form
  refine callsT mix Tryz.func94 comp94 (by simp [Tryz.ntmps94]) ?_; simp only [go_sem, ↓reduceIte, Nat.reduceEqDiff, Nat.reduceAdd, Nat.reduceMul, Nat.reduceLeDiff, Nat.reduceLT, Nat.reduceBNe, reduceCtorEq, vc94, rs94]
  refine h.src rfl ?_
  try simp only [go_sem, ↓reduceIte, Nat.reduceEqDiff, Nat.reduceAdd, Nat.reduceMul, Nat.reduceLeDiff, Nat.reduceLT, Nat.reduceBNe, reduceCtorEq]
  refine vappO [] rfl rfl (by omega) ?_
  try simp only [go_sem, ↓reduceIte, Nat.reduceEqDiff, Nat.reduceAdd, Nat.reduceMul, Nat.reduceLeDiff, Nat.reduceLT, Nat.reduceBNe, reduceCtorEq]
  refine k.src rfl ?_
  try simp only [go_sem, ↓reduceIte, Nat.reduceEqDiff, Nat.reduceAdd, Nat.reduceMul, Nat.reduceLeDiff, Nat.reduceLT, Nat.reduceBNe, reduceCtorEq]
  refine vappO (rowS xs) rfl (rowS_len xs) (by omega) ?_
  try simp only [go_sem, ↓reduceIte, Nat.reduceEqDiff, Nat.reduceAdd, Nat.reduceMul, Nat.reduceLeDiff, Nat.reduceLT, Nat.reduceBNe, reduceCtorEq]
  rw [rowS_app]
  obtain ⟨zs, hzs⟩ : ∃ zs, zs = xs ++ ys := ⟨_, rfl⟩
  have hzl : xs.length + ys.length = zs.length := by rw [hzs, List.length_append]
  rw [← hzs, hzl]
  rw [hzl] at hl
  obtain ⟨D, hD⟩ : ∃ D : Nat → List Int, D = fun i => (zs.take i).foldl bnd [] := ⟨_, rfl⟩
  have hD0 : D 0 = [] := by rw [hD]; rfl
  have hDs : ∀ (i : Nat) (hi : i < zs.length), D (i + 1) = insI (insI (D i) (zs[i]).f) (zs[i]).t := fun i hi => by
    rw [hD]
    simp only [List.take_succ_eq_append_getElem hi, List.foldl_append]
    rfl
  have hDl : ∀ i, i ≤ zs.length → (D i).length ≤ 2 * i := fun i hi => by
    have := (bnd_facts (zs.take i) [] List.Pairwise.nil).2.2
    rw [hD]
    simp only [List.length_take, List.length_nil] at this ⊢
    omega
  have hlen : (D zs.length).length ≤ 2 * zs.length := hDl _ (Nat.le_refl _)
  refine vcLoopR Nat (fun i => [(7, .val (.int .i64 i)), (5, .sl 0 (D i).length), (6, .sl 3 zs.length)]) (fun i => [.row 3 1 ((D i).map (.int .i64)), .dead, .dead, .row 32 2 (rowS zs)]) (fun i _ => i ≤ zs.length) (fun i => zs.length - i) 0 [] ?_ ?_ ?_ ?_
  · rw [hD0]
    (try simp only [go_sem, ↓reduceIte, Nat.reduceEqDiff, Nat.reduceAdd, Nat.reduceMul, Nat.reduceLeDiff, Nat.reduceLT, Nat.reduceBNe, reduceCtorEq]) <;> (repeat' (first | rfl | trivial | constructor | (intro h; exact absurd rfl h)))
  · try simp only [go_sem, ↓reduceIte, Nat.reduceEqDiff, Nat.reduceAdd, Nat.reduceMul, Nat.reduceLeDiff, Nat.reduceLT, Nat.reduceBNe, reduceCtorEq]
  · exact Nat.zero_le _
  rintro i env R1 hle1 hE hi
  (simp only [go_sem] at hE; obtain ⟨e7, e5, e6⟩ := hE; simp only [go_sem, ↓reduceIte, Nat.reduceEqDiff, Nat.reduceAdd, Nat.reduceMul, Nat.reduceLeDiff, Nat.reduceLT, Nat.reduceBNe, reduceCtorEq, e7, e5, e6]; dsimp only at *)
  refine ⟨fun hlt => ?_, fun hge => ?_⟩
  · have hlt' : i < zs.length := by omega
    have hDn := hDs i hlt'
    have hcf : (rowS zs)[i * 2]? = some (.int .i64 (zs[i]).f) := (rowS_get zs i 0 hlt' (by omega)).trans rfl
    have hct : (rowS zs)[i * 2 + 1]? = some (.int .i64 (zs[i]).t) := (rowS_get zs i 1 hlt' (by omega)).trans rfl
    refine ⟨hlt, _, hcf, ?_⟩
    have hl0 := hDl i (by omega)
    have hl1 := insI_len (D i) (zs[i]).f
    refine vhand [0] [.sl 0 (D i).length, .val (.int .i64 (zs[i]).f)] [.row 3 1 ((D i).map (.int .i64))] (rInsert (D i) (zs[i]).f (by omega) R1) rfl rfl rfl ?_ (by simp) rfl rfl ?_
    · try simp only [go_sem, ↓reduceIte, Nat.reduceEqDiff, Nat.reduceAdd, Nat.reduceMul, Nat.reduceLeDiff, Nat.reduceLT, Nat.reduceBNe, reduceCtorEq]
    rintro R2 bs r hle2 hpost _
    rcases hpost with ⟨hs, rfl, rfl⟩ | ⟨b1, b2, rfl, rfl⟩
    · simp only [go_sem, ↓reduceIte, Nat.reduceEqDiff, Nat.reduceAdd, Nat.reduceMul, Nat.reduceLeDiff, Nat.reduceLT, Nat.reduceBNe, reduceCtorEq, setG, rn, e7, e5, e6]
      rw [hs] at hDn
      refine ⟨hlt, _, hct, ?_⟩
      refine vhand [0] [.sl 0 (D i).length, .val (.int .i64 (zs[i]).t)] [.row 3 1 ((D i).map (.int .i64))] (rInsert (D i) (zs[i]).t (by omega) R2) rfl rfl rfl ?_ (by simp) rfl rfl ?_
      · try simp only [go_sem, ↓reduceIte, Nat.reduceEqDiff, Nat.reduceAdd, Nat.reduceMul, Nat.reduceLeDiff, Nat.reduceLT, Nat.reduceBNe, reduceCtorEq]
        rfl
      rintro R3 bs r hle3 hpost _
      rcases hpost with ⟨hs', rfl, rfl⟩ | ⟨b1, b2, rfl, rfl⟩
      · simp only [go_sem, ↓reduceIte, Nat.reduceEqDiff, Nat.reduceAdd, Nat.reduceMul, Nat.reduceLeDiff, Nat.reduceLT, Nat.reduceBNe, reduceCtorEq, setG, rn, e7, e5, e6]
        refine ⟨_, W.in64 (by omega), i + 1, [], ?_⟩
        rw [hDn, hs']
        try simp only [go_sem, ↓reduceIte, Nat.reduceEqDiff, Nat.reduceAdd, Nat.reduceMul, Nat.reduceLeDiff, Nat.reduceLT, Nat.reduceBNe, reduceCtorEq]
        exact ⟨by omega, ⟨rfl, rfl⟩, by decide, by omega⟩
      · simp only [go_sem, ↓reduceIte, Nat.reduceEqDiff, Nat.reduceAdd, Nat.reduceMul, Nat.reduceLeDiff, Nat.reduceLT, Nat.reduceBNe, reduceCtorEq, setG, rn, e7, e5, e6]
        refine ⟨_, W.in64 (by omega), i + 1, [8, 1, 2, 3], ?_⟩
        rw [hDn]
        try simp only [go_sem, ↓reduceIte, Nat.reduceEqDiff, Nat.reduceAdd, Nat.reduceMul, Nat.reduceLeDiff, Nat.reduceLT, Nat.reduceBNe, reduceCtorEq]
        exact ⟨by omega, ⟨⟨rfl, rfl⟩, rfl⟩, by decide, by omega⟩
    · simp only [go_sem, ↓reduceIte, Nat.reduceEqDiff, Nat.reduceAdd, Nat.reduceMul, Nat.reduceLeDiff, Nat.reduceLT, Nat.reduceBNe, reduceCtorEq, setG, rn, e7, e5, e6]
      refine ⟨hlt, _, hct, ?_⟩
      refine vhand [8] [.sl 0 (insI (D i) (zs[i]).f).length, .val (.int .i64 (zs[i]).t)] [.row 3 1 ((insI (D i) (zs[i]).f).map (.int .i64))] (rInsert (insI (D i) (zs[i]).f) (zs[i]).t (by omega) R2) rfl rfl rfl ?_ (by simp) rfl rfl ?_
      · try simp only [go_sem, ↓reduceIte, Nat.reduceEqDiff, Nat.reduceAdd, Nat.reduceMul, Nat.reduceLeDiff, Nat.reduceLT, Nat.reduceBNe, reduceCtorEq]
        rfl
      rintro R3 bs r hle3 hpost _
      rcases hpost with ⟨hs', rfl, rfl⟩ | ⟨c1, c2, rfl, rfl⟩
      · simp only [go_sem, ↓reduceIte, Nat.reduceEqDiff, Nat.reduceAdd, Nat.reduceMul, Nat.reduceLeDiff, Nat.reduceLT, Nat.reduceBNe, reduceCtorEq, setG, rn, e7, e5, e6]
        refine ⟨_, W.in64 (by omega), i + 1, [8, 1, 2, 3], ?_⟩
        rw [hDn, hs']
        try simp only [go_sem, ↓reduceIte, Nat.reduceEqDiff, Nat.reduceAdd, Nat.reduceMul, Nat.reduceLeDiff, Nat.reduceLT, Nat.reduceBNe, reduceCtorEq]
        exact ⟨by omega, ⟨rfl, rfl⟩, by decide, by omega⟩
      · simp only [go_sem, ↓reduceIte, Nat.reduceEqDiff, Nat.reduceAdd, Nat.reduceMul, Nat.reduceLeDiff, Nat.reduceLT, Nat.reduceBNe, reduceCtorEq, setG, rn, e7, e5, e6]
        refine ⟨_, W.in64 (by omega), i + 1, [13, 1, 2, 3], ?_⟩
        rw [hDn]
        try simp only [go_sem, ↓reduceIte, Nat.reduceEqDiff, Nat.reduceAdd, Nat.reduceMul, Nat.reduceLeDiff, Nat.reduceLT, Nat.reduceBNe, reduceCtorEq]
        exact ⟨by omega, ⟨⟨rfl, rfl⟩, rfl⟩, by decide, by omega⟩
  · obtain rfl : i = zs.length := by omega
    intro b cap' R' hle hrow hcap' hfr
    have hb := bnd_facts zs [] List.Pairwise.nil
    have hDz : D zs.length = zs.foldl bnd [] := by rw [hD]; simp
    refine ⟨_, RowIn.enc (fun _ => rfl) (by omega) (by rw [flat1]; exact hrow) (by rw [flat1]; omega) (by omega), ?_, fun y => ?_, hlen⟩
    · rw [hDz]; exact hb.1
    · rw [hDz, hb.2.1]; simp
end Go.Proofs.YtclkibjonbhldaaGreatDoor
/- Plain lemmas of our own, no statement of the seat: combining two lists of spans; the reference's Combine. -/
namespace Go.Proofs.YtclkibjonbhldaaGreatDoor
set_option linter.unusedSimpArgs false
set_option linter.unusedVariables false
open Go.Proofs.YtclkibjonbhldaaGreatDoor.Vc
/-! ### Plain -/
theorem memS_const {l : List Sp} {x0 x : Int} (h : x0 ≤ x) (hn : ∀ s ∈ l, (s.f ≤ x0 ∨ x < s.f) ∧ (s.t ≤ x0 ∨ x < s.t)) : memS l x = memS l x0 := by
  rw [Bool.eq_iff_iff, memS_iff, memS_iff]
  constructor
  · rintro ⟨s, hs, h1, h2⟩
    obtain ⟨h3, h4⟩ := hn s hs
    exact ⟨s, hs, by omega, by omega⟩
  · rintro ⟨s, hs, h1, h2⟩
    obtain ⟨h3, h4⟩ := hn s hs
    exact ⟨s, hs, by omega, by omega⟩
structure CutAt (all : List Int) (P : Int → Bool) : Prop where
  const : ∀ i (hi : i + 1 < all.length) x, all[i] ≤ x → x < all[i + 1] → P x = P all[i]
  lo : ∀ x, (∀ y ∈ all, x < y) → P x = false
  hi : ∀ x, (∀ y ∈ all, y ≤ x) → P x = false
theorem cut_of {all : List Int} {a b : List Sp} (hI : Inc all) (hm : ∀ y, y ∈ all ↔ ∃ s ∈ a ++ b, y = s.f ∨ y = s.t) (op : Bool → Bool → Bool) (h0 : op false false = false) : CutAt all fun x => op (memS a x) (memS b x) := by
  have hin : ∀ s ∈ a ++ b, s.f ∈ all ∧ s.t ∈ all := fun s hs => ⟨(hm _).2 ⟨s, hs, .inl rfl⟩, (hm _).2 ⟨s, hs, .inr rfl⟩⟩
  have hlo : ∀ l : List Sp, (∀ s ∈ l, s ∈ a ++ b) → ∀ x, (∀ y ∈ all, x < y) → memS l x = false := fun l hl x h => by
    cases hx : memS l x with
    | false => rfl
    | true =>
      obtain ⟨s, hs, h1, _⟩ := memS_iff.1 hx
      have := h _ (hin s (hl s hs)).1
      omega
  have hhi : ∀ l : List Sp, (∀ s ∈ l, s ∈ a ++ b) → ∀ x, (∀ y ∈ all, y ≤ x) → memS l x = false := fun l hl x h => by
    cases hx : memS l x with
    | false => rfl
    | true =>
      obtain ⟨s, hs, _, h1⟩ := memS_iff.1 hx
      have := h _ (hin s (hl s hs)).2
      omega
  have ha : ∀ s ∈ a, s ∈ a ++ b := fun s hs => by simp [hs]
  have hb : ∀ s ∈ b, s ∈ a ++ b := fun s hs => by simp [hs]
  refine ⟨fun i hi x h1 h2 => ?_, fun x h => ?_, fun x h => ?_⟩
  · have hno : ∀ y ∈ all, y ≤ all[i] ∨ x < y := fun y hy => by
      obtain ⟨j, hj, rfl⟩ := List.mem_iff_getElem.1 hy
      rcases Nat.lt_trichotomy j i with h | h | h
      · have := hI.get_lt h (by omega); omega
      · subst h; exact .inl (by omega)
      · rcases Nat.eq_or_lt_of_le (show i + 1 ≤ j by omega) with h | h
        · subst h; exact .inr h2
        · have := hI.get_lt h hj; omega
    have hc : ∀ l : List Sp, (∀ s ∈ l, s ∈ a ++ b) → memS l x = memS l all[i] := fun l hl => memS_const h1 fun s hs => ⟨hno _ (hin s (hl s hs)).1, hno _ (hin s (hl s hs)).2⟩
    show op _ _ = op _ _
    rw [hc a ha, hc b hb]
  · show op _ _ = _
    rw [hlo a ha x h, hlo b hb x h, h0]
  · show op _ _ = _
    rw [hhi a ha x h, hhi b hb x h, h0]
/-- What stands after the bounds up to t. -/
structure UpTo (P : Int → Bool) (out : List Sp) (t : Int) : Prop where
  nor : Normal out
  le : ∀ s ∈ out, s.t ≤ t
  mem : ∀ x, memS out x = (decide (x < t) && P x)
theorem UpTo.no {P : Int → Bool} {out : List Sp} {t u : Int} (h : UpTo P out t) (htu : t < u) (hc : ∀ x, t ≤ x → x < u → P x = P t) (hp : P t = false) : UpTo P out u :=
  ⟨h.nor, fun s hs => by have := h.le s hs; omega, fun x => by
    rw [h.mem]
    by_cases h1 : x < t
    · rw [decide_eq_true h1, decide_eq_true (show x < u by omega)]
    · rw [decide_eq_false h1, Bool.false_and]
      by_cases h2 : x < u
      · rw [hc x (by omega) h2, hp, Bool.and_false]
      · rw [decide_eq_false h2, Bool.false_and]⟩
theorem UpTo.new {P : Int → Bool} {out : List Sp} {t u : Int} (h : UpTo P out t) (htu : t < u) (hc : ∀ x, t ≤ x → x < u → P x = P t) (hp : P t = true) (hl : ∀ s ∈ out, s.t ≠ t) : UpTo P (out ++ [⟨t, u⟩]) u :=
  ⟨h.nor.snoc htu fun x hx => by have := h.le x hx; have := hl x hx; show _ < t; omega, fun s hs => by
    rcases List.mem_append.1 hs with hs | hs
    · have := h.le s hs; omega
    · simp only [List.mem_cons, List.not_mem_nil, or_false] at hs
      subst hs; exact Int.le_refl _, fun x => by
    rw [memS_app, h.mem, memS_cons, memS_nil, Bool.or_false]
    by_cases h1 : x < t
    · rw [decide_eq_true h1, decide_eq_true (show x < u by omega), decide_eq_false (show ¬ t ≤ x by omega), Bool.false_and, Bool.or_false]
    · rw [decide_eq_false h1, Bool.false_and, Bool.false_or, decide_eq_true (show t ≤ x by omega), Bool.true_and]
      by_cases h2 : x < u
      · rw [hc x (by omega) h2, hp, Bool.and_true]
      · rw [decide_eq_false h2, Bool.false_and]⟩
theorem UpTo.grow {P : Int → Bool} {out : List Sp} {s : Sp} {t u : Int} (h : UpTo P (out ++ [s]) t) (htu : t < u) (hc : ∀ x, t ≤ x → x < u → P x = P t) (hp : P t = true) (hl : s.t = t) : UpTo P (out ++ [⟨s.f, u⟩]) u :=
  have hs := h.nor.last
  ⟨hs.1.snoc (by show s.f < u; omega) fun x hx => hs.2.2 x hx, fun x hx => by
    rcases List.mem_append.1 hx with hx | hx
    · have := h.le x (by simp [hx]); omega
    · simp only [List.mem_cons, List.not_mem_nil, or_false] at hx
      subst hx; exact Int.le_refl _, fun x => by
    have h0 := h.mem x
    rw [memS_app, memS_cons, memS_nil, Bool.or_false] at h0
    rw [memS_app, memS_cons, memS_nil, Bool.or_false]
    show (memS out x || (decide (s.f ≤ x) && decide (x < u))) = _
    by_cases h1 : x < t
    · have e : decide (x < s.t) = true := decide_eq_true (by omega)
      rw [e, decide_eq_true h1] at h0
      rw [decide_eq_true (show x < u by omega)]
      exact h0
    · have hf : memS out x = false := by
        cases hx : memS out x with
        | false => rfl
        | true => rw [hx, decide_eq_false h1] at h0; simp at h0
      rw [hf, Bool.false_or, decide_eq_true (show s.f ≤ x by omega), Bool.true_and]
      by_cases h2 : x < u
      · rw [hc x (by omega) h2, hp, Bool.and_true]
      · rw [decide_eq_false h2, Bool.false_and]⟩
/-- The last span's end, where it is t. -/
theorem UpTo.last_ne {P : Int → Bool} {out : List Sp} {t : Int} (h : UpTo P out t) (hl : ∀ (hn : 0 < out.length), (out[out.length - 1]'(by omega)).t ≠ t) : ∀ s ∈ out, s.t ≠ t := by
  intro s hs e
  obtain ⟨j, hj, rfl⟩ := List.mem_iff_getElem.1 hs
  by_cases hjl : j = out.length - 1
  · subst hjl; exact hl (by omega) e
  · have h1 := List.pairwise_iff_getElem.1 h.nor.ord j (out.length - 1) hj (by omega) (by omega)
    have h2 := h.nor.pos _ (List.getElem_mem (show out.length - 1 < out.length by omega))
    have h3 := h.le _ (List.getElem_mem (show out.length - 1 < out.length by omega))
    omega
theorem UpTo.start {all : List Int} {P : Int → Bool} (hI : Inc all) (hC : CutAt all P) (h : 0 < all.length) : UpTo P [] all[0] :=
  ⟨Normal.nil, by simp, fun x => by
    rw [memS_nil]
    by_cases h1 : x < all[0]
    · rw [hC.lo x fun y hy => ?_, Bool.and_false]
      obtain ⟨j, hj, rfl⟩ := List.mem_iff_getElem.1 hy
      rcases Nat.eq_zero_or_pos j with h | h
      · subst h; exact h1
      · have := hI.get_lt h hj; omega
    · rw [decide_eq_false h1, Bool.false_and]⟩
theorem UpTo.fin {all : List Int} {P : Int → Bool} (hI : Inc all) (hC : CutAt all P) {out : List Sp} {i : Nat} (hi : i + 1 = all.length) (h : UpTo P out (all[i]'(by omega))) : ∀ x, memS out x = P x := by
  intro x
  rw [h.mem]
  by_cases h1 : x < all[i]
  · rw [decide_eq_true h1, Bool.true_and]
  · rw [decide_eq_false h1, Bool.false_and]
    symm
    refine hC.hi x fun y hy => ?_
    obtain ⟨j, hj, rfl⟩ := List.mem_iff_getElem.1 hy
    rcases Nat.eq_or_lt_of_le (show j ≤ i by omega) with h | h
    · subst h; omega
    · have := hI.get_lt h (show i < all.length by omega); omega
theorem rowS_grow (o : List Sp) (s : Sp) (t : Int) : (rowS (o ++ [s])).set (((o ++ [s]).length - 1) * 2 + 1) (.int .i64 t) = rowS (o ++ [⟨s.f, t⟩]) := by
  rw [← rowS_app, ← rowS_app, List.set_append_right _ _ (by rw [rowS_len]; simp)]
  congr 1
  rw [rowS_len, List.length_append, show (o.length + [s].length - 1) * 2 + 1 - o.length * 2 = 1 by simp]
  rfl
theorem split_last {α : Type} (l : List α) (h : l.length - 1 < l.length) : l = l.take (l.length - 1) ++ [l[l.length - 1]] := by
  have h1 := List.take_succ_eq_append_getElem h
  rw [← h1, List.take_of_length_le (by omega)]
theorem opB_ff (k : Int) : opB k false false = false := by
  unfold opB
  split
  · rfl
  · split <;> rfl
set_option maxHeartbeats 1000000 in
theorem rCombine (k : Int) (xs ys : List Sp) (v u : Value) (R : RO) (h : SpV R v xs) (h' : SpV R u ys) (hl : xs.length + ys.length ≤ 10000000) : CallsR Tryz.prog 73 [.int .i64 k, v, u] R fun R' r => ∃ zs, SpV R' r zs ∧ Normal zs ∧ (∀ t, memS zs t = opB k (memS xs t) (memS ys t)) ∧ zs.length ≤ 2 * (xs.length + ys.length) := by
  have hB := rBounds xs ys v u R h h' hl
  have hA := fun t R' hle => rHasS xs t v R' (EncV.mono (R' := R') h hle)
  have hB' := fun t R' hle => rHasS ys t u R' (EncV.mono (R' := R') h' hle)
  obtain ⟨a, cap, rfl, hc, hf⟩ := h.form
  obtain ⟨b, cap', rfl, hc', hf'⟩ := h'.form
  refine callsT mix Tryz.func73 comp73 (by simp [Tryz.ntmps73]) ?_; simp only [go_sem, ↓reduceIte, Nat.reduceEqDiff, Nat.reduceAdd, Nat.reduceMul, Nat.reduceLeDiff, Nat.reduceLT, Nat.reduceBNe, reduceCtorEq, vc73, rs73]
  refine vcall hB ?_
  rintro R1 r hle1 ⟨all, hall, hI, hm, hlen⟩
  have hC := cut_of hI hm (opB k) (opB_ff k)
  obtain ⟨g, gcap, rfl, hgc, hg⟩ := hall.form
  obtain ⟨P, hP⟩ : ∃ P : Int → Bool, P = fun x => opB k (memS xs x) (memS ys x) := ⟨_, rfl⟩
  rw [← hP] at hC
  try simp only [go_sem, ↓reduceIte, Nat.reduceEqDiff, Nat.reduceAdd, Nat.reduceMul, Nat.reduceLeDiff, Nat.reduceLT, Nat.reduceBNe, reduceCtorEq]
  refine vcLoopR (Nat × List Sp) (fun x => [(9, .val (.int .i64 x.1)), (7, .val (.slice g all.length gcap)), (8, .sl 0 x.2.length), (0, .val (.int .i64 k)), (1, .val (.slice a xs.length cap)), (2, .val (.slice b ys.length cap'))]) (fun x => [.row 32 2 (rowS x.2)]) (fun x _ => x.2.length ≤ x.1 ∧ (x.1 < all.length ∨ x = (0, [])) ∧ ∀ hi : x.1 < all.length, UpTo P x.2 all[x.1]) (fun x => all.length - x.1) (0, []) [] ?_ ?_ ?_ ?_
  · (try simp only [go_sem, ↓reduceIte, Nat.reduceEqDiff, Nat.reduceAdd, Nat.reduceMul, Nat.reduceLeDiff, Nat.reduceLT, Nat.reduceBNe, reduceCtorEq]) <;> (repeat' (first | rfl | trivial | constructor | (intro h; exact absurd rfl h)))
  · try simp only [go_sem, ↓reduceIte, Nat.reduceEqDiff, Nat.reduceAdd, Nat.reduceMul, Nat.reduceLeDiff, Nat.reduceLT, Nat.reduceBNe, reduceCtorEq]
  · exact ⟨Nat.le_refl _, .inr rfl, fun hi => UpTo.start hI hC hi⟩
  rintro ⟨i, out⟩ env R2 hle2 hE ⟨hol, hi, hU⟩
  (simp only [go_sem] at hE; obtain ⟨e9, e7, e8, e0, e1, e2⟩ := hE; simp only [go_sem, ↓reduceIte, Nat.reduceEqDiff, Nat.reduceAdd, Nat.reduceMul, Nat.reduceLeDiff, Nat.reduceLT, Nat.reduceBNe, reduceCtorEq, e9, e7, e8, e0, e1, e2]; dsimp only at *)
  have hil : i ≤ all.length := by rcases hi with h | h; omega; simp only [Prod.mk.injEq] at h; omega
  have hgR : ∀ (j : Nat) (hj : j < all.length), ∃ ad, g = some ad ∧ R1 (ad.add j) (.int .i64 all[j]) := fun j hj => by
    obtain ⟨ad, had, hR⟩ := hg j hj
    have := hR 0 _ rfl
    rw [add_add, Nat.mul_one, Nat.add_zero] at this
    exact ⟨ad, had, this⟩
  refine ⟨_, W.in64 (by omega), fun hlt => ⟨by omega, ?_⟩, fun hge => ?_⟩
  · have hlt' : i + 1 < all.length := by omega
    have hU := hU (by omega)
    have htu : all[i] < all[i + 1] := hI.get_lt (by omega) hlt'
    have hcst := hC.const i hlt'
    obtain ⟨ad, had, hR⟩ := hgR i (by omega)
    obtain ⟨ad', had', hR'⟩ := hgR (i + 1) hlt'
    obtain ⟨t, ht⟩ : ∃ t, t = all[i] := ⟨_, rfl⟩
    obtain ⟨t2, ht2⟩ : ∃ t, t = all[i + 1] := ⟨_, rfl⟩
    rw [← ht] at hU htu hcst hR
    rw [← ht2] at htu hcst hR'
    refine vat ad had ?_
    try simp only [go_sem, ↓reduceIte, Nat.reduceEqDiff, Nat.reduceAdd, Nat.reduceMul, Nat.reduceLeDiff, Nat.reduceLT, Nat.reduceBNe, reduceCtorEq]
    refine vload _ (hle2 _ _ hR) ?_
    simp only [go_sem, ↓reduceIte, Nat.reduceEqDiff, Nat.reduceAdd, Nat.reduceMul, Nat.reduceLeDiff, Nat.reduceLT, Nat.reduceBNe, reduceCtorEq, e9, e7, e8, e0, e1, e2]
    refine vcall (hA t R2 (RO.le_trans hle1 hle2)) ?_
    rintro R3 r hle3 rfl
    simp only [go_sem, ↓reduceIte, Nat.reduceEqDiff, Nat.reduceAdd, Nat.reduceMul, Nat.reduceLeDiff, Nat.reduceLT, Nat.reduceBNe, reduceCtorEq, e9, e7, e8, e0, e1, e2]
    refine vcall (hB' t R3 (RO.le_trans hle1 (RO.le_trans hle2 hle3))) ?_
    rintro R4 r hle4 rfl
    simp only [go_sem, ↓reduceIte, Nat.reduceEqDiff, Nat.reduceAdd, Nat.reduceMul, Nat.reduceLeDiff, Nat.reduceLT, Nat.reduceBNe, reduceCtorEq, e9, e7, e8, e0, e1, e2]
    refine vcall (rIn k (memS xs t) (memS ys t) R4) ?_
    rintro R5 r hle5 rfl
    have hPt : opB k (memS xs t) (memS ys t) = P t := by rw [hP]
    rw [hPt]
    simp only [go_sem, ↓reduceIte, Nat.reduceEqDiff, Nat.reduceAdd, Nat.reduceMul, Nat.reduceLeDiff, Nat.reduceLT, Nat.reduceBNe, reduceCtorEq, e9, e7, e8, e0, e1, e2]
    have hnext : ∀ (h : i + 1 < all.length) (o : List Sp), UpTo P o t2 → UpTo P o (all[i + 1]'h) := fun h o hu => by rw [ht2] at hu; exact hu
    refine ⟨fun hp => ⟨_, W.in64 (by omega), (i + 1, out), [], (by show all.length - (i + 1) < _; omega), ⟨⟨rfl, rfl⟩, rfl⟩, by decide, (by show out.length ≤ i + 1; omega), .inl hlt', fun h => hnext h _ (hU.no htu hcst hp)⟩, fun hp => ⟨fun hpos => ?_, fun hneg => ?_⟩⟩
    · have hn : out.length - 1 < out.length := by omega
      refine ⟨_, W.in64 (by omega), by omega, by omega, ?_⟩
      rw [show ((out.length : Int) - 1).toNat = out.length - 1 by omega]
      refine ⟨_, (rowS_get out (out.length - 1) 1 hn (by omega)).trans rfl, ?_⟩
      simp only [go_sem, ↓reduceIte, Nat.reduceEqDiff, Nat.reduceAdd, Nat.reduceMul, Nat.reduceLeDiff, Nat.reduceLT, Nat.reduceBNe, reduceCtorEq, e9, e7, e8, e0, e1, e2]
      refine ⟨fun hst => ?_, fun hst => ?_⟩
      · obtain ⟨o, s, hos⟩ : ∃ o s, out = o ++ [s] := ⟨_, _, split_last out hn⟩
        have hs : out[out.length - 1] = s := by subst hos; simp
        rw [hs] at hst
        refine ⟨_, W.in64 (by omega), _, W.in64 (by omega), by omega, by omega, ?_⟩
        rw [show ((i : Int) + 1).toNat = i + 1 by omega]
        refine vat ad' had' ?_
        try simp only [go_sem, ↓reduceIte, Nat.reduceEqDiff, Nat.reduceAdd, Nat.reduceMul, Nat.reduceLeDiff, Nat.reduceLT, Nat.reduceBNe, reduceCtorEq]
        refine vload _ (hle5 _ _ (hle4 _ _ (hle3 _ _ (hle2 _ _ hR')))) ?_
        simp only [go_sem, ↓reduceIte, Nat.reduceEqDiff, Nat.reduceAdd, Nat.reduceMul, Nat.reduceLeDiff, Nat.reduceLT, Nat.reduceBNe, reduceCtorEq, e9, e7, e8, e0, e1, e2]
        refine ⟨by omega, by omega, by rw [rowS_len]; omega, _, W.in64 (by omega), (i + 1, o ++ [⟨s.f, t2⟩]), [], ?_⟩
        subst hos
        refine ⟨by show all.length - (i + 1) < _; omega, ⟨⟨rfl, ?_⟩, ?_⟩, by decide, ?_, .inl hlt', fun h => hnext h _ (hU.grow htu hcst hp hst)⟩
        · rw [List.length_append, List.length_append]; rfl
        · rw [show (((o ++ [s]).length : Int) - 1).toNat = (o ++ [s]).length - 1 by omega, rowS_grow]; rfl
        · simp only [List.length_append, List.length_cons, List.length_nil] at hol ⊢; omega
      · refine ⟨_, W.in64 (by omega), by omega, by omega, ?_⟩
        rw [show ((i : Int) + 1).toNat = i + 1 by omega]
        refine vat ad' had' ?_
        try simp only [go_sem, ↓reduceIte, Nat.reduceEqDiff, Nat.reduceAdd, Nat.reduceMul, Nat.reduceLeDiff, Nat.reduceLT, Nat.reduceBNe, reduceCtorEq]
        refine vload _ (hle5 _ _ (hle4 _ _ (hle3 _ _ (hle2 _ _ hR')))) ?_
        simp only [go_sem, ↓reduceIte, Nat.reduceEqDiff, Nat.reduceAdd, Nat.reduceMul, Nat.reduceLeDiff, Nat.reduceLT, Nat.reduceBNe, reduceCtorEq, e9, e7, e8, e0, e1, e2]
        refine vappO (rowS out) rfl (rowS_len out) (by omega) ?_
        simp only [go_sem, ↓reduceIte, Nat.reduceEqDiff, Nat.reduceAdd, Nat.reduceMul, Nat.reduceLeDiff, Nat.reduceLT, Nat.reduceBNe, reduceCtorEq, e9, e7, e8, e0, e1, e2]
        refine ⟨_, W.in64 (by omega), (i + 1, out ++ [⟨t, t2⟩]), [2], ?_⟩
        refine ⟨by show all.length - (i + 1) < _; omega, ⟨⟨rfl, ?_⟩, ?_⟩, by decide, ?_, .inl hlt', fun h => hnext h _ (hU.new htu hcst hp (hU.last_ne fun _ => hst))⟩
        · rw [List.length_append]; rfl
        · rw [← rowS_app]; rfl
        · simp only [List.length_append, List.length_cons, List.length_nil]; omega
    · have h0 : out = [] := List.eq_nil_of_length_eq_zero (by omega)
      subst h0
      simp only [go_sem, ↓reduceIte, Nat.reduceEqDiff, Nat.reduceAdd, Nat.reduceMul, Nat.reduceLeDiff, Nat.reduceLT, Nat.reduceBNe, reduceCtorEq, e9, e7, e8, e0, e1, e2]
      refine ⟨_, W.in64 (by omega), by omega, by omega, ?_⟩
      rw [show ((i : Int) + 1).toNat = i + 1 by omega]
      refine vat ad' had' ?_
      try simp only [go_sem, ↓reduceIte, Nat.reduceEqDiff, Nat.reduceAdd, Nat.reduceMul, Nat.reduceLeDiff, Nat.reduceLT, Nat.reduceBNe, reduceCtorEq]
      refine vload _ (hle5 _ _ (hle4 _ _ (hle3 _ _ (hle2 _ _ hR')))) ?_
      simp only [go_sem, ↓reduceIte, Nat.reduceEqDiff, Nat.reduceAdd, Nat.reduceMul, Nat.reduceLeDiff, Nat.reduceLT, Nat.reduceBNe, reduceCtorEq, e9, e7, e8, e0, e1, e2]
      refine vappO (rowS []) rfl (rowS_len []) (by omega) ?_
      simp only [go_sem, ↓reduceIte, Nat.reduceEqDiff, Nat.reduceAdd, Nat.reduceMul, Nat.reduceLeDiff, Nat.reduceLT, Nat.reduceBNe, reduceCtorEq, e9, e7, e8, e0, e1, e2]
      refine ⟨_, W.in64 (by omega), (i + 1, [⟨t, t2⟩]), [2], ?_⟩
      exact ⟨by show all.length - (i + 1) < _; omega, ⟨⟨rfl, rfl⟩, rfl⟩, by decide, (by show 1 ≤ i + 1; omega), .inl hlt', fun h => hnext h _ (hU.new htu hcst hp (by simp))⟩
  · intro b' cap2 R' hle hrow hcap hfr
    have hmem : ∀ t, memS out t = P t := by
      rcases hi with h1 | h1
      · exact UpTo.fin hI hC (by omega) (hU h1)
      · simp only [Prod.mk.injEq] at h1
        obtain ⟨rfl, rfl⟩ := h1
        intro t
        rcases Nat.eq_zero_or_pos all.length with h2 | h2
        · rw [memS_nil, hC.lo t (by rw [List.eq_nil_of_length_eq_zero h2]; simp)]
        · exact UpTo.fin hI hC (by omega) (hU h2) t
    have hnor : Normal out := by
      rcases hi with h1 | h1
      · exact (hU h1).nor
      · simp only [Prod.mk.injEq] at h1
        obtain ⟨rfl, rfl⟩ := h1
        exact Normal.nil
    exact ⟨out, RowIn.enc (fun _ => rfl) (by omega) hrow hcap (by omega), hnor, fun t => by rw [hmem, hP], by omega⟩
end Go.Proofs.YtclkibjonbhldaaGreatDoor
/- Plain lemmas of our own, no statement of the seat: groups; which group a person belongs to. -/
namespace Go.Proofs.YtclkibjonbhldaaGreatDoor
set_option linter.unusedSimpArgs false
set_option linter.unusedVariables false
open Go.Proofs.YtclkibjonbhldaaGreatDoor.Vc
/-! ### Groups -/
/-- A list of lists of numbers in memory. -/
def GV (R : RO) (v : Value) (gs : List (List Int)) : Prop := ∃ hs : List Value, EncV (fun x : Value => [x]) 1 R v hs ∧ hs.length = gs.length ∧ ∀ i (h : i < hs.length) (h' : i < gs.length), IntV R hs[i] gs[i]
theorem GV.mono {R R' : RO} {v : Value} {gs : List (List Int)} (h : GV R v gs) (hle : RO.le R R') : GV R' v gs := by
  obtain ⟨hs, h1, h2, h3⟩ := h
  exact ⟨hs, h1.mono hle, h2, fun i h h' => (h3 i h h').mono hle⟩
theorem GV.form {R : RO} {v : Value} {gs : List (List Int)} (h : GV R v gs) : gs.length ≤ 1000000000 ∧ ∃ a cap, v = .slice a gs.length cap ∧ gs.length ≤ cap ∧ ∀ i (hi : i < gs.length), ∃ ad u, a = some ad ∧ R (ad.add i) u ∧ IntV R u gs[i] := by
  obtain ⟨hs, h1, h2, h3⟩ := h
  have hl := h1.2
  obtain ⟨a, cap, rfl, hc, hf⟩ := h1.form
  refine ⟨by omega, a, cap, by rw [h2], by omega, fun i hi => ?_⟩
  obtain ⟨ad, ha, hR⟩ := hf i (by omega)
  have := hR 0 _ rfl
  rw [add_add, Nat.mul_one, Nat.add_zero] at this
  exact ⟨ad, _, ha, this, h3 i (by omega) hi⟩
theorem IntV.form {R : RO} {v : Value} {xs : List Int} (h : IntV R v xs) : xs.length ≤ 1000000000 ∧ ∃ a cap, v = .slice a xs.length cap ∧ xs.length ≤ cap ∧ ∀ i (hi : i < xs.length), ∃ ad, a = some ad ∧ R (ad.add i) (.int .i64 xs[i]) := by
  have hl := h.2
  obtain ⟨a, cap, rfl, hc, hf⟩ := EncV.form h
  refine ⟨hl, a, cap, rfl, hc, fun i hi => ?_⟩
  obtain ⟨ad, ha, hR⟩ := hf i hi
  have := hR 0 _ rfl
  rw [add_add, Nat.mul_one, Nat.add_zero] at this
  exact ⟨ad, ha, this⟩
def grpOf (gs : List (List Int)) (p : Int) : Int := match gs.findIdx? fun g => g.contains p with
  | some i => i
  | none => -1 - p
theorem grpOf_here {gs : List (List Int)} {p : Int} {i : Nat} (hi : i < gs.length) (h : gs[i].contains p = true) (hno : ∀ j (hj : j < gs.length), j < i → gs[j].contains p = false) : grpOf gs p = i := by
  unfold grpOf
  rw [show gs.findIdx? (fun g => g.contains p) = some i from List.findIdx?_eq_some_iff_getElem.2 ⟨hi, h, fun j hj => by rw [hno j (by omega) hj]; simp⟩]
theorem grpOf_none {gs : List (List Int)} {p : Int} (hno : ∀ j (hj : j < gs.length), gs[j].contains p = false) : grpOf gs p = -1 - p := by
  unfold grpOf
  rw [List.findIdx?_eq_none_iff.2 fun g hg => by obtain ⟨j, hj, rfl⟩ := List.mem_iff_getElem.1 hg; exact hno j hj]
theorem rHas (xs : List Int) (p : Int) (v : Value) (R : RO) (h : IntV R v xs) : CallsR Tryz.prog 74 [v, .int .i64 p] R fun _ r => r = .bool (xs.contains p) := by
  obtain ⟨hxl, a, cap, rfl, hc, hg⟩ := h.form
  refine callsT mix Tryz.func74 comp74 (by simp [Tryz.ntmps74]) ?_; simp only [go_sem, ↓reduceIte, Nat.reduceEqDiff, Nat.reduceAdd, Nat.reduceMul, Nat.reduceLeDiff, Nat.reduceLT, Nat.reduceBNe, reduceCtorEq, vc74, rs74]
  refine vcLoop Nat (fun i => [(5, .val (.int .i64 i)), (0, .val (.slice a xs.length cap)), (1, .val (.int .i64 p))]) (fun _ => []) (fun i _ => i ≤ xs.length ∧ ∀ j (hj : j < xs.length), j < i → xs[j] ≠ p) (fun i => xs.length - i) 0 ?_ ?_ ?_ ?_
  · (try simp only [go_sem, ↓reduceIte, Nat.reduceEqDiff, Nat.reduceAdd, Nat.reduceMul, Nat.reduceLeDiff, Nat.reduceLT, Nat.reduceBNe, reduceCtorEq]) <;> (repeat' (first | rfl | trivial | constructor | (intro h; exact absurd rfl h)))
  · try simp only [go_sem, ↓reduceIte, Nat.reduceEqDiff, Nat.reduceAdd, Nat.reduceMul, Nat.reduceLeDiff, Nat.reduceLT, Nat.reduceBNe, reduceCtorEq]
  · exact ⟨Nat.zero_le _, fun j _ hj => absurd hj (by omega)⟩
  rintro i env R1 hle1 hE ⟨hi, hno⟩
  (simp only [go_sem] at hE; obtain ⟨e5, e0, e1⟩ := hE; simp only [go_sem, ↓reduceIte, Nat.reduceEqDiff, Nat.reduceAdd, Nat.reduceMul, Nat.reduceLeDiff, Nat.reduceLT, Nat.reduceBNe, reduceCtorEq, e5, e0, e1]; dsimp only at *)
  refine ⟨fun hlt => ?_, fun hge => ?_⟩
  · have hlt' : i < xs.length := by omega
    obtain ⟨ad, had, hR⟩ := hg i hlt'
    refine ⟨by omega, vat ad had ?_⟩
    try simp only [go_sem, ↓reduceIte, Nat.reduceEqDiff, Nat.reduceAdd, Nat.reduceMul, Nat.reduceLeDiff, Nat.reduceLT, Nat.reduceBNe, reduceCtorEq]
    refine vload _ (hle1 _ _ hR) ?_
    simp only [go_sem, ↓reduceIte, Nat.reduceEqDiff, Nat.reduceAdd, Nat.reduceMul, Nat.reduceLeDiff, Nat.reduceLT, Nat.reduceBNe, reduceCtorEq, e5, e0, e1]
    refine ⟨fun he => ?_, fun he => ?_⟩
    · congr 1
      symm
      rw [List.contains_iff_mem]
      exact he ▸ List.getElem_mem hlt'
    · refine ⟨_, W.in64 (by omega), i + 1, by omega, rfl, by omega, fun j hj hji => ?_⟩
      by_cases hij : j = i
      · subst hij; exact he
      · exact hno j hj (by omega)
  · congr 1
    symm
    rw [← Bool.not_eq_true, List.contains_iff_mem]
    intro hm
    obtain ⟨j, hj, e⟩ := List.mem_iff_getElem.1 hm
    exact hno j hj (by omega) e
theorem rGroupOf (gs : List (List Int)) (p : Int) (hp : -1000000 ≤ p ∧ p ≤ 1000000) (v : Value) (R : RO) (h : GV R v gs) : CallsR Tryz.prog 38 [v, .int .i64 p] R fun _ r => r = .int .i64 (grpOf gs p) := by
  obtain ⟨hxl, a, cap, rfl, hc, hg⟩ := h.form
  refine callsT mix Tryz.func38 comp38 (by simp [Tryz.ntmps38]) ?_; simp only [go_sem, ↓reduceIte, Nat.reduceEqDiff, Nat.reduceAdd, Nat.reduceMul, Nat.reduceLeDiff, Nat.reduceLT, Nat.reduceBNe, reduceCtorEq, vc38, rs38]
  refine vcLoop Nat (fun i => [(5, .val (.int .i64 i)), (0, .val (.slice a gs.length cap)), (1, .val (.int .i64 p))]) (fun _ => []) (fun i _ => i ≤ gs.length ∧ ∀ j (hj : j < gs.length), j < i → gs[j].contains p = false) (fun i => gs.length - i) 0 ?_ ?_ ?_ ?_
  · (try simp only [go_sem, ↓reduceIte, Nat.reduceEqDiff, Nat.reduceAdd, Nat.reduceMul, Nat.reduceLeDiff, Nat.reduceLT, Nat.reduceBNe, reduceCtorEq]) <;> (repeat' (first | rfl | trivial | constructor | (intro h; exact absurd rfl h)))
  · try simp only [go_sem, ↓reduceIte, Nat.reduceEqDiff, Nat.reduceAdd, Nat.reduceMul, Nat.reduceLeDiff, Nat.reduceLT, Nat.reduceBNe, reduceCtorEq]
  · exact ⟨Nat.zero_le _, fun j _ hj => absurd hj (by omega)⟩
  rintro i env R1 hle1 hE ⟨hi, hno⟩
  (simp only [go_sem] at hE; obtain ⟨e5, e0, e1⟩ := hE; simp only [go_sem, ↓reduceIte, Nat.reduceEqDiff, Nat.reduceAdd, Nat.reduceMul, Nat.reduceLeDiff, Nat.reduceLT, Nat.reduceBNe, reduceCtorEq, e5, e0, e1]; dsimp only at *)
  refine ⟨fun hlt => ?_, fun hge => ?_⟩
  · have hlt' : i < gs.length := by omega
    obtain ⟨ad, u, had, hR, hu⟩ := hg i hlt'
    refine ⟨by omega, vat ad had ?_⟩
    try simp only [go_sem, ↓reduceIte, Nat.reduceEqDiff, Nat.reduceAdd, Nat.reduceMul, Nat.reduceLeDiff, Nat.reduceLT, Nat.reduceBNe, reduceCtorEq]
    refine vload _ (hle1 _ _ hR) ?_
    simp only [go_sem, ↓reduceIte, Nat.reduceEqDiff, Nat.reduceAdd, Nat.reduceMul, Nat.reduceLeDiff, Nat.reduceLT, Nat.reduceBNe, reduceCtorEq, e5, e0, e1]
    refine vcall (rHas gs[i] p u R1 (hu.mono hle1)) ?_
    rintro R2 r hle2 rfl
    simp only [go_sem, ↓reduceIte, Nat.reduceEqDiff, Nat.reduceAdd, Nat.reduceMul, Nat.reduceLeDiff, Nat.reduceLT, Nat.reduceBNe, reduceCtorEq, e5, e0, e1]
    refine ⟨fun he => ?_, fun he => ?_⟩
    · rw [grpOf_here hlt' he hno]
    · refine ⟨_, W.in64 (by omega), i + 1, by omega, rfl, by omega, fun j hj hji => ?_⟩
      by_cases hij : j = i
      · subst hij; exact he
      · exact hno j hj (by omega)
  · refine ⟨_, W.in64 (by omega), ?_⟩
    rw [grpOf_none fun j hj => hno j hj (by omega)]
end Go.Proofs.YtclkibjonbhldaaGreatDoor
/- Plain lemmas of our own, no statement of the seat: budget.groupOf. -/
namespace Go.Proofs.YtclkibjonbhldaaGreatDoor
set_option linter.unusedSimpArgs false
set_option linter.unusedVariables false
open Go.Proofs.YtclkibjonbhldaaGreatDoor.Vc
theorem bIndexI (xs : List Int) (p : Int) (v : Value) (R : RO) (h : IntV R v xs) : CallsR Tryz.prog 97 [v, .int .i64 p] R fun _ r => ∃ k : Int, r = .int .i64 k ∧ (0 ≤ k ↔ xs.contains p = true) := by
  obtain ⟨hxl, a, cap, rfl, hc, hg⟩ := h.form
  refine callsT mix Tryz.func97 comp97 (by simp [Tryz.ntmps97]) ?_; simp only [go_sem, ↓reduceIte, Nat.reduceEqDiff, Nat.reduceAdd, Nat.reduceMul, Nat.reduceLeDiff, Nat.reduceLT, Nat.reduceBNe, reduceCtorEq, vc97, rs97]
  refine vcLoop Nat (fun i => [(8, .val (.int .i64 i)), (7, .val (.int .i64 xs.length)), (0, .val (.slice a xs.length cap)), (1, .val (.int .i64 p))]) (fun _ => []) (fun i _ => i ≤ xs.length ∧ ∀ j (hj : j < xs.length), j < i → xs[j] ≠ p) (fun i => xs.length - i) 0 ?_ ?_ ?_ ?_
  · (try simp only [go_sem, ↓reduceIte, Nat.reduceEqDiff, Nat.reduceAdd, Nat.reduceMul, Nat.reduceLeDiff, Nat.reduceLT, Nat.reduceBNe, reduceCtorEq]) <;> (repeat' (first | rfl | trivial | constructor | (intro h; exact absurd rfl h)))
  · try simp only [go_sem, ↓reduceIte, Nat.reduceEqDiff, Nat.reduceAdd, Nat.reduceMul, Nat.reduceLeDiff, Nat.reduceLT, Nat.reduceBNe, reduceCtorEq]
  · exact ⟨Nat.zero_le _, fun j _ hj => absurd hj (by omega)⟩
  rintro i env R1 hle1 hE ⟨hi, hno⟩
  (simp only [go_sem] at hE; obtain ⟨e8, e7, e0, e1⟩ := hE; simp only [go_sem, ↓reduceIte, Nat.reduceEqDiff, Nat.reduceAdd, Nat.reduceMul, Nat.reduceLeDiff, Nat.reduceLT, Nat.reduceBNe, reduceCtorEq, e8, e7, e0, e1]; dsimp only at *)
  refine ⟨fun hlt => ?_, fun hge => ?_⟩
  · have hlt' : i < xs.length := by omega
    obtain ⟨ad, had, hR⟩ := hg i hlt'
    refine ⟨by omega, vat ad had ?_⟩
    try simp only [go_sem, ↓reduceIte, Nat.reduceEqDiff, Nat.reduceAdd, Nat.reduceMul, Nat.reduceLeDiff, Nat.reduceLT, Nat.reduceBNe, reduceCtorEq]
    refine vload _ (hle1 _ _ hR) ?_
    simp only [go_sem, ↓reduceIte, Nat.reduceEqDiff, Nat.reduceAdd, Nat.reduceMul, Nat.reduceLeDiff, Nat.reduceLT, Nat.reduceBNe, reduceCtorEq, e8, e7, e0, e1]
    refine ⟨fun he => ?_, fun he => ?_⟩
    · refine ⟨_, rfl, fun _ => ?_, fun _ => by omega⟩
      rw [List.contains_iff_mem, he]
      exact List.getElem_mem hlt'
    · refine ⟨_, W.in64 (by omega), i + 1, by omega, rfl, by omega, fun j hj hji => ?_⟩
      by_cases hij : j = i
      · subst hij; exact fun e => he e.symm
      · exact hno j hj (by omega)
  · refine ⟨_, rfl, fun h => absurd h (by decide), fun h => ?_⟩
    rw [List.contains_iff_mem] at h
    obtain ⟨j, hj, e⟩ := List.mem_iff_getElem.1 h
    exact absurd e (hno j hj (by omega))
theorem bContainsI (xs : List Int) (p : Int) (v : Value) (R : RO) (h : IntV R v xs) : CallsR Tryz.prog 78 [v, .int .i64 p] R fun _ r => r = .bool (xs.contains p) := by
  have hI := bIndexI xs p v R h
  refine callsT mix Tryz.func78 comp78 (by simp [Tryz.ntmps78]) ?_; simp only [go_sem, ↓reduceIte, Nat.reduceEqDiff, Nat.reduceAdd, Nat.reduceMul, Nat.reduceLeDiff, Nat.reduceLT, Nat.reduceBNe, reduceCtorEq, vc78, rs78]
  refine vcall hI ?_
  rintro R1 r hle1 ⟨k, rfl, hk⟩
  try simp only [go_sem, ↓reduceIte, Nat.reduceEqDiff, Nat.reduceAdd, Nat.reduceMul, Nat.reduceLeDiff, Nat.reduceLT, Nat.reduceBNe, reduceCtorEq]
  congr 1
  rw [Bool.eq_iff_iff, decide_eq_true_eq]
  exact hk
theorem bGroupOf1 (xs : List Int) (p : Int) (v : Value) (ad : Addr) (R : RO) (h : IntV R v xs) (hp : R ad (.int .i64 p)) : CallsR Tryz.prog 77 [v, .pointer (some ad)] R fun _ r => r = .bool (xs.contains p) := by
  have hC := fun R' hle => bContainsI xs p v R' (EncV.mono (R' := R') h hle)
  refine callsT mix Tryz.func77 comp77 (by simp [Tryz.ntmps77]) ?_; simp only [go_sem, ↓reduceIte, Nat.reduceEqDiff, Nat.reduceAdd, Nat.reduceMul, Nat.reduceLeDiff, Nat.reduceLT, Nat.reduceBNe, reduceCtorEq, vc77, rs77]
  refine vload _ hp ?_
  try simp only [go_sem, ↓reduceIte, Nat.reduceEqDiff, Nat.reduceAdd, Nat.reduceMul, Nat.reduceLeDiff, Nat.reduceLT, Nat.reduceBNe, reduceCtorEq]
  refine vcall (hC R (RO.le_refl _)) ?_
  rintro R1 r hle1 rfl
  try simp only [go_sem, ↓reduceIte, Nat.reduceEqDiff, Nat.reduceAdd, Nat.reduceMul, Nat.reduceLeDiff, Nat.reduceLT, Nat.reduceBNe, reduceCtorEq]
theorem bIndexG (f : FuncId) (caps : List Value) (hb : hasBody Tryz.prog f = true) (p : List Int → Bool) (gs : List (List Int)) (v : Value) (R : RO) (h : GV R v gs)
    (hf : ∀ (g : List Int) (u : Value) (R' : RO), RO.le R R' → IntV R' u g → CallsR Tryz.prog f ([u] ++ caps) R' fun _ u => u = .bool (p g)) : CallsR Tryz.prog 76 [v, .func (.func f) #[] caps.toArray] R fun _ u => u = .int .i64 (match gs.findIdx? p with | some i => (i : Int) | none => -1) := by
  obtain ⟨hxl, a, cap, rfl, hc, hg⟩ := h.form
  refine callsT mix Tryz.func76 comp76 (by simp [Tryz.ntmps76]) ?_; simp only [go_sem, ↓reduceIte, Nat.reduceEqDiff, Nat.reduceAdd, Nat.reduceMul, Nat.reduceLeDiff, Nat.reduceLT, Nat.reduceBNe, reduceCtorEq, vc76, rs76]
  refine vcLoop Nat (fun i => [(8, .val (.int .i64 i)), (7, .val (.int .i64 gs.length)), (0, .val (.slice a gs.length cap)), (1, .val (.func (.func f) #[] caps.toArray))]) (fun _ => []) (fun i _ => i ≤ gs.length ∧ ∀ j (hj : j < gs.length), j < i → p gs[j] = false) (fun i => gs.length - i) 0 ?_ ?_ ?_ ?_
  · (try simp only [go_sem, ↓reduceIte, Nat.reduceEqDiff, Nat.reduceAdd, Nat.reduceMul, Nat.reduceLeDiff, Nat.reduceLT, Nat.reduceBNe, reduceCtorEq]) <;> (repeat' (first | rfl | trivial | constructor | (intro h; exact absurd rfl h)))
  · try simp only [go_sem, ↓reduceIte, Nat.reduceEqDiff, Nat.reduceAdd, Nat.reduceMul, Nat.reduceLeDiff, Nat.reduceLT, Nat.reduceBNe, reduceCtorEq]
  · exact ⟨Nat.zero_le _, fun j _ hj => absurd hj (by omega)⟩
  rintro i env R1 hle1 hE ⟨hi, hno⟩
  (simp only [go_sem] at hE; obtain ⟨e8, e7, e0, e1⟩ := hE; simp only [go_sem, ↓reduceIte, Nat.reduceEqDiff, Nat.reduceAdd, Nat.reduceMul, Nat.reduceLeDiff, Nat.reduceLT, Nat.reduceBNe, reduceCtorEq, e8, e7, e0, e1]; dsimp only at *)
  refine ⟨fun hlt => ?_, fun hge => ?_⟩
  · have hlt' : i < gs.length := by omega
    obtain ⟨ad, u, had, hR, hu⟩ := hg i hlt'
    refine ⟨by omega, vat ad had ?_⟩
    try simp only [go_sem, ↓reduceIte, Nat.reduceEqDiff, Nat.reduceAdd, Nat.reduceMul, Nat.reduceLeDiff, Nat.reduceLT, Nat.reduceBNe, reduceCtorEq]
    refine vload _ (hle1 _ _ hR) ?_
    simp only [go_sem, ↓reduceIte, Nat.reduceEqDiff, Nat.reduceAdd, Nat.reduceMul, Nat.reduceLeDiff, Nat.reduceLT, Nat.reduceBNe, reduceCtorEq, e8, e7, e0, e1]
    refine ⟨hb, vcall (hf gs[i] u R1 hle1 (hu.mono hle1)) ?_⟩
    rintro R2 v hle2 rfl
    simp only [go_sem, ↓reduceIte, Nat.reduceEqDiff, Nat.reduceAdd, Nat.reduceMul, Nat.reduceLeDiff, Nat.reduceLT, Nat.reduceBNe, reduceCtorEq, e8, e7, e0, e1]
    refine ⟨fun hp => ?_, fun hp => ?_⟩
    · rw [show gs.findIdx? p = some i from List.findIdx?_eq_some_iff_getElem.2 ⟨hlt', hp, fun j hj => by rw [hno j (by omega) hj]; simp⟩]
    · refine ⟨_, W.in64 (by omega), i + 1, by omega, rfl, by omega, fun j hj hji => ?_⟩
      by_cases h : j = i
      · subst h; exact hp
      · exact hno j hj (by omega)
  · rw [List.findIdx?_eq_none_iff.2 fun g hg => by obtain ⟨j, hj, rfl⟩ := List.mem_iff_getElem.1 hg; exact hno j hj (by omega)]
theorem bGroupOf (gs : List (List Int)) (p : Int) (hp : -1000000 ≤ p ∧ p ≤ 1000000) (v : Value) (R : RO) (h : GV R v gs) : CallsR Tryz.prog 43 [v, .int .i64 p] R fun _ r => r = .int .i64 (grpOf gs p) := by
  obtain ⟨hxl, a, cap, rfl, hc, hg⟩ := h.form
  refine callsT mix Tryz.func43 comp43 (by simp [Tryz.ntmps43]) ?_; simp only [go_sem, ↓reduceIte, Nat.reduceEqDiff, Nat.reduceAdd, Nat.reduceMul, Nat.reduceLeDiff, Nat.reduceLT, Nat.reduceBNe, reduceCtorEq, vc43, rs43]
  have hb1 : hasBody Tryz.prog 77 = true := by kernel_rfl
  refine vlend ?_
  intro β κ R1 hL
  have hbox := hL.2 0 _ rfl
  refine ⟨_, bIndexG 77 [.pointer (some ⟨β 0, 0, none⟩)] hb1 (fun g => g.contains p) gs _ R1 (h.mono hL.1) ?_, ?_⟩
  · intro g u R2 hle2 hu
    exact bGroupOf1 g p u ⟨β 0, 0, none⟩ R2 hu (hle2 _ _ (hbox 0 _ rfl))
  rintro R2 r R3 hle2 rfl hle3 _
  try simp only [go_sem, ↓reduceIte, Nat.reduceEqDiff, Nat.reduceAdd, Nat.reduceMul, Nat.reduceLeDiff, Nat.reduceLT, Nat.reduceBNe, reduceCtorEq]
  cases hi : gs.findIdx? (fun g => g.contains p) with
  | some i =>
    have hil : i < gs.length := (List.findIdx?_eq_some_iff_getElem.1 hi).1
    try simp only [go_sem, ↓reduceIte, Nat.reduceEqDiff, Nat.reduceAdd, Nat.reduceMul, Nat.reduceLeDiff, Nat.reduceLT, Nat.reduceBNe, reduceCtorEq]
    unfold grpOf
    rw [hi]
  | none =>
    try simp only [go_sem, ↓reduceIte, Nat.reduceEqDiff, Nat.reduceAdd, Nat.reduceMul, Nat.reduceLeDiff, Nat.reduceLT, Nat.reduceBNe, reduceCtorEq]
    refine ⟨fun h => absurd h (by decide), fun _ => ⟨_, W.in64 (by omega), ?_⟩⟩
    unfold grpOf
    rw [hi]
end Go.Proofs.YtclkibjonbhldaaGreatDoor
/- Plain lemmas of our own, no statement of the seat: aligned lists. -/
namespace Go.Proofs.YtclkibjonbhldaaGreatDoor
set_option linter.unusedSimpArgs false
set_option linter.unusedVariables false
open Go.Proofs.YtclkibjonbhldaaGreatDoor.Vc
theorem rAligned (xs : List Sp) (n : Int) (hn : 0 < n) (v : Value) (R : RO) (h : SpV R v xs) : CallsR Tryz.prog 65 [v, .int .i64 n] R fun _ r => r = .bool (xs.all fun s => alignedB s n) := by
  have hxl := h.2
  obtain ⟨a, cap, rfl, hc, hg⟩ := h.form
  refine callsT mix Tryz.func65 comp65 (by simp [Tryz.ntmps65]) ?_; simp only [go_sem, ↓reduceIte, Nat.reduceEqDiff, Nat.reduceAdd, Nat.reduceMul, Nat.reduceLeDiff, Nat.reduceLT, Nat.reduceBNe, reduceCtorEq, vc65, rs65]
  have hbad : ∀ i (hi : i < xs.length), alignedB xs[i] n = false → Value.bool false = Value.bool (xs.all fun s => alignedB s n) := fun i hi hf => by
    congr 1
    symm
    rw [List.all_eq_false]
    exact ⟨xs[i], List.getElem_mem hi, by rw [hf]; simp⟩
  refine vcLoop Nat (fun i => [(5, .val (.int .i64 i)), (0, .val (.slice a xs.length cap)), (1, .val (.int .i64 n))]) (fun _ => []) (fun i _ => i ≤ xs.length ∧ ∀ s ∈ xs.take i, alignedB s n = true) (fun i => xs.length - i) 0 ?_ ?_ ?_ ?_
  · (try simp only [go_sem, ↓reduceIte, Nat.reduceEqDiff, Nat.reduceAdd, Nat.reduceMul, Nat.reduceLeDiff, Nat.reduceLT, Nat.reduceBNe, reduceCtorEq]) <;> (repeat' (first | rfl | trivial | constructor | (intro h; exact absurd rfl h)))
  · try simp only [go_sem, ↓reduceIte, Nat.reduceEqDiff, Nat.reduceAdd, Nat.reduceMul, Nat.reduceLeDiff, Nat.reduceLT, Nat.reduceBNe, reduceCtorEq]
  · exact ⟨Nat.zero_le _, by simp⟩
  rintro i env R1 hle1 hE ⟨hi, hno⟩
  (simp only [go_sem] at hE; obtain ⟨e5, e0, e1⟩ := hE; simp only [go_sem, ↓reduceIte, Nat.reduceEqDiff, Nat.reduceAdd, Nat.reduceMul, Nat.reduceLeDiff, Nat.reduceLT, Nat.reduceBNe, reduceCtorEq, e5, e0, e1]; dsimp only at *)
  refine ⟨fun hlt => ?_, fun hge => ?_⟩
  · have hlt' : i < xs.length := by omega
    obtain ⟨ad, had, hR⟩ := hg i hlt'
    have hb := hbad i hlt'
    have h1 := tmod0 (a := (xs[i]).f) hn
    have h2 := tmod0 (a := (xs[i]).t) hn
    refine ⟨by omega, vat ad had ?_⟩
    try simp only [go_sem, ↓reduceIte, Nat.reduceEqDiff, Nat.reduceAdd, Nat.reduceMul, Nat.reduceLeDiff, Nat.reduceLT, Nat.reduceBNe, reduceCtorEq]
    refine vload (.int .i64 (xs[i]).f) (hle1 _ _ (hR 0 _ rfl)) ?_
    simp only [go_sem, ↓reduceIte, Nat.reduceEqDiff, Nat.reduceAdd, Nat.reduceMul, Nat.reduceLeDiff, Nat.reduceLT, Nat.reduceBNe, reduceCtorEq, e5, e0, e1]
    refine ⟨by omega, fun hf0 => ⟨by omega, vat ad had ?_⟩, fun hf0 => hb (by unfold alignedB; rw [decide_eq_false (fun e => hf0 (h1.2 e))]; rfl)⟩
    try simp only [go_sem, ↓reduceIte, Nat.reduceEqDiff, Nat.reduceAdd, Nat.reduceMul, Nat.reduceLeDiff, Nat.reduceLT, Nat.reduceBNe, reduceCtorEq]
    refine vload (.int .i64 (xs[i]).t) (hle1 _ _ (hR 1 _ rfl)) ?_
    simp only [go_sem, ↓reduceIte, Nat.reduceEqDiff, Nat.reduceAdd, Nat.reduceMul, Nat.reduceLeDiff, Nat.reduceLT, Nat.reduceBNe, reduceCtorEq, e5, e0, e1]
    refine ⟨by omega, ?_⟩
    refine ⟨fun ht0 => hb (by unfold alignedB; rw [decide_eq_false (fun e => ht0 (h2.2 e)), Bool.and_false]), fun ht0 => ⟨_, W.in64 (by omega), i + 1, by omega, rfl, by omega, fun s hs => ?_⟩⟩
    rw [List.take_succ_eq_append_getElem hlt'] at hs
    rcases List.mem_append.1 hs with hs | hs
    · exact hno s hs
    · simp only [List.mem_cons, List.not_mem_nil, or_false] at hs
      subst hs
      unfold alignedB
      rw [decide_eq_true (h1.1 hf0), decide_eq_true (h2.1 ht0)]; rfl
  · obtain rfl : i = xs.length := by omega
    rw [List.take_length] at hno
    congr 1
    symm
    rw [List.all_eq_true]
    exact hno
end Go.Proofs.YtclkibjonbhldaaGreatDoor
/- Plain lemmas of our own, no statement of the seat: valid groups. -/
namespace Go.Proofs.YtclkibjonbhldaaGreatDoor
set_option linter.unusedSimpArgs false
set_option linter.unusedVariables false
open Go.Proofs.YtclkibjonbhldaaGreatDoor.Vc
structure OkG (gs : List (List Int)) (i : Nat) (g : List Int) : Prop where
  ne : g ≠ []
  inc : Inc g
  mem : ∀ p ∈ g, personB p = true ∧ grpOf gs p = i
structure ValidG (gs : List (List Int)) : Prop where
  all : ∀ i (hi : i < gs.length), OkG gs i gs[i]
  len : gs.length ≤ 512
noncomputable def validG (gs : List (List Int)) : Bool := @decide (ValidG gs) (Classical.propDecidable _)
theorem validG_iff {gs : List (List Int)} : validG gs = true ↔ ValidG gs := @decide_eq_true_iff _ (Classical.propDecidable _)
theorem validG_false {gs : List (List Int)} (h : ¬ ValidG gs) : validG gs = false := @decide_eq_false _ (Classical.propDecidable _) h
set_option maxHeartbeats 1000000 in
theorem rValidGroups (gs : List (List Int)) (v : Value) (R : RO) (h : GV R v gs) : CallsR Tryz.prog 62 [v] R fun _ r => r = .bool (validG gs) := by
  obtain ⟨hxl, a, cap, rfl, hc, hg⟩ := h.form
  refine callsT mix Tryz.func62 comp62 (by simp [Tryz.ntmps62]) ?_; simp only [go_sem, ↓reduceIte, Nat.reduceEqDiff, Nat.reduceAdd, Nat.reduceMul, Nat.reduceLeDiff, Nat.reduceLT, Nat.reduceBNe, reduceCtorEq, vc62, rs62]
  have hbad : ¬ ValidG gs → Value.bool false = Value.bool (validG gs) := fun hn => by rw [validG_false hn]
  refine vcLoop Nat (fun i => [(3, .val (.int .i64 i)), (0, .val (.slice a gs.length cap))]) (fun _ => []) (fun i _ => i ≤ gs.length ∧ ∀ j (hj : j < gs.length), j < i → OkG gs j gs[j]) (fun i => gs.length - i) 0 ?_ ?_ ?_ ?_
  · (try simp only [go_sem, ↓reduceIte, Nat.reduceEqDiff, Nat.reduceAdd, Nat.reduceMul, Nat.reduceLeDiff, Nat.reduceLT, Nat.reduceBNe, reduceCtorEq]) <;> (repeat' (first | rfl | trivial | constructor | (intro h; exact absurd rfl h)))
  · try simp only [go_sem, ↓reduceIte, Nat.reduceEqDiff, Nat.reduceAdd, Nat.reduceMul, Nat.reduceLeDiff, Nat.reduceLT, Nat.reduceBNe, reduceCtorEq]
  · exact ⟨Nat.zero_le _, fun j _ hj => absurd hj (by omega)⟩
  rintro i env R1 hle1 hE ⟨hi, hno⟩
  (simp only [go_sem] at hE; obtain ⟨e3, e0⟩ := hE; simp only [go_sem, ↓reduceIte, Nat.reduceEqDiff, Nat.reduceAdd, Nat.reduceMul, Nat.reduceLeDiff, Nat.reduceLT, Nat.reduceBNe, reduceCtorEq, e3, e0]; dsimp only at *)
  refine ⟨fun hlt => ?_, fun hge => ?_⟩
  · have hlt' : i < gs.length := by omega
    obtain ⟨ad, u, had, hR, hu⟩ := hg i hlt'
    obtain ⟨hgl, b, bcap, rfl, hbc, hgb⟩ := hu.form
    refine ⟨by omega, vat ad had ?_⟩
    try simp only [go_sem, ↓reduceIte, Nat.reduceEqDiff, Nat.reduceAdd, Nat.reduceMul, Nat.reduceLeDiff, Nat.reduceLT, Nat.reduceBNe, reduceCtorEq]
    refine vload _ (hle1 _ _ hR) ?_
    simp only [go_sem, ↓reduceIte, Nat.reduceEqDiff, Nat.reduceAdd, Nat.reduceMul, Nat.reduceLeDiff, Nat.reduceLT, Nat.reduceBNe, reduceCtorEq, e3, e0]
    have hbi : ¬ OkG gs i gs[i] → Value.bool false = Value.bool (validG gs) := fun hn => hbad fun hV => hn (hV.all i hlt')
    refine ⟨fun h0 => hbi fun hO => hO.ne (List.eq_nil_of_length_eq_zero (by omega)), fun h0 => ?_⟩
    refine vcLoop Nat (fun k => [(4, .val (.int .i64 k)), (3, .val (.int .i64 i)), (0, .val (.slice a gs.length cap))]) (fun _ => []) (fun k _ => k ≤ gs[i].length ∧ Inc (gs[i].take k) ∧ ∀ p ∈ gs[i].take k, personB p = true ∧ grpOf gs p = i) (fun k => gs[i].length - k) 0 ?_ ?_ ?_ ?_
    · (try simp only [go_sem, ↓reduceIte, Nat.reduceEqDiff, Nat.reduceAdd, Nat.reduceMul, Nat.reduceLeDiff, Nat.reduceLT, Nat.reduceBNe, reduceCtorEq]) <;> (repeat' (first | rfl | trivial | constructor | (intro h; exact absurd rfl h)))
    · try simp only [go_sem, ↓reduceIte, Nat.reduceEqDiff, Nat.reduceAdd, Nat.reduceMul, Nat.reduceLeDiff, Nat.reduceLT, Nat.reduceBNe, reduceCtorEq]
    · exact ⟨Nat.zero_le _, by simp [Inc], by simp⟩
    rintro k env R2 hle2 hE ⟨hk, hinc, hmem⟩
    (simp only [go_sem] at hE; obtain ⟨e4, e3', e0'⟩ := hE; simp only [go_sem, ↓reduceIte, Nat.reduceEqDiff, Nat.reduceAdd, Nat.reduceMul, Nat.reduceLeDiff, Nat.reduceLT, Nat.reduceBNe, reduceCtorEq, e4, e3', e0']; dsimp only at *)
    refine ⟨by omega, vat ad had ?_⟩
    try simp only [go_sem, ↓reduceIte, Nat.reduceEqDiff, Nat.reduceAdd, Nat.reduceMul, Nat.reduceLeDiff, Nat.reduceLT, Nat.reduceBNe, reduceCtorEq]
    refine vload _ (hle2 _ _ (hle1 _ _ hR)) ?_
    simp only [go_sem, ↓reduceIte, Nat.reduceEqDiff, Nat.reduceAdd, Nat.reduceMul, Nat.reduceLeDiff, Nat.reduceLT, Nat.reduceBNe, reduceCtorEq, e4, e3', e0']
    refine ⟨fun hlt2 => ?_, fun hge2 => ?_⟩
    · have hlt3 : k < gs[i].length := by omega
      obtain ⟨ad2, had2, hR2⟩ := hgb k hlt3
      have hle2' := RO.le_trans hle1 hle2
      have hin : gs[i][k] ∈ gs[i] := List.getElem_mem hlt3
      refine ⟨by omega, vat ad had ?_⟩
      try simp only [go_sem, ↓reduceIte, Nat.reduceEqDiff, Nat.reduceAdd, Nat.reduceMul, Nat.reduceLeDiff, Nat.reduceLT, Nat.reduceBNe, reduceCtorEq]
      refine vload _ (hle2 _ _ (hle1 _ _ hR)) ?_
      simp only [go_sem, ↓reduceIte, Nat.reduceEqDiff, Nat.reduceAdd, Nat.reduceMul, Nat.reduceLeDiff, Nat.reduceLT, Nat.reduceBNe, reduceCtorEq, e4, e3', e0']
      refine ⟨by omega, vat ad2 had2 ?_⟩
      try simp only [go_sem, ↓reduceIte, Nat.reduceEqDiff, Nat.reduceAdd, Nat.reduceMul, Nat.reduceLeDiff, Nat.reduceLT, Nat.reduceBNe, reduceCtorEq]
      refine vload _ (hle2 _ _ (hle1 _ _ hR2)) ?_
      simp only [go_sem, ↓reduceIte, Nat.reduceEqDiff, Nat.reduceAdd, Nat.reduceMul, Nat.reduceLeDiff, Nat.reduceLT, Nat.reduceBNe, reduceCtorEq, e4, e3', e0']
      refine vcall (rPerson gs[i][k] R2) ?_
      rintro R3 r hle3 rfl
      simp only [go_sem, ↓reduceIte, Nat.reduceEqDiff, Nat.reduceAdd, Nat.reduceMul, Nat.reduceLeDiff, Nat.reduceLT, Nat.reduceBNe, reduceCtorEq, e4, e3', e0']
      have hfin : personB gs[i][k] = true → (∀ x ∈ gs[i].take k, x < gs[i][k]) → grpOf gs gs[i][k] = i → (Inc (gs[i].take (k + 1)) ∧ ∀ p ∈ gs[i].take (k + 1), personB p = true ∧ grpOf gs p = i) := fun h1 h2 h3 => by
        rw [List.take_succ_eq_append_getElem hlt3]
        refine ⟨List.pairwise_append.2 ⟨hinc, List.pairwise_singleton _ _, fun x hx y hy => ?_⟩, fun p hp => ?_⟩
        · simp only [List.mem_cons, List.not_mem_nil, or_false] at hy
          subst hy; exact h2 x hx
        · rcases List.mem_append.1 hp with hp | hp
          · exact hmem p hp
          · simp only [List.mem_cons, List.not_mem_nil, or_false] at hp
            subst hp; exact ⟨h1, h3⟩
      have hG := fun (hp : -1000000 ≤ gs[i][k] ∧ gs[i][k] ≤ 1000000) => rGroupOf gs gs[i][k] hp (.slice a gs.length cap) R3 (h.mono (RO.le_trans hle2' hle3))
      have hpb : personB gs[i][k] = true → -1000000 ≤ gs[i][k] ∧ gs[i][k] ≤ 1000000 := fun h => by
        unfold personB at h
        simp only [Bool.and_eq_true, decide_eq_true_eq] at h
        omega
      refine ⟨fun hp => ⟨fun hk0 => ?_, fun hk0 => ?_⟩, fun hp => hbi fun hO => by have := (hO.mem _ hin).1; rw [hp] at this; cases this⟩
      · obtain ⟨ad3, had3, hR3⟩ := hgb (k - 1) (by omega)
        refine ⟨by omega, vat ad had ?_⟩
        try simp only [go_sem, ↓reduceIte, Nat.reduceEqDiff, Nat.reduceAdd, Nat.reduceMul, Nat.reduceLeDiff, Nat.reduceLT, Nat.reduceBNe, reduceCtorEq]
        refine vload _ (hle3 _ _ (hle2 _ _ (hle1 _ _ hR))) ?_
        simp only [go_sem, ↓reduceIte, Nat.reduceEqDiff, Nat.reduceAdd, Nat.reduceMul, Nat.reduceLeDiff, Nat.reduceLT, Nat.reduceBNe, reduceCtorEq, e4, e3', e0']
        refine ⟨_, W.in64 (by omega), by omega, by omega, ?_⟩
        rw [show ((k : Int) - 1).toNat = k - 1 by omega]
        refine vat ad3 had3 ?_
        try simp only [go_sem, ↓reduceIte, Nat.reduceEqDiff, Nat.reduceAdd, Nat.reduceMul, Nat.reduceLeDiff, Nat.reduceLT, Nat.reduceBNe, reduceCtorEq]
        refine vload _ (hle3 _ _ (hle2 _ _ (hle1 _ _ hR3))) ?_
        simp only [go_sem, ↓reduceIte, Nat.reduceEqDiff, Nat.reduceAdd, Nat.reduceMul, Nat.reduceLeDiff, Nat.reduceLT, Nat.reduceBNe, reduceCtorEq, e4, e3', e0']
        refine ⟨fun hlt4 => ?_, fun hge4 => hbi fun hO => ?_⟩
        · refine vcall (hG (hpb hp)) ?_
          rintro R4 r hle4 rfl
          simp only [go_sem, ↓reduceIte, Nat.reduceEqDiff, Nat.reduceAdd, Nat.reduceMul, Nat.reduceLeDiff, Nat.reduceLT, Nat.reduceBNe, reduceCtorEq, e4, e3', e0']
          refine ⟨fun hne => hbi fun hO => hne (hO.mem _ hin).2, fun he => ⟨_, W.in64 (by omega), k + 1, by omega, rfl, by omega, hfin hp (fun x hx => ?_) he⟩⟩
          obtain ⟨j, hj, rfl⟩ := List.mem_take_iff_getElem.1 hx
          by_cases hjk : j = k - 1
          · subst hjk; omega
          · have h7 := List.pairwise_iff_getElem.1 hinc j (k - 1) (by rw [List.length_take]; omega) (by rw [List.length_take]; omega) (by omega)
            rw [List.getElem_take, List.getElem_take] at h7
            omega
        · have := hO.inc.get_lt (show k - 1 < k by omega) hlt3
          omega
      · refine vcall (hG (hpb hp)) ?_
        rintro R4 r hle4 rfl
        simp only [go_sem, ↓reduceIte, Nat.reduceEqDiff, Nat.reduceAdd, Nat.reduceMul, Nat.reduceLeDiff, Nat.reduceLT, Nat.reduceBNe, reduceCtorEq, e4, e3', e0']
        refine ⟨fun hne => hbi fun hO => hne (hO.mem _ hin).2, fun he => ⟨_, W.in64 (by omega), k + 1, by omega, rfl, by omega, hfin hp (fun x hx => ?_) he⟩⟩
        rw [show k = 0 by omega] at hx
        simp at hx
    · obtain rfl : k = gs[i].length := by omega
      rw [List.take_length] at hinc hmem
      refine ⟨_, W.in64 (by omega), i + 1, by omega, ?_, by omega, fun j hj hji => ?_⟩
      · try simp only [go_sem, ↓reduceIte, Nat.reduceEqDiff, Nat.reduceAdd, Nat.reduceMul, Nat.reduceLeDiff, Nat.reduceLT, Nat.reduceBNe, reduceCtorEq]
        rfl
      · by_cases hij : j = i
        · subst hij; exact ⟨fun e => h0 (by rw [e]; rfl), hinc, hmem⟩
        · exact hno j hj (by omega)
  · obtain rfl : i = gs.length := by omega
    congr 1
    rw [Bool.eq_iff_iff, decide_eq_true_eq, validG_iff]
    exact ⟨fun h => ⟨fun j hj => hno j hj hj, by omega⟩, fun h => by have := h.len; omega⟩
end Go.Proofs.YtclkibjonbhldaaGreatDoor
/- Plain lemmas of our own, no statement of the seat: budgets in memory. -/
namespace Go.Proofs.YtclkibjonbhldaaGreatDoor
set_option linter.unusedSimpArgs false
set_option linter.unusedVariables false
open Go.Proofs.YtclkibjonbhldaaGreatDoor.Vc
/-- An element of Spent. -/
structure Se where
  group : Int
  grain : Int
  cells : List Sp
  deriving DecidableEq
def seCells (p : Se × Value) : List Value := [.int .i64 p.1.group, .int .i64 p.1.grain, p.2]
def SpentV (R : RO) (v : Value) (l : List Se) : Prop := ∃ ps : List (Se × Value), EncV seCells 3 R v ps ∧ ps.map (·.1) = l ∧ ∀ p ∈ ps, SpV R p.2 p.1.cells
theorem SpentV.mono {R R' : RO} {v : Value} {l : List Se} (h : SpentV R v l) (hle : RO.le R R') : SpentV R' v l := by
  obtain ⟨ps, h1, h2, h3⟩ := h
  exact ⟨ps, h1.mono hle, h2, fun p hp => (h3 p hp).mono hle⟩
theorem SpentV.form {R : RO} {v : Value} {l : List Se} (h : SpentV R v l) : l.length ≤ 1000000000 ∧ ∃ a cap, v = .slice a l.length cap ∧ l.length ≤ cap ∧ ∀ i (hi : i < l.length), ∃ ad u, a = some ad ∧ (∀ j w, (seCells (l[i], u))[j]? = some w → R ((ad.add (i * 3)).add j) w) ∧ SpV R u l[i].cells := by
  obtain ⟨ps, h1, rfl, h3⟩ := h
  have hl := h1.2
  obtain ⟨a, cap, rfl, hc, hf⟩ := h1.form
  refine ⟨by simpa using hl, a, cap, by rw [List.length_map], by simpa using hc, fun i hi => ?_⟩
  have hi' : i < ps.length := by simpa using hi
  obtain ⟨ad, ha, hR⟩ := hf i hi'
  refine ⟨ad, ps[i].2, ha, ?_, ?_⟩
  · rw [List.getElem_map]; exact hR
  · rw [List.getElem_map]; exact h3 _ (List.getElem_mem hi')
structure Bu where
  limit : Int
  groups : List (List Int)
  spent : List Se
def BuV (R : RO) (v : Value) (b : Bu) : Prop := ∃ gv sv, v = .agg #[.int .i64 b.limit, gv, sv] ∧ GV R gv b.groups ∧ SpentV R sv b.spent
theorem BuV.mono {R R' : RO} {v : Value} {b : Bu} (h : BuV R v b) (hle : RO.le R R') : BuV R' v b := by
  obtain ⟨gv, sv, e, h1, h2⟩ := h
  exact ⟨gv, sv, e, h1.mono hle, h2.mono hle⟩
end Go.Proofs.YtclkibjonbhldaaGreatDoor

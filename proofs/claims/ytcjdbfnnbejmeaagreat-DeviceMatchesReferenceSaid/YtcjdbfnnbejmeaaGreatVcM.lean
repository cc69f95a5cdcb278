/- Plain lemmas of our own, no statement of the seat: the conditions of the calculus are monotone. -/
import Derived.Test.YtcjdbfnnbejmeaaGreatVcB
namespace Go.Proofs.YtcjdbfnnbejmeaaGreat.Vc
set_option linter.unusedSimpArgs false
set_option linter.unusedVariables false
open Go.RowKit

theorem leaf1_mono {x : SV} {s : St} {k k' : Value → St → Prop} (hk : ∀ v s', k v s' → k' v s') (h : leaf1 x s k) : leaf1 x s k' := by
  cases x <;> simp only [leaf1] at h ⊢ <;> first
    | exact hk _ _ h
    | (revert h; split <;> intro h <;> first | exact h | exact hk _ _ h | exact fun b cap R' h1 h2 h3 h4 => hk _ _ (h b cap R' h1 h2 h3 h4))
theorem cellsAt_mono : ∀ (n : Nat) {s : St} {j off : Nat} {k k' : List Value → St → Prop}, (∀ v s', k v s' → k' v s') → cellsAt s j off n k → cellsAt s j off n k'
  | 0, s, j, off, k, k', hk, h => hk _ _ h
  | n + 1, s, j, off, k, k', hk, h => by
    simp only [cellsAt] at h ⊢
    revert h
    split
    · split
      · exact fun h => leaf1_mono (fun v s' h' => cellsAt_mono n (fun vs s'' => hk _ _) h') h
      · exact id
    · exact fun ⟨v, h1, h⟩ => ⟨v, h1, cellsAt_mono n (fun vs s'' => hk _ _) h⟩
    · exact id
theorem leaf_mono {x : SV} {s : St} {k k' : Value → St → Prop} (hk : ∀ v s', k v s' → k' v s') (h : leaf x s k) : leaf x s k' := by
  cases x with
  | loc j o =>
    simp only [leaf] at h ⊢
    revert h
    split
    · refine cellsAt_mono _ fun vs s' => ?_
      split
      · exact fun h b R' h1 h2 h3 => hk _ _ (h b R' h1 h2 h3)
      · exact id
    · exact id
  | val v => simp only [leaf] at h ⊢; exact leaf1_mono hk h
  | mp j => simp only [leaf] at h ⊢; exact leaf1_mono hk h
  | fn f cs => simp only [leaf] at h ⊢; exact leaf1_mono hk h
  | sl j n => simp only [leaf] at h ⊢; exact leaf1_mono hk h
  | sw j z e n => simp only [leaf] at h ⊢; exact leaf1_mono hk h
theorem leaves_mono : ∀ (xs : List Operand) {s : St} {k k' : List Value → St → Prop}, (∀ v s', k v s' → k' v s') → leaves s xs k → leaves s xs k'
  | [], s, k, k', hk, h => hk _ _ h
  | x :: xs, s, k, k', hk, h => leaf_mono (fun v s' h' => leaves_mono xs (fun vs s'' => hk _ _) h') h
theorem fillV_mono : ∀ (ps : List (Nat × Nat × Operand)) {s : St} {cs : List Value} {k k' : List Value → St → Prop}, (∀ v s', k v s' → k' v s') → fillV s cs ps k → fillV s cs ps k'
  | [], s, cs, k, k', hk, h => hk _ _ h
  | (off, sz, x) :: ps, s, cs, k, k', hk, h => leaf_mono (fun v s' ⟨h1, h2, h'⟩ => ⟨h1, h2, fillV_mono ps hk h'⟩) h
theorem VCall_mono {P : Program} {f : FuncId} {args : List Value} {R : RO} {k k' : RO → Value → Prop} (hk : ∀ R v, k R v → k' R v) : VCall P f args R k → VCall P f args R k' :=
  fun ⟨Post, h1, h2⟩ => ⟨Post, h1, fun R' v hle hp => hk _ _ (h2 R' v hle hp)⟩
theorem Lend_mono {P : Program} {f : FuncId} {xs : List SV} {s : St} {k k' : SV → St → Prop} (hk : ∀ v s', k v s' → k' v s') (h : Lend P f xs s k) : Lend P f xs s k' := fun β κ R' hl => by
  obtain ⟨Post, h1, h2⟩ := h β κ R' hl
  exact ⟨Post, h1, fun R'' v R3 g1 g2 g3 g4 => hk _ _ (h2 R'' v R3 g1 g2 g3 g4)⟩
theorem LendA_mono {P : Program} {f : FuncId} {xs : List SV} {s : St} {k k' : SV → St → Prop} (hk : ∀ v s', k v s' → k' v s') (h : LendA P f xs s k) : LendA P f xs s k' := fun β κ R' hl => by
  obtain ⟨Post, h1, h2⟩ := h β κ R' hl
  exact ⟨Post, h1, fun R'' v F g1 g2 g3 => hk _ _ (h2 R'' v F g1 g2 g3)⟩
theorem Hand_mono {P : Program} {f : FuncId} {xs : List SV} {s : St} {k k' : SV → St → Prop} (hk : ∀ v s', k v s' → k' v s') : Hand P f xs s k → Hand P f xs s k' :=
  fun ⟨g, ys, bs, Post, h1, h2, h3, h4, h5, h6, h7, h8, h9⟩ => ⟨g, ys, bs, Post, h1, h2, h3, h4, h5, h6, h7, h8, fun R' bs' r g1 g2 g3 => hk _ _ (h9 R' bs' r g1 g2 g3)⟩
theorem HandM_mono {m : Bool} {P : Program} {f : FuncId} {xs : List SV} {s : St} {k k' : SV → St → Prop} (hk : ∀ v s', k v s' → k' v s') : HandM m P f xs s k → HandM m P f xs s k' :=
  fun ⟨g, ys, bs, Post, h0, h1, h2, h3, h4, h5, h6, h7, h8, h9⟩ => ⟨g, ys, bs, Post, h0, h1, h2, h3, h4, h5, h6, h7, h8, fun R' bs' r g1 g2 g3 => hk _ _ (h9 R' bs' r g1 g2 g3)⟩
theorem vcBin_mono {op : BinOp} {x y : Value} {k k' : Value → Prop} (hk : ∀ v, k v → k' v) : vcBin op x y k → vcBin op x y k' := by
  unfold vcBin
  split
  · rintro ⟨h1, h⟩
    refine ⟨h1, ?_⟩
    revert h
    unfold vcBinI
    split <;> first | exact fun h => hk _ h | exact fun ⟨r, h1, h2⟩ => ⟨r, h1, hk _ h2⟩ | exact fun ⟨h0, r, h1, h2⟩ => ⟨h0, r, h1, hk _ h2⟩ | exact fun ⟨h0, h1⟩ => ⟨h0, hk _ h1⟩ | exact id
  · split <;> first | exact fun h => hk _ h | exact id
  · exact id
theorem vcUn_mono {op : UnOp} {x : Value} {k k' : Value → Prop} (hk : ∀ v, k v → k' v) : vcUn op x k → vcUn op x k' := by
  unfold vcUn
  split <;> first | exact fun h => hk _ h | exact fun ⟨r, h1, h2⟩ => ⟨r, h1, hk _ h2⟩ | exact id
theorem partOf_mono {cs : List Value} {off : Nat} {n : Option Nat} {k k' : Value → Prop} (hk : ∀ v, k v → k' v) : partOf cs off n k → partOf cs off n k' := by
  unfold partOf
  split
  · split
    · exact hk _
    · exact id
  · exact fun ⟨h1, h2⟩ => ⟨h1, hk _ h2⟩
theorem srcCells_mono {s : St} {T sz : Nat} {x : SV} {k k' : Nat → List Value → Prop} (hk : ∀ m v, k m v → k' m v) : srcCells s T sz x k → srcCells s T sz x k' := by
  unfold srcCells
  split
  · exact fun ⟨vs, h1, h2, h3, h4⟩ => ⟨vs, h1, h2, h3, hk _ _ h4⟩
  · exact fun ⟨vs, h1, h2, h3, h4⟩ => ⟨vs, h1, h2, h3, hk _ _ h4⟩
  · exact fun ⟨vs, h1, h2, h3, h4, h5, h6⟩ => ⟨vs, h1, h2, h3, h4, h5, hk _ _ h6⟩
  · exact id
section
variable {P : PG}
theorem vcOp_mono {o : VOp} {s : St} {k k' : SV → St → Prop} (hk : ∀ v s', k v s' → k' v s') (h : vcOp P o s k) : vcOp P o s k' := by
  revert h
  cases o with
  | load n x =>
    cases n <;> simp only [vcOp] <;> split
    · split
      · split
        · exact hk _ _
        · exact id
      · exact fun ⟨c, h1, h2⟩ => ⟨c, h1, hk _ _ h2⟩
      · exact id
    · exact fun ⟨c, h1, h2⟩ => ⟨c, h1, hk _ _ h2⟩
    · exact id
    · exact cellsAt_mono _ fun _ _ => hk _ _
    · exact fun ⟨c, h0, h1, h2⟩ => ⟨c, h0, h1, hk _ _ h2⟩
    · exact id
  | build z ps => exact fillV_mono _ fun _ _ => hk _ _
  | bslice T sz len z ps => exact fillV_mono _ fun _ _ => hk _ _
  | call m f args =>
    simp only [vcOp]
    split
    · rintro (h | h | h | h)
      · exact .inl (VCall_mono (fun _ _ => hk _ _) h)
      · exact .inr (.inl (HandM_mono hk h))
      · exact .inr (.inr (.inl (Lend_mono hk h)))
      · exact .inr (.inr (.inr (LendA_mono hk h)))
    · rintro (h | h | h | h)
      · exact .inl (leaves_mono _ (fun _ _ => VCall_mono fun _ _ => hk _ _) h)
      · exact .inr (.inl (Lend_mono hk h))
      · exact .inr (.inr (.inl (HandM_mono hk h)))
      · exact .inr (.inr (.inr (LendA_mono hk h)))
  | callv m x args =>
    simp only [vcOp]
    split
    · rintro ⟨h0, h⟩
      refine ⟨h0, ?_⟩
      revert h
      split
      · exact VCall_mono fun _ _ => hk _ _
      · exact Lend_mono hk
    · exact fun ⟨h0, h⟩ => ⟨h0, h.imp (Lend_mono hk) (HandM_mono hk)⟩
    · exact id
  | append T sz by' x y =>
    refine srcCells_mono fun m ys => ?_
    split
    · exact fun ⟨h1, h2⟩ => ⟨fun e => hk _ _ (h1 e), fun e => ⟨(h2 e).1, hk _ _ (h2 e).2⟩⟩
    · exact fun ⟨h1, h2⟩ => ⟨fun e => hk _ _ (h1 e), fun e => ⟨(h2 e).1, hk _ _ (h2 e).2⟩⟩
    · exact fun ⟨j, cs, h1, h2, h3, h4, h5, h6⟩ => ⟨j, cs, h1, h2, h3, h4, h5, fun b' cap' R' g1 g2 g3 g4 => hk _ _ (h6 b' cap' R' g1 g2 g3 g4)⟩
    · exact fun ⟨cs0, cs, h1, h2, h3, h4, h5⟩ => ⟨cs0, cs, h1, h2, h3, h4, hk _ _ h5⟩
    · exact id
  | store n x v =>
    simp only [vcOp]
    split
    · split
      · exact fun ⟨h1, h2, h3, h4⟩ => ⟨h1, h2, h3, hk _ _ h4⟩
      · exact leaf_mono fun _ _ ⟨h1, h2, h3, h4, h5⟩ => ⟨h1, h2, h3, h4, hk _ _ h5⟩
      · exact id
    · exact fun ⟨j, F, h0, h⟩ => ⟨j, F, h0, leaf_mono (fun _ _ ⟨h1, h2, h3, h4, h5, h6⟩ => ⟨h1, h2, h3, h4, h5, hk _ _ h6⟩) h⟩
    · exact id
  | mput ks x y v =>
    simp only [vcOp]
    split
    · exact fun ⟨h0, h⟩ => ⟨h0, leaf_mono (fun u s' ⟨es, c, r, h1, h2, h3⟩ => ⟨es, c, r, h1, h2, hk _ _ h3⟩) h⟩
    · exact id
  | mdel ks x y =>
    simp only [vcOp]
    split
    · exact fun ⟨h0, es, c, r, h1, h2, h3⟩ => ⟨h0, es, c, r, h1, h2, hk _ _ h3⟩
    · exact id
  | mrange x =>
    simp only [vcOp]
    split
    · exact fun ⟨es, c, h1, h2⟩ => ⟨es, c, h1, hk _ _ h2⟩
    · exact id
  | mnext x =>
    simp only [vcOp]
    split
    · exact fun ⟨m, since, seen, last, es, c, h1, h2, h3, h4, h5, h6⟩ => ⟨m, since, seen, last, es, c, h1, h2, h3, h4, fun h => hk _ _ (h5 h), fun e he h => hk _ _ (h6 e he h)⟩
    · exact id
  | mentry x =>
    simp only [vcOp]
    split
    · exact fun ⟨m, since, seen, es, c, e, h1, h2, h3, h4, h5⟩ => ⟨m, since, seen, es, c, e, h1, h2, h3, h4, hk _ _ h5⟩
    · exact id
  | mget ks z ok x y =>
    simp only [vcOp]
    split
    · exact fun ⟨h0, es, c, r, h1, h2, h3⟩ => ⟨h0, es, c, r, h1, h2, hk _ _ h3⟩
    · exact id
  | shift l x y =>
    simp only [vcOp]
    split
    · rintro ⟨h0, n, h1, h⟩
      refine ⟨h0, n, h1, ?_⟩
      revert h
      split
      · exact fun ⟨r, h1, h2⟩ => ⟨r, h1, hk _ _ h2⟩
      · exact hk _ _
    · exact id
  | bin op x y =>
    simp only [vcOp]
    split
    · exact vcBin_mono fun _ => hk _ _
    · exact id
  | un op x =>
    simp only [vcOp]
    split
    · exact vcUn_mono fun _ => hk _ _
    · exact id
  | sliceA len x =>
    simp only [vcOp]
    refine leaf_mono fun v s' => ?_
    split
    · exact hk _ _
    · exact id
  | slice3 sz x lo hi mx =>
    simp only [vcOp]
    split
    · exact fun ⟨l, r, m, h1, h2, h3, h4, h5, h6, h7⟩ => ⟨l, r, m, h1, h2, h3, h4, h5, h6, hk _ _ h7⟩
    · refine leaf_mono fun v s' => ?_
      unfold slc3
      split
      · exact fun ⟨l, r, m, h1, h2, h3, h4, h5, h6, h7⟩ => ⟨l, r, m, h1, h2, h3, h4, h5, h6, hk _ _ h7⟩
      · exact id
    · exact id
  | field off n x =>
    simp only [vcOp]
    split
    · exact partOf_mono fun _ => hk _ _
    · exact id
  | index len sz n x i =>
    simp only [vcOp]
    split
    · exact fun ⟨h1, h2, h3⟩ => ⟨h1, h2, partOf_mono (fun _ => hk _ _) h3⟩
    · exact id
  | _ =>
    simp only [vcOp]
    repeat' split
    all_goals first
      | exact hk _ _
      | exact id
      | exact fun ⟨h1, h2⟩ => ⟨fun e => hk _ _ (h1 e), fun e => hk _ _ (h2 e)⟩
      | exact fun ⟨h1, h2⟩ => ⟨h1, hk _ _ h2⟩
      | exact fun ⟨h1, h2, h3⟩ => ⟨h1, h2, hk _ _ h3⟩
      | exact fun ⟨h1, h2, h3, h4⟩ => ⟨h1, h2, h3, hk _ _ h4⟩
      | exact fun ⟨h1, h2, h3, h4, h5⟩ => ⟨h1, h2, h3, h4, hk _ _ h5⟩
      | exact fun ⟨h1, h2, h3, h4, h5, h6⟩ => ⟨h1, h2, h3, h4, h5, hk _ _ h6⟩
      | exact fun ⟨h1, h2, h3, h4, h5, h6, h7⟩ => ⟨h1, h2, h3, h4, h5, h6, hk _ _ h7⟩
      | exact fun ⟨h1, h2, h3, h4, h5, h6, h7, h8⟩ => ⟨h1, h2, h3, h4, h5, h6, h7, hk _ _ h8⟩
      | exact fun ⟨h1, h2, h3, h4, h5, h6, h7, h8, h9⟩ => ⟨h1, h2, h3, h4, h5, h6, h7, h8, hk _ _ h9⟩
      | exact fun ⟨h1, h2, h3, h4, h5, h6, h7, h8, h9, h10⟩ => ⟨h1, h2, h3, h4, h5, h6, h7, h8, h9, hk _ _ h10⟩
theorem vcSteps_mono : ∀ (l : List VStep) {s : St} {K K' : St → Prop}, (∀ s', K s' → K' s') → vcSteps P l s K → vcSteps P l s K'
  | [], s, K, K', hK, h => hK _ h
  | ⟨d, none, o⟩ :: r, s, K, K', hK, h => vcOp_mono (fun v s' h' => vcSteps_mono r hK h') h
  | ⟨d, some (t, b), o⟩ :: r, s, K, K', hK, h => by
    simp only [vcSteps] at h ⊢
    revert h
    split
    · exact fun ⟨h1, h2⟩ => ⟨fun e => vcOp_mono (fun v s' h' => vcSteps_mono r hK h') (h1 e), fun e => vcSteps_mono r hK (h2 e)⟩
    · exact vcSteps_mono r hK
theorem vcVT_mono : ∀ (t : VT) {s : St} {K K' : St → Prop}, (∀ s', K s' → K' s') → vcVT P t s K → vcVT P t s K'
  | .nil, s, K, K', hK, h => hK _ h
  | .step x r, s, K, K', hK, h => vcSteps_mono [x] (fun s' h' => vcVT_mono r hK h') h
  | .pre n x r, s, K, K', hK, h => ⟨h.1, h.2.1, vcVT_mono r hK h.2.2⟩
  | .alt x l r, s, K, K', hK, h => ⟨vcSteps_mono [x] (fun s' h' => vcVT_mono l hK h') h.1, vcVT_mono r hK h.2⟩
theorem vcCode_mono : ∀ (c : VCode) {s : St} {kn kn' : St → Prop} {ke ke' : Nat → St → Prop} {kr kr' : St → Prop}, (∀ s', kn s' → kn' s') → (∀ i s', ke i s' → ke' i s') → (∀ s', kr s' → kr' s') → vcCode P c s kn ke kr → vcCode P c s kn' ke' kr'
  | .skip, s, kn, kn', ke, ke', kr, kr', h1, h2, h3, h => h1 _ h
  | .ops l, s, kn, kn', ke, ke', kr, kr', h1, h2, h3, h => vcSteps_mono l h1 h
  | .tree t, s, kn, kn', ke, ke', kr, kr', h1, h2, h3, h => vcVT_mono t h1 h
  | .seq a b, s, kn, kn', ke, ke', kr, kr', h1, h2, h3, h => vcCode_mono a (fun s' h' => vcCode_mono b h1 h2 h3 h') h2 h3 h
  | .cond c a b, s, kn, kn', ke, ke', kr, kr', h1, h2, h3, h => by
    simp only [vcCode] at h ⊢
    revert h
    split
    · exact fun ⟨g1, g2⟩ => ⟨fun e => vcCode_mono a h1 h2 h3 (g1 e), fun e => vcCode_mono b h1 h2 h3 (g2 e)⟩
    · exact id
  | .block id b, s, kn, kn', ke, ke', kr, kr', h1, h2, h3, h => vcCode_mono b h1 (fun i s' ⟨g1, g2⟩ => ⟨fun e => h1 _ (g1 e), fun e => h2 _ _ (g2 e)⟩) h3 h
  | .exit id, s, kn, kn', ke, ke', kr, kr', h1, h2, h3, h => h2 _ _ h
  | .ret, s, kn, kn', ke, ke', kr, kr', h1, h2, h3, h => h3 _ h
  | .bad, s, kn, kn', ke, ke', kr, kr', h1, h2, h3, h => h.elim
  | .loop b, s, kn, kn', ke, ke', kr, kr', h1, h2, h3, ⟨X, vals, blks, Φ, μ, h0, hr⟩ =>
    ⟨X, vals, blks, Φ, μ, h0, fun x env R' g1 g2 g3 => vcCode_mono b (fun s' h' => h') h2 h3 (hr x env R' g1 g2 g3)⟩
end
end Go.Proofs.YtcjdbfnnbejmeaaGreat.Vc

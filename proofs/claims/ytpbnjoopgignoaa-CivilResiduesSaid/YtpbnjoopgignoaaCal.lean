/- Plain definitions and lemmas of our own, no program in sight: calendars as data, the lengths of their months and years, the first days of their years. -/
import Derived.Test.YtpbnjoopgignoaaNb
namespace Go.Proofs.Ytpbnjoopgignoaa
set_option linter.unusedSimpArgs false
set_option linter.unusedVariables false
open Go.Proofs.Ytpbnjoopgignoaa.Vc

abbrev Rule := Int × Int × Bool
def rcells (r : Rule) : List Value := [.int .i64 r.1, .int .i64 r.2.1, .bool r.2.2]
structure Cal where
  epoch : Int
  months : List Int
  leap : Int
  rules : List Rule

def okRule (r : Rule) : Prop := 1 ≤ r.1 ∧ r.1 ≤ 400 ∧ 0 ≤ r.2.1 ∧ r.2.1 < r.1
instance (r : Rule) : Decidable (okRule r) := by unfold okRule; infer_instance
/-- The common number of years, from y on; none: a rule is not valid, or it is too large. -/
def perFrom : Int → List Rule → Option Int
  | y, [] => some y
  | y, r :: rs => if okRule r then (if (Int.lcm y r.1 : Int) ≤ 400 then perFrom (Int.lcm y r.1) rs else none) else none
def Cal.valid (c : Cal) : Prop :=
  (0 ≤ c.epoch ∧ c.epoch ≤ 1048576) ∧ (1 ≤ c.months.length ∧ c.months.length ≤ 16) ∧ (-1 ≤ c.leap ∧ c.leap < c.months.length) ∧ c.rules.length ≤ 16 ∧ (c.leap = -1 → c.rules = []) ∧
    (∀ m ∈ c.months, 1 ≤ m ∧ m ≤ 40) ∧ (perFrom 1 c.rules).isSome = true
instance (c : Cal) : Decidable c.valid := by unfold Cal.valid; infer_instance
def Cal.per (c : Cal) : Int := (perFrom 1 c.rules).getD 1
def leapOf (rs : List Rule) (y : Int) : Bool := rs.foldl (fun acc r => if y % r.1 = r.2.1 then r.2.2 else acc) false
/-- The length of the month behind m others. -/
def Cal.mlen (c : Cal) (y : Int) (m : Nat) : Int := c.months.getD m 0 + if (m : Int) = c.leap ∧ leapOf c.rules y = true then 1 else 0
def sumTo (f : Nat → Int) : Nat → Int
  | 0 => 0
  | n + 1 => sumTo f n + f n
def Cal.ylen (c : Cal) (y : Int) : Int := sumTo (c.mlen y) c.months.length
/-- The days of the first n years of a cycle. -/
def Cal.S (c : Cal) (n : Nat) : Int := sumTo (fun i => c.ylen (i + 1)) n
def Cal.days (c : Cal) : Int := c.S c.per.toNat
def Cal.first (c : Cal) (y : Int) : Int := c.epoch + (y - 1) / c.per * c.days + c.S ((y - 1) % c.per).toNat
/-- The first day of the month behind m others. -/
def Cal.beg (c : Cal) (y : Int) (m : Nat) : Int := c.first y + sumTo (c.mlen y) m

theorem sumTo_mono {f : Nat → Int} (h : ∀ i, 0 ≤ f i) {m n : Nat} (hmn : m ≤ n) : sumTo f m ≤ sumTo f n := by
  obtain ⟨d, rfl⟩ : ∃ d, n = m + d := ⟨n - m, by omega⟩
  clear hmn
  induction d with
  | zero => exact Int.le_refl _
  | succ d ih => have := h (m + d); rw [show m + (d + 1) = m + d + 1 by omega]; simp only [sumTo]; omega
theorem sumTo_congr {f g : Nat → Int} : ∀ n : Nat, (∀ i, i < n → f i = g i) → sumTo f n = sumTo g n
  | 0, _ => rfl
  | n + 1, h => by simp only [sumTo]; rw [sumTo_congr n (fun i hi => h i (by omega)), h n (by omega)]
theorem sumTo_add (f : Nat → Int) (m : Nat) : ∀ n : Nat, sumTo f (m + n) = sumTo f m + sumTo (fun i => f (m + i)) n
  | 0 => by simp [sumTo]
  | n + 1 => by rw [show m + (n + 1) = m + n + 1 by omega]; simp only [sumTo]; rw [sumTo_add f m n]; omega
theorem sumTo_bd {f : Nat → Int} {a b : Int} : ∀ n : Nat, (∀ i, i < n → a ≤ f i ∧ f i ≤ b) → n * a ≤ sumTo f n ∧ sumTo f n ≤ n * b
  | 0, _ => by simp [sumTo]
  | n + 1, h => by
    have h1 := sumTo_bd n (fun i hi => h i (by omega))
    have h2 := h n (by omega)
    simp only [sumTo]
    push_cast
    rw [Int.add_mul, Int.add_mul]
    omega

theorem okRule.bd {r : Rule} (h : okRule r) : 1 ≤ r.1 ∧ r.1 ≤ 400 := ⟨h.1, h.2.1⟩
theorem lcm_pos {a b : Int} (ha : 1 ≤ a) (hb : 1 ≤ b) : 1 ≤ (Int.lcm a b : Int) := by
  have : 0 < Int.lcm a b := Nat.pos_of_ne_zero (by rw [Ne, Int.lcm_eq_zero_iff]; omega)
  omega
theorem perFrom_spec : ∀ (rs : List Rule) (y p : Int), 1 ≤ y → y ≤ 400 → perFrom y rs = some p → (1 ≤ p ∧ p ≤ 400) ∧ y ∣ p ∧ ∀ r ∈ rs, okRule r ∧ r.1 ∣ p
  | [], y, p, h1, h2, h => by
    simp only [perFrom, Option.some.injEq] at h; subst h
    exact ⟨⟨h1, h2⟩, Int.dvd_refl _, by simp⟩
  | r :: rs, y, p, h1, h2, h => by
    simp only [perFrom] at h
    split at h
    · rename_i hr
      split at h
      · rename_i hl
        obtain ⟨g1, g2, g3⟩ := perFrom_spec rs _ p (lcm_pos h1 hr.1) hl h
        refine ⟨g1, Int.dvd_trans (Int.dvd_lcm_left _ _) g2, ?_⟩
        intro r' hr'
        rcases List.mem_cons.1 hr' with rfl | hr'
        · exact ⟨hr, Int.dvd_trans (Int.dvd_lcm_right _ _) g2⟩
        · exact g3 r' hr'
      · cases h
    · cases h
theorem Cal.valid.per {c : Cal} (h : c.valid) : perFrom 1 c.rules = some c.per ∧ (1 ≤ c.per ∧ c.per ≤ 400) ∧ ∀ r ∈ c.rules, okRule r ∧ r.1 ∣ c.per := by
  obtain ⟨_, _, _, _, _, _, h⟩ := h
  obtain ⟨p, hp⟩ := Option.isSome_iff_exists.1 h
  have : c.per = p := by simp [Cal.per, hp]
  rw [this]
  obtain ⟨g1, _, g3⟩ := perFrom_spec _ _ _ (by omega) (by omega) hp
  exact ⟨hp, g1, g3⟩
theorem leapOf_congr {rs : List Rule} {x y : Int} (h : ∀ r ∈ rs, x % r.1 = y % r.1) : leapOf rs x = leapOf rs y := by
  unfold leapOf
  generalize false = acc
  induction rs generalizing acc with
  | nil => rfl
  | cons r rs ih =>
    simp only [List.foldl_cons]
    rw [h r (by simp)]
    exact ih (fun r hr => h r (by simp [hr])) _
theorem Cal.valid.leap_mod {c : Cal} (h : c.valid) {x y : Int} (hxy : x % c.per = y % c.per) : leapOf c.rules x = leapOf c.rules y :=
  leapOf_congr fun r hr => by
    have hd := (h.per.2.2 r hr).2
    rw [← Int.emod_emod_of_dvd x hd, hxy, Int.emod_emod_of_dvd y hd]
theorem Cal.valid.mlen_mod {c : Cal} (h : c.valid) {x y : Int} (hxy : x % c.per = y % c.per) (m : Nat) : c.mlen x m = c.mlen y m := by
  unfold Cal.mlen; rw [h.leap_mod hxy]
theorem Cal.valid.ylen_mod {c : Cal} (h : c.valid) {x y : Int} (hxy : x % c.per = y % c.per) : c.ylen x = c.ylen y :=
  sumTo_congr _ fun i _ => h.mlen_mod hxy i
theorem Cal.valid.mlen_bd {c : Cal} (h : c.valid) (y : Int) {m : Nat} (hm : m < c.months.length) : 1 ≤ c.mlen y m ∧ c.mlen y m ≤ 41 := by
  obtain ⟨_, _, _, _, _, h, _⟩ := h
  have := h c.months[m] (List.getElem_mem hm)
  unfold Cal.mlen
  rw [List.getD_eq_getElem?_getD, List.getElem?_eq_getElem hm, Option.getD_some]
  split <;> omega
theorem Cal.mlen_nonneg {c : Cal} (h : c.valid) (y : Int) (m : Nat) : 0 ≤ c.mlen y m := by
  by_cases hm : m < c.months.length
  · have := h.mlen_bd y hm; omega
  · unfold Cal.mlen
    rw [List.getD_eq_getElem?_getD, List.getElem?_eq_none (by omega)]
    simp only [Option.getD_none]
    split <;> omega
theorem Cal.valid.ylen_bd {c : Cal} (h : c.valid) (y : Int) : c.months.length ≤ c.ylen y ∧ c.ylen y ≤ 656 := by
  have h1 := sumTo_bd (f := c.mlen y) (a := 1) (b := 41) c.months.length (fun i hi => h.mlen_bd y hi)
  have := h.2.1
  unfold Cal.ylen
  omega
theorem Cal.valid.S_bd {c : Cal} (h : c.valid) (n : Nat) : n ≤ c.S n ∧ c.S n ≤ 656 * n := by
  have h1 := sumTo_bd (f := fun i => c.ylen (i + 1)) (a := 1) (b := 656) n (fun i _ => by have := h.ylen_bd (i + 1); have := h.2.1; omega)
  unfold Cal.S
  omega
theorem Cal.valid.first_succ {c : Cal} (h : c.valid) (y : Int) : c.first (y + 1) = c.first y + c.ylen y := by
  have hp := h.per.2.1
  have h0 := Int.emod_nonneg (y - 1) (show c.per ≠ 0 by omega)
  have h1 := Int.emod_lt_of_pos (y - 1) (show 0 < c.per by omega)
  have hdm := Int.mul_ediv_add_emod (y - 1) c.per
  unfold Cal.first
  have hl : c.ylen y = c.ylen (((y - 1) % c.per).toNat + 1) := h.ylen_mod (by
    rw [Int.toNat_of_nonneg h0]
    have : y = (y - 1) + 1 := by omega
    rw [this, Int.add_sub_cancel, Int.emod_add_emod])
  by_cases hw : (y - 1) % c.per + 1 = c.per
  · have hd : (y + 1 - 1) / c.per = (y - 1) / c.per + 1 ∧ (y + 1 - 1) % c.per = 0 := by
      have : y + 1 - 1 = c.per * ((y - 1) / c.per + 1) := by rw [Int.mul_add]; omega
      rw [this]
      exact ⟨Int.mul_ediv_cancel_left _ (by omega), Int.mul_emod_right _ _⟩
    rw [hd.1, hd.2, hl]
    have : c.per.toNat = ((y - 1) % c.per).toNat + 1 := by omega
    simp only [Cal.days, this, Cal.S, Int.toNat_zero, sumTo, Int.add_mul]
    omega
  · have hd : (y + 1 - 1) / c.per = (y - 1) / c.per ∧ (y + 1 - 1) % c.per = (y - 1) % c.per + 1 := by
      have : y + 1 - 1 = ((y - 1) % c.per + 1) + c.per * ((y - 1) / c.per) := by omega
      rw [this]
      have e1 : ((y - 1) % c.per + 1) / c.per = 0 := Int.ediv_eq_zero_of_lt (by omega) (by omega)
      have e2 : ((y - 1) % c.per + 1) % c.per = (y - 1) % c.per + 1 := Int.emod_eq_of_lt (by omega) (by omega)
      exact ⟨by rw [Int.add_mul_ediv_left _ _ (by omega), e1]; omega, by rw [Int.add_mul_emod_self_left, e2]⟩
    rw [hd.1, hd.2, hl]
    have : ((y - 1) % c.per + 1).toNat = ((y - 1) % c.per).toNat + 1 := by omega
    rw [this]
    simp only [Cal.S, sumTo]
    omega
theorem Cal.valid.first_one {c : Cal} (h : c.valid) : c.first 1 = c.epoch := by
  have hp := h.per.2.1
  simp [Cal.first, Cal.S, sumTo]
/-- A later year begins later, by a day for each year at least. -/
theorem Cal.valid.first_add {c : Cal} (h : c.valid) (y : Int) : ∀ n : Nat, c.first y + n ≤ c.first (y + n) ∧ c.first (y + n) ≤ c.first y + 656 * n
  | 0 => by simp
  | n + 1 => by
    have h1 := h.first_add y n
    have h2 := h.first_succ (y + n)
    have h3 := h.ylen_bd (y + n)
    have h4 := h.2.1
    rw [show y + ((n + 1 : Nat) : Int) = y + n + 1 by omega, h2]
    push_cast
    omega
theorem Cal.valid.first_lt {c : Cal} (h : c.valid) {x y : Int} (hxy : x < y) : c.first x + c.ylen x ≤ c.first y := by
  have h1 := h.first_add (x + 1) (y - x - 1).toNat
  rw [show x + 1 + ((y - x - 1).toNat : Int) = y by omega, h.first_succ] at h1
  omega
theorem Cal.valid.first_bd {c : Cal} (h : c.valid) {y : Int} (hy : 1 ≤ y) (hy2 : y ≤ 10000) : c.epoch ≤ c.first y ∧ c.first y ≤ 7700000 := by
  have h1 := h.first_add 1 (y - 1).toNat
  rw [show (1 : Int) + ((y - 1).toNat : Int) = y by omega, h.first_one] at h1
  have := h.1
  omega
end Go.Proofs.Ytpbnjoopgignoaa

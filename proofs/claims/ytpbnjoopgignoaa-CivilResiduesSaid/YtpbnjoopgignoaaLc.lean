/- Plain lemmas for the laws of package civil about small calendars: the next day, the lengths, the repetition, the weeks. -/
import Derived.Test.YtpbnjoopgignoaaLb
namespace Go.Proofs.Ytpbnjoopgignoaa
set_option linter.unusedSimpArgs false
set_option linter.unusedVariables false
open Go.RowKit Go.Proofs.Ytpbnjoopgignoaa.Vc

theorem mlenA_at {c : Cal} (hv : c.valid) (y : Int) {m : Nat} (hm : m < c.months.length) : mlenA c y ((m : Int) + 1) = c.mlen y m := by
  rw [mlenA, if_pos ⟨hv, by omega, by omega⟩, show ((m : Int) + 1 - 1).toNat = m by omega]
theorem Cal.beg_succ (c : Cal) (y : Int) (m : Nat) : c.beg y (m + 1) = c.beg y m + c.mlen y m := by
  unfold Cal.beg; simp only [sumTo]; omega
theorem Cal.beg_zero (c : Cal) (y : Int) : c.beg y 0 = c.first y := by
  unfold Cal.beg; simp [sumTo]
theorem Cal.beg_all (c : Cal) (y : Int) : c.beg y c.months.length = c.first y + c.ylen y := rfl
/-- The next day. -/
theorem Cal.IsDay.next {c : Cal} (hv : c.valid) {y : Int} {m : Nat} {d day : Int} (h : c.IsDay y m d day) (hlast : day + 1 < c.first 10000) :
    (d < c.mlen y m ∧ c.IsDay y m (d + 1) (day + 1)) ∨ (d = c.mlen y m ∧ m + 1 < c.months.length ∧ c.IsDay y (m + 1) 1 (day + 1)) ∨ (d = c.mlen y m ∧ m + 1 = c.months.length ∧ c.IsDay (y + 1) 0 1 (day + 1)) := by
  obtain ⟨h1, h2, h3, h4, h5, h6⟩ := h
  by_cases hd : d < c.mlen y m
  · exact .inl ⟨hd, h1, h2, h3, by omega, by omega, by omega⟩
  · have hb := c.beg_succ y m
    by_cases hm : m + 1 < c.months.length
    · exact .inr (.inl ⟨by omega, hm, h1, h2, hm, by omega, (hv.mlen_bd y hm).1, by omega⟩)
    · refine .inr (.inr ⟨by omega, by omega, ?_⟩)
      have e : m + 1 = c.months.length := by omega
      rw [e, c.beg_all, ← hv.first_succ] at hb
      have hy : y + 1 ≤ 9999 := by
        by_cases hy : y = 9999
        · subst hy; simp only [Int.reduceAdd] at hb; omega
        · omega
      exact ⟨by omega, hy, by omega, by omega, (hv.mlen_bd (y + 1) (show 0 < c.months.length by omega)).1, by rw [c.beg_zero]; omega⟩
/-- The year that holds a day. -/
theorem year_eq {c : Cal} (hv : c.valid) {y y' day : Int} (h : c.first y ≤ day ∧ day < c.first y + c.ylen y) (h' : c.first y' ≤ day ∧ day < c.first y' + c.ylen y') : y = y' := by
  rcases Int.lt_trichotomy y y' with hlt | rfl | hlt
  · have := hv.first_lt hlt; omega
  · rfl
  · have := hv.first_lt hlt; omega
/-- After a multiple of a cycle's years. -/
theorem Cal.valid.first_per {c : Cal} (h : c.valid) (y k : Int) : c.first (y + k * c.per) = c.first y + k * c.days := by
  have hp := h.per.2.1.1
  have e : y + k * c.per - 1 = (y - 1) + c.per * k := by rw [Int.mul_comm c.per k]; omega
  unfold Cal.first
  rw [e, Int.add_mul_ediv_left _ _ (by omega), Int.add_mul_emod_self_left, Int.add_mul]
  omega
theorem per_mod (y k p : Int) : (y + k * p) % p = y % p := by rw [Int.mul_comm]; exact Int.add_mul_emod_self_left ..
theorem Cal.valid.beg_per {c : Cal} (h : c.valid) (y k : Int) (m : Nat) : c.beg (y + k * c.per) m = c.beg y m + k * c.days := by
  unfold Cal.beg
  rw [h.first_per, sumTo_congr m (fun i _ => h.mlen_mod (per_mod y k c.per) i)]
  omega
theorem leapA_per {c : Cal} (h : c.valid) (y k : Int) : leapA c (y + k * c.per) = leapA c y := by
  unfold leapA
  rw [h.leap_mod (per_mod y k c.per)]
theorem dayE_per {c : Cal} (h : c.valid) (y k m d : Int) (hy : 1 ≤ y ∧ y ≤ 9999) (hy' : 1 ≤ y + k * c.per ∧ y + k * c.per ≤ 9999) : dayE c (y + k * c.per) m d = dayE c y m d := by
  unfold dayE Cal.has
  simp only [hy, hy', h.mlen_mod (per_mod y k c.per)]
theorem dayV_per {c : Cal} (h : c.valid) (y k m d : Int) (hy : 1 ≤ y ∧ y ≤ 9999) (hy' : 1 ≤ y + k * c.per ∧ y + k * c.per ≤ 9999) (he : dayE c y m d = 0) : dayV c (y + k * c.per) m d = dayV c y m d + k * c.days := by
  unfold dayV
  rw [dayE_per h y k m d hy hy', if_pos he, if_pos he, h.beg_per]
  omega
theorem Cal.made_ylen (c : Cal) (y : Int) : c.made.ylen y ≤ 25 := by
  rw [c.made_valid.ylen_eq, Cal.common]
  have h1 := c.madeMonths_len
  have h2 := sumTo_bd (f := fun i => c.made.months.getD i 0) (a := 0) (b := 6) c.made.months.length (fun i hi => by
    have hi' : i < c.madeMonths.length := hi
    have := c.madeMonths_bd (c.madeMonths[i]) (List.getElem_mem hi')
    show 0 ≤ c.madeMonths.getD i 0 ∧ c.madeMonths.getD i 0 ≤ 6
    rw [List.getD_eq_getElem?_getD, List.getElem?_eq_getElem hi']
    simp only [Option.getD_some]
    omega)
  have h3 : c.made.months.length = c.madeMonths.length := rfl
  split <;> omega
end Go.Proofs.Ytpbnjoopgignoaa

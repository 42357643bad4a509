/- JobsCount (own work): what two tasks come to, clock by clock. No program in sight. -/
import Derived.Test.YtecfofmndpgnjaaJp
namespace Go.AM.Jb
open Go.AM
set_option linter.unusedSimpArgs false
set_option linter.unusedVariables false
def stA (n k c : Nat) : Tk := ⟨1, k, n, false, false, false, decide (c % n ≠ 0), if c % n = 0 then 0 else ((c - c % n : Nat) : Int), 0, false, (((c + n - 1) / n : Nat) : Int)⟩
def stB (n k free many c : Nat) (w : Bool) : Tk := ⟨2, k, n, true, false, w, decide (c < free), if c < free then ((free - n : Nat) : Int) else 0, 0, false, (many : Int)⟩
theorem ceil_step {n c : Nat} (hn : 0 < n) : (c + 1 + n - 1) / n = if c % n = 0 then (c + n - 1) / n + 1 else (c + n - 1) / n := by
  have e1 : c + 1 + n - 1 = c + n := by omega
  rw [e1, Nat.add_div_right _ hn]
  have hd := Nat.div_add_mod c n
  have hm := Nat.mod_lt c hn
  split
  · rename_i h0
    have e2 : (c + n - 1) / n = c / n := by
      apply Nat.div_eq_of_lt_le
      · rw [Nat.mul_comm]; omega
      · rw [Nat.mul_comm, Nat.mul_succ]; omega
    rw [e2]
  · rename_i h0
    apply Eq.symm
    apply Nat.div_eq_of_lt_le
    · rw [Nat.mul_comm, Nat.mul_succ]; omega
    · rw [Nat.mul_comm, Nat.mul_succ, Nat.mul_succ]; omega
theorem mod_step {n c : Nat} (hn : 0 < n) : (c + 1) % n = 0 ↔ c % n = n - 1 := by
  have hm := Nat.mod_lt c hn
  rw [Nat.add_mod]
  by_cases h1 : n = 1
  · subst h1; simp [Nat.mod_one]
  · rw [Nat.mod_eq_of_lt (show 1 < n by omega)]
    by_cases h2 : c % n + 1 < n
    · rw [Nat.mod_eq_of_lt h2]; omega
    · have : c % n + 1 = n := by omega
      rw [this, Nat.mod_self]; omega
theorem mod_next {n c : Nat} (hn : 0 < n) (h : (c + 1) % n ≠ 0) : (c + 1) % n = c % n + 1 := by
  have hm := Nat.mod_lt c hn
  have h' : ¬ c % n = n - 1 := fun e => h ((mod_step hn).2 e)
  rw [Nat.add_mod]
  by_cases h1 : n = 1
  · subst h1; simp [Nat.mod_one] at h
  · rw [Nat.mod_eq_of_lt (show 1 < n by omega), Nat.mod_eq_of_lt (by omega)]
/-- one clock, for the one that comes by itself -/
theorem stepA {n k c : Nat} (hn : 0 < n) : set1 ((c + 1 : Nat) : Int) (rel1 (c : Int) (stA n k c)) = some (stA n k (c + 1)) := by
  have hm := Nat.mod_lt c hn
  have hle := Nat.mod_le c n
  have hrel : rel1 (c : Int) (stA n k c) = ⟨1, k, n, false, false, false, true, ((c - c % n : Nat) : Int), 0, false, (((c + 1 + n - 1) / n : Nat) : Int)⟩ := by
    rw [ceil_step hn]
    by_cases h0 : c % n = 0
    · simp [rel1, skips, stA, h0]
    · simp [rel1, skips, stA, h0]
  rw [hrel]
  by_cases h1 : (c + 1) % n = 0
  · have h2 := (mod_step hn).1 h1
    have : decide (((c - c % n : Nat) : Int) + (n : Int) ≤ ((c + 1 : Nat) : Int)) = true := decide_eq_true (by omega)
    simp only [set1, ends, this, Bool.and_self, if_true, Bool.false_eq_true, if_false, idle1, stA, h1, ne_eq, not_true, decide_false]
  · have h2 : ¬ c % n = n - 1 := fun e => h1 ((mod_step hn).2 e)
    have : decide (((c - c % n : Nat) : Int) + (n : Int) ≤ ((c + 1 : Nat) : Int)) = false := decide_eq_false (by omega)
    have h3 := mod_next hn h1
    simp only [set1, ends, this, Bool.and_false, Bool.false_eq_true, if_false, stA, h1, ne_eq, not_false_iff, decide_true]
    congr 2
    rw [h3]; omega
/-- one clock, for the one that asks -/
theorem stepB1 {n k c free many : Nat} (hn : 0 < n) (h : free ≤ c) : set1 ((c + 1 : Nat) : Int) (rel1 (c : Int) (stB n k free many c true)) = some (stB n k (c + n) (many + 1) (c + 1) false) := by
  have hrel : rel1 (c : Int) (stB n k free many c true) = ⟨2, k, n, true, false, false, true, (c : Int), 0, false, ((many + 1 : Nat) : Int)⟩ := by
    simp [rel1, skips, stB, show ¬ c < free by omega]
  rw [hrel]
  by_cases h1 : n = 1
  · subst h1
    have : decide ((c : Int) + ((1 : Nat) : Int) ≤ ((c + 1 : Nat) : Int)) = true := decide_eq_true (by omega)
    simp only [set1, ends, this, Bool.and_self, if_true, Bool.false_eq_true, if_false, idle1, stB, Nat.lt_irrefl, decide_false]
  · have : decide ((c : Int) + (n : Int) ≤ ((c + 1 : Nat) : Int)) = false := decide_eq_false (by omega)
    have h3 : c + 1 < c + n := by omega
    simp only [set1, ends, this, Bool.and_false, Bool.false_eq_true, if_false, stB, h3, decide_true, if_true, Nat.add_sub_cancel]
theorem stepB0 {n k c free many : Nat} (hn : 0 < n) (h : free ≤ c + n) (h0 : n ≤ free ∨ free = 0) : set1 ((c + 1 : Nat) : Int) (rel1 (c : Int) (stB n k free many c false)) = some (stB n k free many (c + 1) false) := by
  have hrel : rel1 (c : Int) (stB n k free many c false) = stB n k free many c false := by
    simp only [rel1, skips, stB, Bool.not_false, Bool.and_self, Bool.or_true, if_true]
  rw [hrel]
  by_cases h1 : c < free
  · by_cases h2 : c + 1 < free
    · have : decide (((free - n : Nat) : Int) + (n : Int) ≤ ((c + 1 : Nat) : Int)) = false := decide_eq_false (by omega)
      simp only [set1, ends, stB, h1, h2, decide_true, if_true, Bool.true_and, this, Bool.false_eq_true, if_false]
    · have : decide (((free - n : Nat) : Int) + (n : Int) ≤ ((c + 1 : Nat) : Int)) = true := decide_eq_true (by omega)
      simp only [set1, ends, stB, h1, h2, decide_true, if_true, Bool.true_and, this, Bool.false_eq_true, if_false, idle1, decide_false]
  · have h2 : ¬ c + 1 < free := by omega
    simp only [set1, ends, stB, h1, h2, decide_false, Bool.false_and, Bool.false_eq_true, if_false]
theorem arr1 {n k c free many : Nat} (h : free ≤ c) : tarrive [stA n k c, stB n k free many c false] 2 = ([stA n k c, stB n k free many c true], 0) := by
  have : ¬ c < free := by omega
  simp [tarrive, tf, stA, stB, this, tset]
theorem arr0 {n k c free many : Nat} (h : c < free) : tarrive [stA n k c, stB n k free many c false] 2 = ([stA n k c, stB n k free many c false], 10) := by
  simp [tarrive, tf, stA, stB, h]
end Go.AM.Jb

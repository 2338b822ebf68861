/- SkipExact, the plain law: of numbers without gaps what may be is what is. -/
import Derived.Test.YtdahjdfjpckdcaaMtA
import Derived.Test.YtdahjdfjpckdcaaLtH
namespace Go.Proofs.Ytdahjdfjpckdcaa
open Go Go.Vm
theorem cmp3_zero {n m : Int} : cmp3 n m = 0 ↔ n = m := by unfold cmp3; split <;> (try split) <;> omega
theorem cmp3_le {n m : Int} : cmp3 n m ≤ 0 ↔ n ≤ m := by unfold cmp3; split <;> (try split) <;> omega
theorem cmp3_ge {n m : Int} : cmp3 n m ≥ 0 ↔ n ≥ m := by unfold cmp3; split <;> (try split) <;> omega
def runI (F : Int) (k : Nat) : List Int := (List.range k).map fun j => F + Int.ofNat j
def yesB (op v F : Int) (k : Nat) : Bool := (List.range k).any fun j => hldI op (cmp3 (F + Int.ofNat j) v)
def noB (op v F : Int) (k : Nat) : Bool := (List.range k).any fun j => !(hldI op (cmp3 (F + Int.ofNat j) v))
theorem any_iff {k : Nat} {p : Nat → Bool} : (List.range k).any p = true ↔ ∃ j, j < k ∧ p j = true := by
  rw [List.any_eq_true]
  constructor
  · rintro ⟨j, hj, h⟩; exact ⟨j, by simpa using hj, h⟩
  · rintro ⟨j, hj, h⟩; exact ⟨j, by simpa using hj, h⟩
theorem valI_eq {op v F : Int} {m : Nat} (h1 : 1 ≤ op) (h2 : op ≤ 6) : valI op (cmp3 F v) (cmp3 (F + Int.ofNat m) v) = setI (yesB op v F (m + 1)) (noB op v F (m + 1)) := by
  have key : ∀ (p q : Bool) (P Q : Nat → Bool), (p = true ↔ ∃ j, j < m + 1 ∧ P j = true) → (q = true ↔ ∃ j, j < m + 1 ∧ Q j = true) → setI p q = setI ((List.range (m + 1)).any P) ((List.range (m + 1)).any Q) := by
    intro p q P Q hp hq
    have e1 : p = (List.range (m + 1)).any P := by rw [Bool.eq_iff_iff, any_iff]; exact hp
    have e2 : q = (List.range (m + 1)).any Q := by rw [Bool.eq_iff_iff, any_iff]; exact hq
    rw [e1, e2]
  have h : op = 1 ∨ op = 2 ∨ op = 3 ∨ op = 4 ∨ op = 5 ∨ op = 6 := by omega
  have hm0 : Int.ofNat 0 = 0 := rfl
  unfold yesB noB
  rcases h with rfl | rfl | rfl | rfl | rfl | rfl
  · refine key _ _ _ _ ?_ ?_
    · simp only [Bool.and_eq_true, decide_eq_true_eq, hldI, if_true, cmp3_le, cmp3_ge, cmp3_zero]
      constructor
      · rintro ⟨a, b⟩; exact ⟨(v - F).toNat, by simp only [Int.ofNat_eq_natCast] at *; omega, by simp only [Int.ofNat_eq_natCast] at *; omega⟩
      · rintro ⟨j, a, b⟩; simp only [Int.ofNat_eq_natCast] at *; omega
    · simp only [Bool.or_eq_true, decide_eq_true_eq, hldI, if_true, cmp3_zero, ne_eq, Bool.not_eq_true', decide_eq_false_iff_not]
      constructor
      · rintro (a | a)
        · exact ⟨0, by omega, by simp only [Int.ofNat_eq_natCast] at *; omega⟩
        · exact ⟨m, by omega, a⟩
      · rintro ⟨j, a, b⟩; simp only [Int.ofNat_eq_natCast] at *; omega
  · refine key _ _ _ _ ?_ ?_
    · simp only [Bool.or_eq_true, decide_eq_true_eq, hldI, cmp3_zero, ne_eq, show ¬ ((2 : Int) = 1) from by decide, if_false, if_true]
      constructor
      · rintro (a | a)
        · exact ⟨0, by omega, by simp only [Int.ofNat_eq_natCast] at *; omega⟩
        · exact ⟨m, by omega, a⟩
      · rintro ⟨j, a, b⟩; simp only [Int.ofNat_eq_natCast] at *; omega
    · simp only [Bool.and_eq_true, decide_eq_true_eq, hldI, cmp3_le, cmp3_ge, cmp3_zero, ne_eq, Bool.not_eq_true', decide_eq_false_iff_not, show ¬ ((2 : Int) = 1) from by decide, if_false, if_true, Decidable.not_not]
      constructor
      · rintro ⟨a, b⟩; exact ⟨(v - F).toNat, by simp only [Int.ofNat_eq_natCast] at *; omega, by simp only [Int.ofNat_eq_natCast] at *; omega⟩
      · rintro ⟨j, a, b⟩; simp only [Int.ofNat_eq_natCast] at *; omega
  · refine key _ _ _ _ ?_ ?_ <;>
    simp only [decide_eq_true_eq, hldI, cmp3_neg, cmp3_ge, Bool.not_eq_true', decide_eq_false_iff_not, show ¬ ((3 : Int) = 1) from by decide, show ¬ ((3 : Int) = 2) from by decide, if_false, if_true]
    · exact ⟨fun a => ⟨0, by omega, by simp only [Int.ofNat_eq_natCast] at *; omega⟩, by rintro ⟨j, a, b⟩; simp only [Int.ofNat_eq_natCast] at *; omega⟩
    · exact ⟨fun a => ⟨m, by omega, by simp only [Int.ofNat_eq_natCast] at *; omega⟩, by rintro ⟨j, a, b⟩; simp only [Int.ofNat_eq_natCast] at *; omega⟩
  · refine key _ _ _ _ ?_ ?_ <;>
    simp only [decide_eq_true_eq, hldI, cmp3_le, cmp3_pos, Bool.not_eq_true', decide_eq_false_iff_not, show ¬ ((4 : Int) = 1) from by decide, show ¬ ((4 : Int) = 2) from by decide, show ¬ ((4 : Int) = 3) from by decide, if_false, if_true]
    · exact ⟨fun a => ⟨0, by omega, by simp only [Int.ofNat_eq_natCast] at *; omega⟩, by rintro ⟨j, a, b⟩; simp only [Int.ofNat_eq_natCast] at *; omega⟩
    · exact ⟨fun a => ⟨m, by omega, by simp only [Int.ofNat_eq_natCast] at *; omega⟩, by rintro ⟨j, a, b⟩; simp only [Int.ofNat_eq_natCast] at *; omega⟩
  · refine key _ _ _ _ ?_ ?_ <;>
    simp only [decide_eq_true_eq, hldI, cmp3_le, cmp3_pos, Bool.not_eq_true', decide_eq_false_iff_not, show ¬ ((5 : Int) = 1) from by decide, show ¬ ((5 : Int) = 2) from by decide, show ¬ ((5 : Int) = 3) from by decide, show ¬ ((5 : Int) = 4) from by decide, if_false, if_true]
    · exact ⟨fun a => ⟨m, by omega, by simp only [Int.ofNat_eq_natCast] at *; omega⟩, by rintro ⟨j, a, b⟩; simp only [Int.ofNat_eq_natCast] at *; omega⟩
    · exact ⟨fun a => ⟨0, by omega, by simp only [Int.ofNat_eq_natCast] at *; omega⟩, by rintro ⟨j, a, b⟩; simp only [Int.ofNat_eq_natCast] at *; omega⟩
  · refine key _ _ _ _ ?_ ?_ <;>
    simp only [decide_eq_true_eq, hldI, cmp3_ge, cmp3_neg, Bool.not_eq_true', decide_eq_false_iff_not, show ¬ ((6 : Int) = 1) from by decide, show ¬ ((6 : Int) = 2) from by decide, show ¬ ((6 : Int) = 3) from by decide, show ¬ ((6 : Int) = 4) from by decide, show ¬ ((6 : Int) = 5) from by decide, if_false]
    · exact ⟨fun a => ⟨m, by omega, by simp only [Int.ofNat_eq_natCast] at *; omega⟩, by rintro ⟨j, a, b⟩; simp only [Int.ofNat_eq_natCast] at *; omega⟩
    · exact ⟨fun a => ⟨0, by omega, by simp only [Int.ofNat_eq_natCast] at *; omega⟩, by rintro ⟨j, a, b⟩; simp only [Int.ofNat_eq_natCast] at *; omega⟩
def eN (a b c : Bool) : Nat := cond a 1 0 + cond b 2 0 + cond c 4 0
theorem eN_step (a b c : Bool) {x : Nat} (h : x < 3) : eN a b c ||| (1 <<< x) = eN (a || x == 0) (b || x == 1) (c || x == 2) := by
  have hx : x = 0 ∨ x = 1 ∨ x = 2 := by omega
  rcases hx with rfl | rfl | rfl <;> cases a <;> cases b <;> cases c <;> rfl
theorem eN_lt (a b c : Bool) : eN a b c < 8 := by cases a <;> cases b <;> cases c <;> decide
theorem outE_lt (op v : Int) (o : Option Int) : outE op v o < 3 := by
  cases o with
  | none => exact (by decide : 2 < 3)
  | some n => simp only [outE, evN]; cases hldI op (cmp3 n v) <;> decide
def foldW (op v : Int) (os : List (Option Int)) : Nat := os.foldl (fun w o => w ||| (1 <<< outE op v o)) 0
theorem foldW_go (op v : Int) : ∀ (os : List (Option Int)) (a b c : Bool), os.foldl (fun w o => w ||| (1 <<< outE op v o)) (eN a b c) = eN (a || os.any fun o => outE op v o == 0) (b || os.any fun o => outE op v o == 1) (c || os.any fun o => outE op v o == 2)
  | [], a, b, c => by simp
  | o :: os, a, b, c => by
    rw [List.foldl_cons, eN_step a b c (outE_lt op v o), foldW_go op v os]
    simp only [List.any_cons, Bool.or_assoc]
theorem foldW_eq (op v : Int) (os : List (Option Int)) : foldW op v os = eN (os.any fun o => outE op v o == 0) (os.any fun o => outE op v o == 1) (os.any fun o => outE op v o == 2) := by
  have := foldW_go op v os false false false
  simp only [Bool.false_or] at this
  exact this
def rowX (F : Int) (k : Nat) (nu : Bool) : List (Option Int) := (runI F k).map some ++ (cond nu [none] [])
theorem any_run (op v F : Int) (k : Nat) (nu : Bool) : ((rowX F k nu).any fun o => outE op v o == 0) = noB op v F k ∧ ((rowX F k nu).any fun o => outE op v o == 1) = yesB op v F k ∧ ((rowX F k nu).any fun o => outE op v o == 2) = nu := by
  have h0 : ∀ n, (outE op v (some n) == 0) = !(hldI op (cmp3 n v)) := fun n => by simp only [outE, evN]; cases hldI op (cmp3 n v) <;> rfl
  have h1 : ∀ n, (outE op v (some n) == 1) = hldI op (cmp3 n v) := fun n => by simp only [outE, evN]; cases hldI op (cmp3 n v) <;> rfl
  have h2 : ∀ n, (outE op v (some n) == 2) = false := fun n => by simp only [outE, evN]; cases hldI op (cmp3 n v) <;> rfl
  have n0 : ((cond nu [none] [] : List (Option Int)).any fun o => outE op v o == 0) = false := by cases nu <;> rfl
  have n1 : ((cond nu [none] [] : List (Option Int)).any fun o => outE op v o == 1) = false := by cases nu <;> rfl
  have n2 : ((cond nu [none] [] : List (Option Int)).any fun o => outE op v o == 2) = nu := by cases nu <;> rfl
  unfold rowX runI noB yesB
  rw [List.any_append, List.any_append, List.any_append, n0, n1, n2, List.map_map, List.any_map, List.any_map, List.any_map]
  refine ⟨?_, ?_, ?_⟩
  · rw [Bool.or_false]; congr 1; funext j; exact h0 _
  · rw [Bool.or_false]; congr 1; funext j; exact h1 _
  · have : ((List.range k).any ((fun o => outE op v o == 2) ∘ some ∘ fun j => F + Int.ofNat j)) = false := by
      rw [List.any_eq_false]; intro j _; simp [h2]
    rw [this, Bool.false_or]
theorem mask_eq {op v F : Int} {m : Nat} {nu : Bool} (h1 : 1 ≤ op) (h2 : op ≤ 6) : maskI op (cmp3 F v) (cmp3 (F + Int.ofNat m) v) (cond nu 1 0) = Int.ofNat (foldW op v (rowX F (m + 1) nu)) := by
  obtain ⟨a0, a1, a2⟩ := any_run op v F (m + 1) nu
  rw [foldW_eq, a0, a1, a2]
  unfold maskI
  rw [valI_eq h1 h2]
  generalize yesB op v F (m + 1) = y
  generalize noB op v F (m + 1) = n
  cases nu <;> cases y <;> cases n <;> rfl
theorem foldW_lt (op v F : Int) (k : Nat) (nu : Bool) : foldW op v (rowX F k nu) < 8 := by rw [foldW_eq]; exact eN_lt _ _ _
theorem numN_some : ∀ (l : List Int), numN (l.map some) = l
  | [] => rfl
  | n :: r => by simp [numN, numN_some r]
theorem nulN_some : ∀ (l : List Int), nulN (l.map some) = 0
  | [] => rfl
  | n :: r => by simp [nulN, nulN_some r]
theorem fold_up (F : Int) : ∀ m : Nat, ((List.range m).map fun j => F + Int.ofNat (j + 1)).foldl miF F = F ∧ ((List.range m).map fun j => F + Int.ofNat (j + 1)).foldl mxF F = F + Int.ofNat m
  | 0 => ⟨rfl, by simp⟩
  | m + 1 => by
    obtain ⟨h1, h2⟩ := fold_up F m
    rw [List.range_succ, List.map_append, List.foldl_append, List.foldl_append, h1, h2]
    simp only [List.map_cons, List.map_nil, List.foldl_cons, List.foldl_nil, miF, mxF, Int.ofNat_eq_natCast]
    constructor
    · rw [if_neg (by omega)]
    · rw [if_pos (by omega)]
theorem runI_cons (F : Int) (m : Nat) : runI F (m + 1) = F :: (List.range m).map fun j => F + Int.ofNat (j + 1) := by
  unfold runI
  rw [List.range_succ_eq_map, List.map_cons, List.map_map]
  simp only [Int.ofNat_eq_natCast, Int.natCast_zero, Int.add_zero]
  rfl
theorem rowX_len (F : Int) (k : Nat) (nu : Bool) : (rowX F k nu).length = k + cond nu 1 0 := by
  unfold rowX runI
  cases nu <;> simp
theorem statO_run (F : Int) (m : Nat) (nu : Bool) : statO (rowX F (m + 1) nu) = statC (Int.ofNat (rowX F (m + 1) nu).length) (cond nu 1 0) F (F + Int.ofNat m) := by
  have e1 : numN (rowX F (m + 1) nu) = F :: (List.range m).map fun j => F + Int.ofNat (j + 1) := by
    unfold rowX
    cases nu with
    | false => rw [cond_false, List.append_nil, numN_some, runI_cons]
    | true => rw [cond_true, numN_app, numN_some, runI_cons]; simp
  have e2 : Int.ofNat (nulN (rowX F (m + 1) nu)) = cond nu 1 0 := by
    unfold rowX
    cases nu with
    | false => rw [cond_false, List.append_nil, nulN_some]; rfl
    | true => rw [cond_true, nulN_app, nulN_some]; rfl
  unfold statO
  rw [e1]
  simp only [(fold_up F m).1, (fold_up F m).2, e2]
end Go.Proofs.Ytdahjdfjpckdcaa

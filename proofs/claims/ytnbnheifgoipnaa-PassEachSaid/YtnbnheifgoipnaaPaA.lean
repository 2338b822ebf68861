/- The rounds of layer 22: what the small functions give. -/
import Derived.Test.YtnbnheifgoipnaaVmW
import Derived.KernelRfl
import Derived.Test.YtnbnheifgoipnaaProg
namespace Go.Proofs.Ytnbnheifgoipnaa
open Go Go.Vm

abbrev vT : AV := .p (.bool true)
abbrev vF : AV := .p (.bool false)
abbrev vB (p : Prop) [Decidable p] : AV := .p (.bool (decide p))
abbrev vN (n : Int) : AV := .p (.int .i64 n)
abbrev vR (a n d : Int) : AV := .agg [vN a, vN n, vN d]
def rOk (a n d : Int) : Bool := decide (1 ≤ n ∧ 0 ≤ d ∧ d < n ∧ 0 ≤ a ∧ a < n)
def rTo (a n d : Int) : Int := if rOk a n d then (if d ≥ IntKind.wrap .i64 (n - a) then IntKind.wrap .i64 (d - IntKind.wrap .i64 (n - a)) else IntKind.wrap .i64 (a + d)) else 0
def rUp (a n d : Int) : Int := if rOk a n d then IntKind.wrap .i64 (d + 1) else d
def rIs (a n d : Int) : Int := if rOk a n d then IntKind.wrap .i64 (n - d) else 0
def oNext : List AV → List Blk → Option (AV × List Blk)
  | [.agg [.p (.int .i64 a), .p (.int .i64 n), .p (.int .i64 d)]], [] => some (.tup [vN (rTo a n d), .p (.bool (rOk a n d))], [])
  | _, _ => none
def oStep : List AV → List Blk → Option (AV × List Blk)
  | [.agg [.p (.int .i64 a), .p (.int .i64 n), .p (.int .i64 d)]], [] => some (vR a n (rUp a n d), [])
  | _, _ => none
def oLeft : List AV → List Blk → Option (AV × List Blk)
  | [.agg [.p (.int .i64 a), .p (.int .i64 n), .p (.int .i64 d)]], [] => some (vN (rIs a n d), [])
  | _, _ => none
def oTrue : List AV → List Blk → Option (AV × List Blk)
  | [], [] => some (vT, [])
  | _, _ => none
def m0 : Vm.Mode := ⟨fun _ => false, fun _ => none⟩

set_option maxRecDepth 100000
section
variable (a n d : Int)
theorem next1 : runO Try.prog m0 50 10 [vR a n d] [] [(5, vT)] = some (.tup [vN 0, vF], [], [(vB (n < 1), vT)]) := by kernel_rfl
theorem next2 : runO Try.prog m0 50 10 [vR a n d] [] [(5, vF), (3, vT)] = some (.tup [vN 0, vF], [], [(vB (d < 0), vT), (vB (n < 1), vF)]) := by kernel_rfl
theorem next3 : runO Try.prog m0 50 10 [vR a n d] [] [(5, vF), (3, vF), (6, vT)] = some (.tup [vN 0, vF], [], [(vB (d ≥ n), vT), (vB (d < 0), vF), (vB (n < 1), vF)]) := by kernel_rfl
theorem next4 : runO Try.prog m0 50 10 [vR a n d] [] [(5, vF), (3, vF), (6, vF), (4, vT)] = some (.tup [vN 0, vF], [], [(vB (a < 0), vT), (vB (d ≥ n), vF), (vB (d < 0), vF), (vB (n < 1), vF)]) := by kernel_rfl
theorem next5 : runO Try.prog m0 50 10 [vR a n d] [] [(5, vF), (3, vF), (6, vF), (4, vF), (6, vT)] = some (.tup [vN 0, vF], [], [(vB (a ≥ n), vT), (vB (a < 0), vF), (vB (d ≥ n), vF), (vB (d < 0), vF), (vB (n < 1), vF)]) := by kernel_rfl
theorem next6 : runO Try.prog m0 50 10 [vR a n d] [] [(5, vF), (3, vF), (6, vF), (4, vF), (6, vF), (8, vT)] =
  some (.tup [vN (IntKind.wrap .i64 (d - (IntKind.wrap .i64 (n - a)))), vT], [], [(vB (d ≥ IntKind.wrap .i64 (n - a)), vT), (vB (a ≥ n), vF), (vB (a < 0), vF), (vB (d ≥ n), vF), (vB (d < 0), vF), (vB (n < 1), vF)]) := by kernel_rfl
theorem next7 : runO Try.prog m0 50 10 [vR a n d] [] [(5, vF), (3, vF), (6, vF), (4, vF), (6, vF), (8, vF)] =
  some (.tup [vN (IntKind.wrap .i64 (a + d)), vT], [], [(vB (d ≥ IntKind.wrap .i64 (n - a)), vF), (vB (a ≥ n), vF), (vB (a < 0), vF), (vB (d ≥ n), vF), (vB (d < 0), vF), (vB (n < 1), vF)]) := by kernel_rfl
theorem rnext1 : runO Try.prog m0 50 11 [vR a n d] [] [(5, vT)] = some (.tup [vN 0, vF], [], [(vB (n < 1), vT)]) := by kernel_rfl
theorem rnext2 : runO Try.prog m0 50 11 [vR a n d] [] [(5, vF), (3, vT)] = some (.tup [vN 0, vF], [], [(vB (d < 0), vT), (vB (n < 1), vF)]) := by kernel_rfl
theorem rnext3 : runO Try.prog m0 50 11 [vR a n d] [] [(5, vF), (3, vF), (6, vT)] = some (.tup [vN 0, vF], [], [(vB (d ≥ n), vT), (vB (d < 0), vF), (vB (n < 1), vF)]) := by kernel_rfl
theorem rnext4 : runO Try.prog m0 50 11 [vR a n d] [] [(5, vF), (3, vF), (6, vF), (4, vT)] = some (.tup [vN 0, vF], [], [(vB (a < 0), vT), (vB (d ≥ n), vF), (vB (d < 0), vF), (vB (n < 1), vF)]) := by kernel_rfl
theorem rnext5 : runO Try.prog m0 50 11 [vR a n d] [] [(5, vF), (3, vF), (6, vF), (4, vF), (6, vT)] = some (.tup [vN 0, vF], [], [(vB (a ≥ n), vT), (vB (a < 0), vF), (vB (d ≥ n), vF), (vB (d < 0), vF), (vB (n < 1), vF)]) := by kernel_rfl
theorem rnext6 : runO Try.prog m0 50 11 [vR a n d] [] [(5, vF), (3, vF), (6, vF), (4, vF), (6, vF), (8, vT)] =
  some (.tup [vN (IntKind.wrap .i64 (d - (IntKind.wrap .i64 (n - a)))), vT], [], [(vB (d ≥ IntKind.wrap .i64 (n - a)), vT), (vB (a ≥ n), vF), (vB (a < 0), vF), (vB (d ≥ n), vF), (vB (d < 0), vF), (vB (n < 1), vF)]) := by kernel_rfl
theorem rnext7 : runO Try.prog m0 50 11 [vR a n d] [] [(5, vF), (3, vF), (6, vF), (4, vF), (6, vF), (8, vF)] =
  some (.tup [vN (IntKind.wrap .i64 (a + d)), vT], [], [(vB (d ≥ IntKind.wrap .i64 (n - a)), vF), (vB (a ≥ n), vF), (vB (a < 0), vF), (vB (d ≥ n), vF), (vB (d < 0), vF), (vB (n < 1), vF)]) := by kernel_rfl
end

theorem hold_nil : Hold [] := fun c h => by simp at h
theorem hold_T {p : Prop} [Decidable p] {cs : List (AV × AV)} (h : p) (k : Hold cs) : Hold ((vB p, vT) :: cs) := by
  intro c hc
  rcases List.mem_cons.1 hc with rfl | hc
  · simp [vB, vT, h]
  · exact k c hc
theorem hold_F {p : Prop} [Decidable p] {cs : List (AV × AV)} (h : ¬ p) (k : Hold cs) : Hold ((vB p, vF) :: cs) := by
  intro c hc
  rcases List.mem_cons.1 hc with rfl | hc
  · simp [vB, vF, h]
  · exact k c hc
theorem hold_b {b u : Bool} {cs : List (AV × AV)} (h : b = u) (k : Hold cs) : Hold ((.p (.bool b), .p (.bool u)) :: cs) := by
  intro c hc
  rcases List.mem_cons.1 hc with rfl | hc
  · simp [h]
  · exact k c hc

theorem next_run (a n d : Int) : runV Try.prog m0 50 10 [vR a n d] [] = some (.tup [vN (rTo a n d), .p (.bool (rOk a n d))], []) := by
  by_cases h1 : n < 1
  · have e : rOk a n d = false := by unfold rOk; simp; omega
    rw [runO_ok (next1 a n d) (hold_T h1 hold_nil)]; simp [rTo, e]
  by_cases h2 : d < 0
  · have e : rOk a n d = false := by unfold rOk; simp; omega
    rw [runO_ok (next2 a n d) (hold_T h2 (hold_F h1 hold_nil))]; simp [rTo, e]
  by_cases h3 : d ≥ n
  · have e : rOk a n d = false := by unfold rOk; simp; omega
    rw [runO_ok (next3 a n d) (hold_T h3 (hold_F h2 (hold_F h1 hold_nil)))]; simp [rTo, e]
  by_cases h4 : a < 0
  · have e : rOk a n d = false := by unfold rOk; simp; omega
    rw [runO_ok (next4 a n d) (hold_T h4 (hold_F h3 (hold_F h2 (hold_F h1 hold_nil))))]; simp [rTo, e]
  by_cases h5 : a ≥ n
  · have e : rOk a n d = false := by unfold rOk; simp; omega
    rw [runO_ok (next5 a n d) (hold_T h5 (hold_F h4 (hold_F h3 (hold_F h2 (hold_F h1 hold_nil)))))]; simp [rTo, e]
  have e : rOk a n d = true := by unfold rOk; simp; omega
  by_cases h6 : d ≥ IntKind.wrap .i64 (n - a)
  · rw [runO_ok (next6 a n d) (hold_T h6 (hold_F h5 (hold_F h4 (hold_F h3 (hold_F h2 (hold_F h1 hold_nil))))))]
    unfold rTo; rw [e, if_pos rfl, if_pos h6]
  · rw [runO_ok (next7 a n d) (hold_F h6 (hold_F h5 (hold_F h4 (hold_F h3 (hold_F h2 (hold_F h1 hold_nil))))))]
    unfold rTo; rw [e, if_pos rfl, if_neg h6]
theorem rnext_run (a n d : Int) : runV Try.prog m0 50 11 [vR a n d] [] = some (.tup [vN (rTo a n d), .p (.bool (rOk a n d))], []) := by
  by_cases h1 : n < 1
  · have e : rOk a n d = false := by unfold rOk; simp; omega
    rw [runO_ok (rnext1 a n d) (hold_T h1 hold_nil)]; simp [rTo, e]
  by_cases h2 : d < 0
  · have e : rOk a n d = false := by unfold rOk; simp; omega
    rw [runO_ok (rnext2 a n d) (hold_T h2 (hold_F h1 hold_nil))]; simp [rTo, e]
  by_cases h3 : d ≥ n
  · have e : rOk a n d = false := by unfold rOk; simp; omega
    rw [runO_ok (rnext3 a n d) (hold_T h3 (hold_F h2 (hold_F h1 hold_nil)))]; simp [rTo, e]
  by_cases h4 : a < 0
  · have e : rOk a n d = false := by unfold rOk; simp; omega
    rw [runO_ok (rnext4 a n d) (hold_T h4 (hold_F h3 (hold_F h2 (hold_F h1 hold_nil))))]; simp [rTo, e]
  by_cases h5 : a ≥ n
  · have e : rOk a n d = false := by unfold rOk; simp; omega
    rw [runO_ok (rnext5 a n d) (hold_T h5 (hold_F h4 (hold_F h3 (hold_F h2 (hold_F h1 hold_nil)))))]; simp [rTo, e]
  have e : rOk a n d = true := by unfold rOk; simp; omega
  by_cases h6 : d ≥ IntKind.wrap .i64 (n - a)
  · rw [runO_ok (rnext6 a n d) (hold_T h6 (hold_F h5 (hold_F h4 (hold_F h3 (hold_F h2 (hold_F h1 hold_nil))))))]
    unfold rTo; rw [e, if_pos rfl, if_pos h6]
  · rw [runO_ok (rnext7 a n d) (hold_F h6 (hold_F h5 (hold_F h4 (hold_F h3 (hold_F h2 (hold_F h1 hold_nil))))))]
    unfold rTo; rw [e, if_pos rfl, if_neg h6]

theorem ok0 {f : FuncId} {F : List AV → List Blk → Option (AV × List Blk)} (h : m0.ov f = some F) (args : List AV) (hp : List Blk) (r : AV) (hp' : List Blk) : F args hp = some (r, hp') → FnOk Try.prog f args hp r hp' := by cases h
theorem next_ok (a n d : Int) : FnOk Try.prog 10 [vR a n d] [] (.tup [vN (rTo a n d), .p (.bool (rOk a n d))]) [] := runV_ok (M := m0) (fun f F h => ok0 h) 50 _ _ _ _ _ (next_run a n d)
theorem rnext_ok (a n d : Int) : FnOk Try.prog 11 [vR a n d] [] (.tup [vN (rTo a n d), .p (.bool (rOk a n d))]) [] := runV_ok (M := m0) (fun f F h => ok0 h) 50 _ _ _ _ _ (rnext_run a n d)

def m1 : Vm.Mode := ⟨fun _ => false, fun f => cond (Nat.beq f 10) (some oNext) (cond (Nat.beq f 11) (some oNext) none)⟩
theorem of_next {f : FuncId} (hf : ∀ a n d, FnOk Try.prog f [vR a n d] [] (.tup [vN (rTo a n d), .p (.bool (rOk a n d))]) []) {args : List AV} {hp hp' : List Blk} {r : AV} (h : oNext args hp = some (r, hp')) : FnOk Try.prog f args hp r hp' := by
  unfold oNext at h
  split at h
  · cases h; exact hf _ _ _
  · cases h
theorem of_step {f : FuncId} (hf : ∀ a n d, FnOk Try.prog f [vR a n d] [] (vR a n (rUp a n d)) []) {args : List AV} {hp hp' : List Blk} {r : AV} (h : oStep args hp = some (r, hp')) : FnOk Try.prog f args hp r hp' := by
  unfold oStep at h
  split at h
  · cases h; exact hf _ _ _
  · cases h
theorem of_left {f : FuncId} (hf : ∀ a n d, FnOk Try.prog f [vR a n d] [] (vN (rIs a n d)) []) {args : List AV} {hp hp' : List Blk} {r : AV} (h : oLeft args hp = some (r, hp')) : FnOk Try.prog f args hp r hp' := by
  unfold oLeft at h
  split at h
  · cases h; exact hf _ _ _
  · cases h
theorem of_true {f : FuncId} (hf : FnOk Try.prog f [] [] vT []) {args : List AV} {hp hp' : List Blk} {r : AV} (h : oTrue args hp = some (r, hp')) : FnOk Try.prog f args hp r hp' := by
  unfold oTrue at h
  split at h
  · cases h; exact hf
  · cases h
theorem ov_cond {f k : FuncId} {F G : List AV → List Blk → Option (AV × List Blk)} {o : Option (List AV → List Blk → Option (AV × List Blk))} (h : cond (Nat.beq f k) (some F) o = some G) : (f = k ∧ F = G) ∨ o = some G := by
  cases hb : Nat.beq f k with
  | true => rw [hb] at h; cases h; exact .inl ⟨Nat.eq_of_beq_eq_true hb, rfl⟩
  | false => rw [hb] at h; exact .inr h
theorem ok1 (f : FuncId) (F : List AV → List Blk → Option (AV × List Blk)) (h : m1.ov f = some F) (args : List AV) (hp : List Blk) (r : AV) (hp' : List Blk) (k : F args hp = some (r, hp')) : FnOk Try.prog f args hp r hp' := by
  rcases ov_cond h with ⟨rfl, rfl⟩ | h
  · exact of_next next_ok k
  rcases ov_cond h with ⟨rfl, rfl⟩ | h
  · exact of_next rnext_ok k
  cases h
section
variable (a n d : Int)
theorem step1 : runO Try.prog m1 50 13 [vR a n d] [] [(6, vT)] = some (vR a n (IntKind.wrap .i64 (d + 1)), [], [(.p (.bool (rOk a n d)), vT)]) := by kernel_rfl
theorem step2 : runO Try.prog m1 50 13 [vR a n d] [] [(6, vF)] = some (vR a n d, [], [(.p (.bool (rOk a n d)), vF)]) := by kernel_rfl
theorem rstep1 : runO Try.prog m1 50 14 [vR a n d] [] [(6, vT)] = some (vR a n (IntKind.wrap .i64 (d + 1)), [], [(.p (.bool (rOk a n d)), vT)]) := by kernel_rfl
theorem rstep2 : runO Try.prog m1 50 14 [vR a n d] [] [(6, vF)] = some (vR a n d, [], [(.p (.bool (rOk a n d)), vF)]) := by kernel_rfl
theorem left1 : runO Try.prog m1 50 15 [vR a n d] [] [(6, vT)] = some (vN (IntKind.wrap .i64 (n - d)), [], [(.p (.bool (rOk a n d)), vT)]) := by kernel_rfl
theorem left2 : runO Try.prog m1 50 15 [vR a n d] [] [(6, vF)] = some (vN 0, [], [(.p (.bool (rOk a n d)), vF)]) := by kernel_rfl
theorem rleft1 : runO Try.prog m1 50 16 [vR a n d] [] [(6, vT)] = some (vN (IntKind.wrap .i64 (n - d)), [], [(.p (.bool (rOk a n d)), vT)]) := by kernel_rfl
theorem rleft2 : runO Try.prog m1 50 16 [vR a n d] [] [(6, vF)] = some (vN 0, [], [(.p (.bool (rOk a n d)), vF)]) := by kernel_rfl
end
theorem step_ok (a n d : Int) : FnOk Try.prog 13 [vR a n d] [] (vR a n (rUp a n d)) [] := by
  refine runV_ok (M := m1) ok1 50 _ _ _ _ _ ?_
  cases e : rOk a n d with
  | true => rw [runO_ok (step1 a n d) (hold_b e hold_nil)]; simp [rUp, e]
  | false => rw [runO_ok (step2 a n d) (hold_b e hold_nil)]; simp [rUp, e]
theorem rstep_ok (a n d : Int) : FnOk Try.prog 14 [vR a n d] [] (vR a n (rUp a n d)) [] := by
  refine runV_ok (M := m1) ok1 50 _ _ _ _ _ ?_
  cases e : rOk a n d with
  | true => rw [runO_ok (rstep1 a n d) (hold_b e hold_nil)]; simp [rUp, e]
  | false => rw [runO_ok (rstep2 a n d) (hold_b e hold_nil)]; simp [rUp, e]
theorem left_ok (a n d : Int) : FnOk Try.prog 15 [vR a n d] [] (vN (rIs a n d)) [] := by
  refine runV_ok (M := m1) ok1 50 _ _ _ _ _ ?_
  cases e : rOk a n d with
  | true => rw [runO_ok (left1 a n d) (hold_b e hold_nil)]; simp [rIs, e]
  | false => rw [runO_ok (left2 a n d) (hold_b e hold_nil)]; simp [rIs, e]
theorem rleft_ok (a n d : Int) : FnOk Try.prog 16 [vR a n d] [] (vN (rIs a n d)) [] := by
  refine runV_ok (M := m1) ok1 50 _ _ _ _ _ ?_
  cases e : rOk a n d with
  | true => rw [runO_ok (rleft1 a n d) (hold_b e hold_nil)]; simp [rIs, e]
  | false => rw [runO_ok (rleft2 a n d) (hold_b e hold_nil)]; simp [rIs, e]
theorem known_ok : FnOk Try.prog 9 [] [] vT [] := runV_ok (M := m0) (fun f F h => ok0 h) 100 _ _ _ _ _ (by kernel_rfl)

def m2 : Vm.Mode := ⟨fun _ => false, fun f => cond (Nat.beq f 10) (some oNext) (cond (Nat.beq f 11) (some oNext) (cond (Nat.beq f 13) (some oStep) (cond (Nat.beq f 14) (some oStep) (cond (Nat.beq f 15) (some oLeft) (cond (Nat.beq f 16) (some oLeft) (cond (Nat.beq f 9) (some oTrue) none))))))⟩
theorem ok2 (f : FuncId) (F : List AV → List Blk → Option (AV × List Blk)) (h : m2.ov f = some F) (args : List AV) (hp : List Blk) (r : AV) (hp' : List Blk) (k : F args hp = some (r, hp')) : FnOk Try.prog f args hp r hp' := by
  rcases ov_cond h with ⟨rfl, rfl⟩ | h
  · exact of_next next_ok k
  rcases ov_cond h with ⟨rfl, rfl⟩ | h
  · exact of_next rnext_ok k
  rcases ov_cond h with ⟨rfl, rfl⟩ | h
  · exact of_step step_ok k
  rcases ov_cond h with ⟨rfl, rfl⟩ | h
  · exact of_step rstep_ok k
  rcases ov_cond h with ⟨rfl, rfl⟩ | h
  · exact of_left left_ok k
  rcases ov_cond h with ⟨rfl, rfl⟩ | h
  · exact of_left rleft_ok k
  rcases ov_cond h with ⟨rfl, rfl⟩ | h
  · exact of_true known_ok k
  cases h
end Go.Proofs.Ytnbnheifgoipnaa

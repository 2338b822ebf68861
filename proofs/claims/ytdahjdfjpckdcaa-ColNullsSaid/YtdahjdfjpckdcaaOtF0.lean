/- The law ColNulls: names. -/
import Derived.Test.YtdahjdfjpckdcaaOtE0
namespace Go.Proofs.Ytdahjdfjpckdcaa
open Go Go.Vm
set_option maxRecDepth 100000
theorem best_ok (n : Nat) (h0 : 1 ≤ n) (h64 : n ≤ 64) (K : Int) (h1 : 1 ≤ K) (h3 : K ≤ 3) : FnOk Try.prog 33 [.lst n (NX n), wN K] [] (.tup [.lst (2 + (n + 7) / 8) ([vB8 1, vB8 (Int.ofNat n)] ++ zE ((n + 7) / 8)), wN 1, wN 0]) [] := by
  have ck := checkN_ok n K h1 h3
  rw [if_pos h64] at ck
  have yes : ∀ H, (K, H) ∈ mayL → FnOk Try.prog 73 [.lst n (NX n), wN K, wN H] [] (.tup [.lst (2 + (n + 7) / 8 + (eH H).length) (putL n H), wN 0]) [] := fun H h => put_ok n h0 h64 (K, H) h
  have no : ∀ H, (K, H) ∈ noL → FnOk Try.prog 73 [.lst n (NX n), wN K, wN H] [] (.tup [nilS, wN 1]) [] := fun H h => putN_ok n h64 (K, H) h
  have e1 : ([vB8 1, vB8 (Int.ofNat n)] ++ zE ((n + 7) / 8)) = putL n 1 := by rw [putL, eH1, List.append_nil]
  have e2 : 2 + (n + 7) / 8 = 2 + (n + 7) / 8 + (eH 1).length := by rw [eH1]; rfl
  have ge : ∀ H, ¬ (Int.ofNat (2 + (n + 7) / 8 + (eH H).length) < Int.ofNat (2 + (n + 7) / 8 + (eH 1).length)) := fun H => by
    rw [← e2]; simp only [Int.ofNat_eq_natCast]; omega
  rw [e1, e2]
  have hK : K = 1 ∨ K = 2 ∨ K = 3 := by omega
  rcases hK with rfl | rfl | rfl
  · have hT : ∀ q ∈ [([AV.lst n (NX n), wN 1, wN 1], AV.tup [.lst (2 + (n + 7) / 8 + (eH 1).length) (putL n 1), wN 0]), ([AV.lst n (NX n), wN 1, wN 2], .tup [.lst (2 + (n + 7) / 8 + (eH 2).length) (putL n 2), wN 0]), ([AV.lst n (NX n), wN 1, wN 3], .tup [.lst (2 + (n + 7) / 8 + (eH 3).length) (putL n 3), wN 0]), ([AV.lst n (NX n), wN 1, wN 4], .tup [nilS, wN 1])], FnOk Try.prog 73 q.1 [] q.2 [] := by
      intro q hq
      simp only [List.mem_cons, List.not_mem_nil, or_false] at hq
      rcases hq with rfl | rfl | rfl | rfl
      · exact yes 1 (by decide)
      · exact yes 2 (by decide)
      · exact yes 3 (by decide)
      · exact no 4 (by decide)
    refine runV_ok (M := mBe (oneD [.lst n (NX n), wN 1] (wN 0)) (tblD _)) (okBe (fun _ _ _ _ k => of_oneD ck k) (fun _ _ _ _ k => of_tblD hT k)) 60 _ _ _ _ _ (runS_run (best1 _ _ (NX n) (putL n 1) (putL n 2) (putL n 3) n (2 + (n + 7) / 8 + (eH 1).length) (2 + (n + 7) / 8 + (eH 2).length) (2 + (n + 7) / 8 + (eH 3).length)) ?_)
    refine hold_eq ?_ (hold_F (ge 3) (hold_eq ?_ (hold_F (ge 2) (hold_eq ?_ (hold_eq ?_ (hold_eq (oneD_eq _ _) hold_nil))))))
    · rw [tblD_miss _ _ (by simp), tblD_miss _ _ (by simp), tblD_miss _ _ (by simp)]; exact tblD_hit _ _ _
    · rw [tblD_miss _ _ (by simp), tblD_miss _ _ (by simp)]; exact tblD_hit _ _ _
    · rw [tblD_miss _ _ (by simp)]; exact tblD_hit _ _ _
    · exact tblD_hit _ _ _
  · have hT : ∀ q ∈ [([AV.lst n (NX n), wN 2, wN 1], AV.tup [.lst (2 + (n + 7) / 8 + (eH 1).length) (putL n 1), wN 0]), ([AV.lst n (NX n), wN 2, wN 2], .tup [nilS, wN 1]), ([AV.lst n (NX n), wN 2, wN 3], .tup [nilS, wN 1]), ([AV.lst n (NX n), wN 2, wN 4], .tup [.lst (2 + (n + 7) / 8 + (eH 4).length) (putL n 4), wN 0])], FnOk Try.prog 73 q.1 [] q.2 [] := by
      intro q hq
      simp only [List.mem_cons, List.not_mem_nil, or_false] at hq
      rcases hq with rfl | rfl | rfl | rfl
      · exact yes 1 (by decide)
      · exact no 2 (by decide)
      · exact no 3 (by decide)
      · exact yes 4 (by decide)
    refine runV_ok (M := mBe (oneD [.lst n (NX n), wN 2] (wN 0)) (tblD _)) (okBe (fun _ _ _ _ k => of_oneD ck k) (fun _ _ _ _ k => of_tblD hT k)) 60 _ _ _ _ _ (runS_run (best2 _ _ (NX n) (putL n 1) (putL n 4) n (2 + (n + 7) / 8 + (eH 1).length) (2 + (n + 7) / 8 + (eH 4).length)) ?_)
    refine hold_F (ge 4) (hold_eq ?_ (hold_eq ?_ (hold_eq ?_ (hold_eq ?_ (hold_eq (oneD_eq _ _) hold_nil)))))
    · rw [tblD_miss _ _ (by simp), tblD_miss _ _ (by simp), tblD_miss _ _ (by simp)]; exact tblD_hit _ _ _
    · rw [tblD_miss _ _ (by simp), tblD_miss _ _ (by simp)]; exact tblD_hit _ _ _
    · rw [tblD_miss _ _ (by simp)]; exact tblD_hit _ _ _
    · exact tblD_hit _ _ _
  · have hT : ∀ q ∈ [([AV.lst n (NX n), wN 3, wN 1], AV.tup [.lst (2 + (n + 7) / 8 + (eH 1).length) (putL n 1), wN 0]), ([AV.lst n (NX n), wN 3, wN 2], .tup [nilS, wN 1]), ([AV.lst n (NX n), wN 3, wN 3], .tup [nilS, wN 1]), ([AV.lst n (NX n), wN 3, wN 4], .tup [nilS, wN 1])], FnOk Try.prog 73 q.1 [] q.2 [] := by
      intro q hq
      simp only [List.mem_cons, List.not_mem_nil, or_false] at hq
      rcases hq with rfl | rfl | rfl | rfl
      · exact yes 1 (by decide)
      · exact no 2 (by decide)
      · exact no 3 (by decide)
      · exact no 4 (by decide)
    refine runV_ok (M := mBe (oneD [.lst n (NX n), wN 3] (wN 0)) (tblD _)) (okBe (fun _ _ _ _ k => of_oneD ck k) (fun _ _ _ _ k => of_tblD hT k)) 60 _ _ _ _ _ (runS_run (best3 _ _ (NX n) (putL n 1) n (2 + (n + 7) / 8 + (eH 1).length)) ?_)
    refine hold_eq ?_ (hold_eq ?_ (hold_eq ?_ (hold_eq ?_ (hold_eq (oneD_eq _ _) hold_nil))))
    · rw [tblD_miss _ _ (by simp), tblD_miss _ _ (by simp), tblD_miss _ _ (by simp)]; exact tblD_hit _ _ _
    · rw [tblD_miss _ _ (by simp), tblD_miss _ _ (by simp)]; exact tblD_hit _ _ _
    · rw [tblD_miss _ _ (by simp)]; exact tblD_hit _ _ _
    · exact tblD_hit _ _ _
theorem bestL_ok (n : Nat) (h64 : 64 < n) (K : Int) (h1 : 1 ≤ K) (h3 : K ≤ 3) : FnOk Try.prog 33 [.lst n (NX n), wN K] [] (.tup [nilS, wN 0, wN 4]) [] := by
  have ck := checkN_ok n K h1 h3
  rw [if_neg (by omega)] at ck
  exact runV_ok (M := mBe (oneD [.lst n (NX n), wN K] (wN 4)) (fun _ _ => none)) (okBe (fun _ _ _ _ k => of_oneD ck k) (fun _ _ _ _ k => by cases k)) 60 _ _ _ _ _ (runS_run (bestL _ _ (NX n) n K) (hold_eq (oneD_eq _ _) hold_nil))
/-! the law -/
def oYes : OvD := fun args hp => match args, hp with | [], [] => some (wB true, []) | _, _ => none
theorem of_yes {f : FuncId} (hf : FnOk Try.prog f [] [] (wB true) []) {args : List AV} {hp hp' : List Blk} {r : AV} (h : oYes args hp = some (r, hp')) : FnOk Try.prog f args hp r hp' := by
  unfold oYes at h
  split at h
  · cases h; exact hf
  · cases h
def mCo (G : OvD) : Vm.Mode := ⟨fun f => Nat.beq f 68, fun f => cond (Nat.beq f 32) (some oYes) (cond (Nat.beq f 33) (some G) none)⟩
def oTold : OvD := fun args hp => match args, hp with
  | [.p (.slice none 0 0), .p (.int .i64 1)], [] => some (nilS, [])
  | [.p (.slice none 0 0), .p (.int .i64 2)], [] => some (nilS, [])
  | [.p (.slice none 0 0), .p (.int .i64 3)], [] => some (.lit 1 [vB8 0], [])
  | [.p (.slice none 0 0), .p (.int .i64 4)], [] => some (.lst 2 [vB8 0, vB8 0], [])
  | _, _ => none
theorem of_told {args : List AV} {hp hp' : List Blk} {r : AV} (h : oTold args hp = some (r, hp')) : FnOk Try.prog 121 args hp r hp' := by
  unfold oTold at h
  split at h
  · cases h; exact told1
  · cases h; exact told2
  · cases h; exact told3
  · cases h; exact told4
  · cases h
def mCz : Vm.Mode := ⟨fun f => Nat.beq f 68, fun f => cond (Nat.beq f 32) (some oYes) (cond (Nat.beq f 121) (some oTold) none)⟩
abbrev rvB (xs : List AV) (g : Nat) (ro : Bool) : Blk := { cells := xs, esz := 4, gen := g, row := true, ro := ro }
noncomputable def co : Code := bodyOf Try.f10
theorem co_eq : co = seqs (first 4 co) (cN 4 co) := by kernel_rfl
end Go.Proofs.Ytdahjdfjpckdcaa

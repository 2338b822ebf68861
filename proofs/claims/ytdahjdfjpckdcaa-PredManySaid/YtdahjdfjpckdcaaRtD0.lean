/- PredMany: the rounds. -/
import Derived.Test.YtdahjdfjpckdcaaRtC
namespace Go.Proofs.Ytdahjdfjpckdcaa
open Go Go.Vm
set_option maxRecDepth 100000
theorem elem44 : elemT Try.prog 44 = some 46 := by kernel_rfl
theorem bytes46 : bytesT Try.prog 46 = some 120 := by kernel_rfl
theorem zero46 : zeroT Try.prog 46 = some (.agg #[.int .i64 0, .int .i64 0, .int .i64 0, .int .i64 0, .string { data := { toList := [] } }, .complex .f64 0 0, .complex .f64 0 0, .complex .f64 0 0, .slice none 0 0]) := by kernel_rfl
abbrev zP : Value := .agg #[.int .i64 0, .int .i64 0, .int .i64 0, .int .i64 0, .string { data := { toList := [] } }, .complex .f64 0 0, .complex .f64 0 0, .complex .f64 0 0, .slice none 0 0]
theorem src44 (q : Nat) (h : q ∈ q3) : (srcT Try.prog 44 9 (.lit 1 (kidC q)) && Nat.ble 1 9 && Nat.ble 1 120 && Nat.beq (cellsA (abs1 zP)).length 9 && Nat.beq (kidC q).length (1 * 9) && (kidC q).all imm0 && (kidC q).all one) = true := by
  simp only [q3, List.mem_cons, List.not_mem_nil, or_false] at h
  rcases h with rfl | rfl | rfl
  · kernel_rfl
  · kernel_rfl
  · kernel_rfl
theorem imm_kidC (q : Nat) : (kidC q).all imm0 = true := by unfold kidC; split <;> rfl
theorem one_kidC (q : Nat) : (kidC q).all one = true := by unfold kidC; split <;> rfl
theorem imm_kids (ds : List Nat) : (kidsC ds).all imm0 = true := by
  unfold kidsC
  rw [List.all_flatMap]
  exact List.all_eq_true.2 (fun d _ => imm_kidC d)
theorem one_kids (ds : List Nat) : (kidsC ds).all one = true := by
  unfold kidsC
  rw [List.all_flatMap]
  exact List.all_eq_true.2 (fun d _ => one_kidC d)
theorem app44 {hp : List Blk} {i g n : Nat} {Y : List AV} {q : Nat} (hq : q ∈ q3) (hb : hp[i]? = some (kB Y g)) (hn : Y.length = n * 9) (hlt : n < 1000) :
    appendV Try.prog hp 44 44 (.ref i g 0 n) (.lit 1 (kidC q)) = some (.val (.ref i (g + 1) 0 (n + 1)) (hp.set i (kB (Y ++ kidC q) (g + 1)))) :=
  append_ref (P := Try.prog) (hp := hp) (st := 44) (xt := 44) (i := i) (g := g) (n := n) (m := 1) (x := .lit 1 (kidC q)) (new := kidC q) elem44 sz46 bytes46 zero46 rfl (src44 q hq) hb rfl rfl rfl rfl (by omega) hn
theorem src44x (x : AV) (h : (∃ m c, x = .lit m c) ∨ (∃ i g m, x = .ref i g 0 m)) : srcT Try.prog 44 9 x = true := by
  rcases h with ⟨m, c, rfl⟩ | ⟨i, g, m, rfl⟩
  · exact (by kernel_rfl : srcT Try.prog 44 9 (.lit m c) = true)
  · exact (by kernel_rfl : srcT Try.prog 44 9 (.ref i g 0 m) = true)
theorem app44l {hp : List Blk} {q m : Nat} {ds : List Nat} {x : AV} (hx : elemsOf hp x = some (m, kidsC ds)) (hs : srcT Try.prog 44 9 x = true) (hm : ds.length = m) (h1 : 1 ≤ m) (hlt : m < 1000) :
    appendV Try.prog hp 44 44 (.lit 1 (kidC q)) x = some (.val (.ref hp.length 0 0 (1 + m)) (hp ++ [kB (kidC q ++ kidsC ds) 0])) := by
  have e1 : Nat.beq (kidsC ds).length (m * 9) = true := by rw [kidsC_len, hm]; exact Nat.beq_refl _
  have e2 : Nat.beq (kidC q).length (1 * 9) = true := by rw [kidC_len]; rfl
  have e3 : Nat.beq m 0 = false := by cases m with | zero => omega | succ m => rfl
  have e4 : (cellsA (abs1 zP)).length = 9 := rfl
  unfold appendV
  simp only [elem44, sz46, bytes46, zero46, hx, hs, e1, e2, e3, e4, imm_kids, one_kids, imm_kidC, ble_of (show (1 + m) * 120 ≤ 70368744177664 by omega)]
  rfl
theorem agg5R : isAggT Try.prog 5 = some false := by kernel_rfl
/-- of what went ahead -/
abbrev fB (ds : List Nat) (i x : Nat) : AV := wB (decide (x ∈ ds.take i))
theorem fB_up {ds : List Nat} {i x : Nat} (h : i < ds.length) : wB (decide (x ∈ ds.take i) || decide (ds[i] = x)) = fB ds (i + 1) x := by
  have : decide (x ∈ ds.take (i + 1)) = (decide (x ∈ ds.take i) || decide (ds[i] = x)) := by
    rw [List.take_succ_eq_append_getElem h, ← Bool.decide_or, decide_eq_decide, List.mem_append, List.mem_singleton, eq_comm (a := x)]
  rw [fB, this]
abbrev pS (X : List AV) (a : Nat) (s4 s5 f6 f7 f8 : AV) (i : Nat) : List AV := [.lst a X, rowL, s4, s5, f6, f7, f8, wN (Int.ofNat i)]
abbrev pK : List Nat := [0, 3, 4, 5, 6, 7, 8, 9]
abbrev pK' : List Nat := [0, 3, 4, 5, 6, 7, 8, 9, 10]
theorem pm_k0 (E : OvR) {X : List AV} {a i q : Nat} {z : Int}  (hq : q ∈ q3) (hi : i < a) (hz : X[i * 1]? = some (vR8 z)) (hr : vR8 (z.tmod 3) = vR8 (Int.ofNat q)) (no ye un : Bool) :
    ∃ orc st, (exS Try.prog (pmS E) (mPm E) 111 60 (cR pmK) (mk ([0, 3, 4, 5, 6, 7, 8, 9, 10].zip [.lst a X, rowL, nilS, nilS, wB no, wB ye, wB un, wN (Int.ofNat i), .ptr 0 0 0])) [bC' (kidC q)] (orc, [])).map (Vm.seen pK) =
      some (.nrm, pS X a (.ref 1 0 0 1) (.lit 1 (kidC q)) (wB (no || decide (q = 0))) (wB (ye || decide (q = 1))) (wB (un || decide (q = 2))) i, [bC' (kidC q), kB (kidC q) 0], st) ∧ Hold st.2 := by
  have hx : ∀ h, ixO i a X (i * 1) h = .ip X (i * 1) := fun h => ixO_eq hi
  have hl : ∀ h, ldO Try.prog 5 X (i * 1) h = vR8 z := fun h => ldO_eq agg5R hz
  cases no <;> cases ye <;> cases un
  · exact ⟨_, _, List.map_inj_left.1 (pm_k0_0 E X a i  z) q hq, hold_eq hr (hold_eq (hl _) (hold_eq (hx _) (hold_eq hr (hold_eq (hl _) (hold_eq (hx _) (hold_eq hr (hold_eq (hl _) (hold_eq (hx _) (hold_nil)))))))))⟩
  · exact ⟨_, _, List.map_inj_left.1 (pm_k0_1 E X a i  z) q hq, hold_eq hr (hold_eq (hl _) (hold_eq (hx _) (hold_eq hr (hold_eq (hl _) (hold_eq (hx _) (hold_nil))))))⟩
  · exact ⟨_, _, List.map_inj_left.1 (pm_k0_2 E X a i  z) q hq, hold_eq hr (hold_eq (hl _) (hold_eq (hx _) (hold_eq hr (hold_eq (hl _) (hold_eq (hx _) (hold_nil))))))⟩
  · exact ⟨_, _, List.map_inj_left.1 (pm_k0_3 E X a i  z) q hq, hold_eq hr (hold_eq (hl _) (hold_eq (hx _) (hold_nil)))⟩
  · exact ⟨_, _, List.map_inj_left.1 (pm_k0_4 E X a i  z) q hq, hold_eq hr (hold_eq (hl _) (hold_eq (hx _) (hold_eq hr (hold_eq (hl _) (hold_eq (hx _) (hold_nil))))))⟩
  · exact ⟨_, _, List.map_inj_left.1 (pm_k0_5 E X a i  z) q hq, hold_eq hr (hold_eq (hl _) (hold_eq (hx _) (hold_nil)))⟩
  · exact ⟨_, _, List.map_inj_left.1 (pm_k0_6 E X a i  z) q hq, hold_eq hr (hold_eq (hl _) (hold_eq (hx _) (hold_nil)))⟩
  · exact ⟨_, _, List.map_inj_left.1 (pm_k0_7 E X a i ) q hq, hold_nil⟩
theorem pm_k1 (E : OvR) {X : List AV} {a i q : Nat} {z : Int} (Y Z : List AV) (g l : Nat) (hq : q ∈ q3) (hi : i < a) (hz : X[i * 1]? = some (vR8 z)) (hr : vR8 (z.tmod 3) = vR8 (Int.ofNat q)) (no ye un : Bool)
    (w3 : outAll (appendV Try.prog [kB Y g, bC' (kidC q)] 44 44 (.ref 0 g 0 l) (.lit 1 (kidC q))) = .tup [.ref 0 (g + 1) 0 (l + 1), .agg (([kB (Y ++ kidC q) (g + 1), bC' (kidC q)] : List Blk).map encB)])
    (w7 : outAll (appendV Try.prog [kB (Y ++ kidC q) (g + 1), bC' (kidC q)] 44 44 (.lit 1 (kidC q)) (.lit 1 Z)) = .tup [.ref 2 0 0 (1 + 1), .agg (([kB (Y ++ kidC q) (g + 1), bC' (kidC q), kB (kidC q ++ Z) 0] : List Blk).map encB)]) :
    ∃ orc st, (exS Try.prog (pmS E) (mPm E) 111 60 (cR pmK) (mk ([0, 3, 4, 5, 6, 7, 8, 9, 10].zip [.lst a X, rowL, .ref 0 g 0 l, .lit 1 Z, wB no, wB ye, wB un, wN (Int.ofNat i), .ptr 1 0 0])) [kB Y g, bC' (kidC q)] (orc, [])).map (Vm.seen pK) =
      some (.nrm, pS X a (.ref 0 (g + 1) 0 (l + 1)) (.ref 2 0 0 (1 + 1)) (wB (no || decide (q = 0))) (wB (ye || decide (q = 1))) (wB (un || decide (q = 2))) i, [kB (Y ++ kidC q) (g + 1), bC' (kidC q), kB (kidC q ++ Z) 0], st) ∧ Hold st.2 := by
  have hx : ∀ h, ixO i a X (i * 1) h = .ip X (i * 1) := fun h => ixO_eq hi
  have hl : ∀ h, ldO Try.prog 5 X (i * 1) h = vR8 z := fun h => ldO_eq agg5R hz
  cases no <;> cases ye <;> cases un
  · exact ⟨_, _, List.map_inj_left.1 (pm_k1_0 E X a i Y Z g l z) q hq, hold_eq w7 (hold_eq w3 (hold_eq hr (hold_eq (hl _) (hold_eq (hx _) (hold_eq hr (hold_eq (hl _) (hold_eq (hx _) (hold_eq hr (hold_eq (hl _) (hold_eq (hx _) (hold_nil)))))))))))⟩
  · exact ⟨_, _, List.map_inj_left.1 (pm_k1_1 E X a i Y Z g l z) q hq, hold_eq w7 (hold_eq w3 (hold_eq hr (hold_eq (hl _) (hold_eq (hx _) (hold_eq hr (hold_eq (hl _) (hold_eq (hx _) (hold_nil))))))))⟩
  · exact ⟨_, _, List.map_inj_left.1 (pm_k1_2 E X a i Y Z g l z) q hq, hold_eq w7 (hold_eq w3 (hold_eq hr (hold_eq (hl _) (hold_eq (hx _) (hold_eq hr (hold_eq (hl _) (hold_eq (hx _) (hold_nil))))))))⟩
  · exact ⟨_, _, List.map_inj_left.1 (pm_k1_3 E X a i Y Z g l z) q hq, hold_eq w7 (hold_eq w3 (hold_eq hr (hold_eq (hl _) (hold_eq (hx _) (hold_nil)))))⟩
  · exact ⟨_, _, List.map_inj_left.1 (pm_k1_4 E X a i Y Z g l z) q hq, hold_eq w7 (hold_eq w3 (hold_eq hr (hold_eq (hl _) (hold_eq (hx _) (hold_eq hr (hold_eq (hl _) (hold_eq (hx _) (hold_nil))))))))⟩
  · exact ⟨_, _, List.map_inj_left.1 (pm_k1_5 E X a i Y Z g l z) q hq, hold_eq w7 (hold_eq w3 (hold_eq hr (hold_eq (hl _) (hold_eq (hx _) (hold_nil)))))⟩
  · exact ⟨_, _, List.map_inj_left.1 (pm_k1_6 E X a i Y Z g l z) q hq, hold_eq w7 (hold_eq w3 (hold_eq hr (hold_eq (hl _) (hold_eq (hx _) (hold_nil)))))⟩
  · exact ⟨_, _, List.map_inj_left.1 (pm_k1_7 E X a i Y Z g l) q hq, hold_eq w7 (hold_eq w3 (hold_nil))⟩
theorem pm_k2 (E : OvR) {X : List AV} {a i q : Nat} {z : Int} (Y Z : List AV) (g e l m : Nat) (hq : q ∈ q3) (hi : i < a) (hz : X[i * 1]? = some (vR8 z)) (hr : vR8 (z.tmod 3) = vR8 (Int.ofNat q)) (no ye un : Bool)
    (w3 : outAll (appendV Try.prog [kB Y g, kB Z e, bC' (kidC q)] 44 44 (.ref 0 g 0 l) (.lit 1 (kidC q))) = .tup [.ref 0 (g + 1) 0 (l + 1), .agg (([kB (Y ++ kidC q) (g + 1), kB Z e, bC' (kidC q)] : List Blk).map encB)])
    (w7 : outAll (appendV Try.prog [kB (Y ++ kidC q) (g + 1), kB Z e, bC' (kidC q)] 44 44 (.lit 1 (kidC q)) (.ref 1 e 0 m)) = .tup [.ref 3 0 0 (1 + m), .agg (([kB (Y ++ kidC q) (g + 1), kB Z e, bC' (kidC q), kB (kidC q ++ Z) 0] : List Blk).map encB)]) :
    ∃ orc st, (exS Try.prog (pmS E) (mPm E) 111 60 (cR pmK) (mk ([0, 3, 4, 5, 6, 7, 8, 9, 10].zip [.lst a X, rowL, .ref 0 g 0 l, .ref 1 e 0 m, wB no, wB ye, wB un, wN (Int.ofNat i), .ptr 2 0 0])) [kB Y g, kB Z e, bC' (kidC q)] (orc, [])).map (Vm.seen pK) =
      some (.nrm, pS X a (.ref 0 (g + 1) 0 (l + 1)) (.ref 3 0 0 (1 + m)) (wB (no || decide (q = 0))) (wB (ye || decide (q = 1))) (wB (un || decide (q = 2))) i, [kB (Y ++ kidC q) (g + 1), kB Z e, bC' (kidC q), kB (kidC q ++ Z) 0], st) ∧ Hold st.2 := by
  have hx : ∀ h, ixO i a X (i * 1) h = .ip X (i * 1) := fun h => ixO_eq hi
  have hl : ∀ h, ldO Try.prog 5 X (i * 1) h = vR8 z := fun h => ldO_eq agg5R hz
  cases no <;> cases ye <;> cases un
  · exact ⟨_, _, List.map_inj_left.1 (pm_k2_0 E X a i Y Z g e l m z) q hq, hold_eq w7 (hold_eq w3 (hold_eq hr (hold_eq (hl _) (hold_eq (hx _) (hold_eq hr (hold_eq (hl _) (hold_eq (hx _) (hold_eq hr (hold_eq (hl _) (hold_eq (hx _) (hold_nil)))))))))))⟩
  · exact ⟨_, _, List.map_inj_left.1 (pm_k2_1 E X a i Y Z g e l m z) q hq, hold_eq w7 (hold_eq w3 (hold_eq hr (hold_eq (hl _) (hold_eq (hx _) (hold_eq hr (hold_eq (hl _) (hold_eq (hx _) (hold_nil))))))))⟩
  · exact ⟨_, _, List.map_inj_left.1 (pm_k2_2 E X a i Y Z g e l m z) q hq, hold_eq w7 (hold_eq w3 (hold_eq hr (hold_eq (hl _) (hold_eq (hx _) (hold_eq hr (hold_eq (hl _) (hold_eq (hx _) (hold_nil))))))))⟩
  · exact ⟨_, _, List.map_inj_left.1 (pm_k2_3 E X a i Y Z g e l m z) q hq, hold_eq w7 (hold_eq w3 (hold_eq hr (hold_eq (hl _) (hold_eq (hx _) (hold_nil)))))⟩
  · exact ⟨_, _, List.map_inj_left.1 (pm_k2_4 E X a i Y Z g e l m z) q hq, hold_eq w7 (hold_eq w3 (hold_eq hr (hold_eq (hl _) (hold_eq (hx _) (hold_eq hr (hold_eq (hl _) (hold_eq (hx _) (hold_nil))))))))⟩
  · exact ⟨_, _, List.map_inj_left.1 (pm_k2_5 E X a i Y Z g e l m z) q hq, hold_eq w7 (hold_eq w3 (hold_eq hr (hold_eq (hl _) (hold_eq (hx _) (hold_nil)))))⟩
  · exact ⟨_, _, List.map_inj_left.1 (pm_k2_6 E X a i Y Z g e l m z) q hq, hold_eq w7 (hold_eq w3 (hold_eq hr (hold_eq (hl _) (hold_eq (hx _) (hold_nil)))))⟩
  · exact ⟨_, _, List.map_inj_left.1 (pm_k2_7 E X a i Y Z g e l m) q hq, hold_eq w7 (hold_eq w3 (hold_nil))⟩
/-- of a law's flags, what And and Or of all tell -/
def anN (no un : Bool) : Nat := cond no 0 (cond un 2 1)
def orN (ye un : Bool) : Nat := cond ye 1 (cond un 2 0)
theorem pm_endX (E : OvR) (A B : List AV) (n : Nat) (no ye un : Bool)
    (e1 : outF (E [.agg (nodeC 9 (.lst n A)), rowR] []) = wN (Int.ofNat (anN no un))) (e2 : outF (E [.agg (nodeC 10 (.lst n A)), rowR] []) = wN (Int.ofNat (orN ye un)))
    (e3 : outF (E [.agg (nodeC 9 (.lst n B)), rowR] []) = wN (Int.ofNat (anN no un))) (e4 : outF (E [.agg (nodeC 10 (.lst n B)), rowR] []) = wN (Int.ofNat (orN ye un))) :
    ∃ orc st, (exS Try.prog (pmS E) (mPm E) 111 60 (cN 7 pm) (mk ([3, 4, 5, 6, 7, 8].zip [rowL, .lst n A, .lst n B, wB no, wB ye, wB un])) [] (orc, [])).map (Vm.seen [2]) =
      some (.ret, [wB true], [], st) ∧ Hold st.2 := by
  cases no <;> cases ye <;> cases un
  · exact ⟨_, _, pm_end0 E A B n, hold_eq e4 (hold_eq e3 (hold_eq e2 (hold_eq e1 hold_nil)))⟩
  · exact ⟨_, _, pm_end1 E A B n, hold_eq e4 (hold_eq e3 (hold_eq e2 (hold_eq e1 hold_nil)))⟩
  · exact ⟨_, _, pm_end2 E A B n, hold_eq e4 (hold_eq e3 (hold_eq e2 (hold_eq e1 hold_nil)))⟩
  · exact ⟨_, _, pm_end3 E A B n, hold_eq e4 (hold_eq e3 (hold_eq e2 (hold_eq e1 hold_nil)))⟩
  · exact ⟨_, _, pm_end4 E A B n, hold_eq e4 (hold_eq e3 (hold_eq e2 (hold_eq e1 hold_nil)))⟩
  · exact ⟨_, _, pm_end5 E A B n, hold_eq e4 (hold_eq e3 (hold_eq e2 (hold_eq e1 hold_nil)))⟩
  · exact ⟨_, _, pm_end6 E A B n, hold_eq e4 (hold_eq e3 (hold_eq e2 (hold_eq e1 hold_nil)))⟩
  · exact ⟨_, _, pm_end7 E A B n, hold_eq e4 (hold_eq e3 (hold_eq e2 (hold_eq e1 hold_nil)))⟩
end Go.Proofs.Ytdahjdfjpckdcaa

/- Operations that the virtual memory does not know, among those that it knows. -/
import Derived.Test.YtdahjdfjpckdcaaVmS4
import Derived.Test.YtdahjdfjpckdcaaVmE
namespace Go.Vm
open Go Go.RowKit

section
variable {P : Program} {N : Nat} {ops : Array Oper} {Q : Exit → Act → World → Prop} {a : Act} {w : World}
theorem op_val {i : Nat} {o : Oper} {K : Act → World → Prop} {v : Value} {w' : World} (hi : ops[i]? = some o) (hg : o.guard = none) (hrun : (execOp a.eval o).run P w = .ok (.value v) w') (hK : K (a.put o.dst v) w') : wpOp P ops Q i K a w := by
  unfold wpOp
  rw [hi]
  have : Region.wanted o (yielded ops a.tmps) = true := by unfold Region.wanted; rw [hg]
  simp only [this, if_true]
  left
  unfold Oper.wp
  rw [hrun]
  exact hK
variable {W0 : World} {O S0 : Nat → Prop} {m0 : EM}
theorem opV_okD {run : FuncId → List AV → List Blk → Option (AV × List Blk)} {M : Mode} {o : Oper} {i : Nat} {K : Act → World → Prop} {t t' : Tr} {hp hp' : List Blk} (hrun : RunOk P run) (hi : ops[i]? = some o) (hd : ∀ d, o.dst = some d → d < N) (hb : N < 16383)
    (h : opV P run M ops o t hp = some (t', hp')) (hs : Sim W0 O S0 m0 N t hp a w) (hK : ∀ a' w', Sim W0 O S0 m0 N t' hp' a' w' → a'.defers = a.defers → K a' w') : wpOp P ops Q i K a w := by
  obtain ⟨m, S, h1, h2, h3, h4, h5⟩ := hs
  have fin : ∀ {m' : EM} {S' : Nat → Prop} {w' : World} {v : AV} {u : Value}, HS W0 O S0 m0 hp' m' S' w' → Ext m m' → FrR w' S' m' t a → R w' S' m' v u → Marks W0 S' w' a.defers → t' = putV t o.dst v → K (a.put o.dst u) w' := by
    intro m' S' w' v u k1 k2 k3 k4 k6 k5
    refine hK _ _ ⟨m', S', k1, h2.trans k2, ?_, by rw [put_size, h4], by rw [put_defers]; exact k6⟩ (put_defers ..)
    rw [k5]
    exact k3.put k4 _ (fun i hi => by rw [h4]; exact hd i hi) (by omega)
  unfold opV at h
  unfold wpOp
  rw [hi]
  simp only
  split at h
  · cases h
  · rename_i hg
    cases h
    rw [guard_ok h3 hg]
    simp only [Bool.false_eq_true, if_false]
    exact fin h1 (Ext.refl _) h3 (.p _ _) h5 rfl
  · rename_i hg
    rw [guard_ok h3 hg]
    simp only [if_true]
    left
    split at h
    · cases h
    · rename_i v hp1 hv
      cases h
      obtain ⟨nx, w', m', S', k1, k2, k3, k4, k5, k6⟩ := (vop_ok h1 h3 hv).1 _ _ rfl
      unfold Oper.wp
      rw [k1]
      cases nx with
      | value u => exact fin k3 k4 (h3.mono k6 k5 k4) k2 (h5.mono k6 k5) rfl
      | skip =>
        have : v = .p undef := k2
        subst this
        exact fin k3 k4 (h3.mono k6 k5 k4) (.p _ _) (h5.mono k6 k5) rfl
      | _ => exact absurd k2 (by simp [Gives])
    · rename_i f args hv
      obtain ⟨args', k1, k2⟩ := (vop_ok h1 h3 hv).2 _ _ rfl
      split at h
      · cases h
      · rename_i v hp1 hc
        cases h
        unfold Oper.wp
        rw [k1]
        refine (callV_ok hrun h1 k2 hc).mono ?_
        rintro e w' ⟨u, m', S', rfl, q1, q2, q3, q4, q5⟩
        exact fin q1 q2 (h3.mono q4 q3 q2) q5 (h5.mono q4 q3) rfl
theorem opsV_pre {run : FuncId → List AV → List Blk → Option (AV × List Blk)} {M : Mode} {t' : Tr} {hp' : List Blk} (hrun : RunOk P run) (hb : N < 16383) (hd : ∀ o ∈ ops.toList, ∀ d, o.dst = some d → d < N) (rest : List Nat) :
    ∀ (l : List Oper) (k : Nat) (t : Tr) (hp : List Blk) (a : Act) (w : World), (∀ j, j < l.length → l[j]? = ops[k + j]?) → opsV P run M ops l t hp = some (t', hp') → Sim W0 O S0 m0 N t hp a w → a.defers = [] → (∀ a' w', Sim W0 O S0 m0 N t' hp' a' w' → a'.defers = [] → wpOps P ops Q rest a' w') →
      wpOps P ops Q (List.range' k l.length ++ rest) a w
  | [], k, t, hp, a, w, hl, h, hs, hdf, hQ => by
    simp only [opsV] at h
    cases h
    exact hQ _ _ hs hdf
  | o :: l, k, t, hp, a, w, hl, h, hs, hdf, hQ => by
    simp only [opsV] at h
    split at h
    · rename_i t1 hp1 ho
      have hk : ops[k]? = some o := by have := hl 0 (by simp); simpa using this.symm
      have hmem : o ∈ ops.toList := by
        obtain ⟨hlt, e⟩ := Array.getElem?_eq_some_iff.1 hk
        rw [← e]; simp
      rw [List.length_cons, List.range'_succ, List.cons_append, wpOps_cons]
      refine opV_okD hrun hk (hd o hmem) hb ho hs (fun a' w' hs' hdf' => ?_)
      exact opsV_pre hrun hb hd rest l (k + 1) t1 hp1 a' w' (fun j hj => by have := hl (j + 1) (by simpa using hj); simp only [List.getElem?_cons_succ] at this; rw [this]; congr 1; omega) h hs' (hdf'.trans hdf) hQ
    · cases h
/-- operations that the virtual memory knows, n of them from the k-th on -/
theorem wpOps_at {run : FuncId → List AV → List Blk → Option (AV × List Blk)} {M : Mode} {hp hp' : List Blk} {t : Tr} {keep : List Nat} {vals : List AV} (k n : Nat) (rest : List Nat) (hrun : RunOk P run) (hb : N < 16383) (hd : ∀ o ∈ ops.toList, ∀ d, o.dst = some d → d < N)
    (hn : Nat.ble (k + n) ops.size = true) (hkeep : (keep.all fun i => Nat.blt i 16383) = true) (h : (opsV P run M ops ((ops.toList.drop k).take n) t hp).map (fun q => (keep.map q.1.get, q.2)) = some (vals, hp')) (hs : Sim W0 O S0 m0 N t hp a w) (hdf : a.defers = [])
    (hQ : ∀ a' w', Sim W0 O S0 m0 N (mk (keep.zip vals)) hp' a' w' → a'.defers = [] → wpOps P ops Q rest a' w') : wpOps P ops Q (List.range' k n ++ rest) a w := by
  have hn' := Nat.le_of_ble_eq_true hn
  cases hq : opsV P run M ops ((ops.toList.drop k).take n) t hp with
  | none => rw [hq] at h; cases h
  | some q =>
    obtain ⟨t', hp2⟩ := q
    rw [hq] at h
    cases h
    have := opsV_pre (Q := Q) hrun hb hd rest ((ops.toList.drop k).take n) k t hp a w (fun j hj => by rw [List.length_take] at hj; rw [List.getElem?_take, if_pos (by omega), List.getElem?_drop, Array.getElem?_toList]) hq hs hdf (fun a' w' hs' hdf' => hQ a' w' (by
      obtain ⟨m, S, h1, h2, h3, h4, h5⟩ := hs'
      refine ⟨m, S, h1, h2, fun i => ?_, h4, h5⟩
      have hlt : ∀ q ∈ keep.zip (keep.map t'.get), q.1 < 16383 := by
        rintro ⟨j, v⟩ hq
        have := (List.of_mem_zip hq).1
        exact Nat.le_of_ble_eq_true (List.all_eq_true.1 hkeep j this)
      rcases mk_get _ hlt i with k | k
      · rw [k]; exact .top _ _
      · rw [← keep_get keep _ rfl i _ k]; exact h3 i) hdf')
    rwa [show ((ops.toList.drop k).take n).length = n by simp; omega] at this
theorem wp_exS {run : Run} {runs : RunT} {M : Mode} (hrun : RunOk P run) (hr : RunsOk run runs) (hN : N < 16383) {n : Nat} {c : Code} {t : Tr} {hp hp' : List Blk} {keep : List Nat} {vals : List AV} {orc : List (Nat × AV)} {x : Ex} {st : St}
    (h : (exS P runs M N n c t hp (orc, [])).map (seen keep) = some (x, vals, hp', st)) (hc : Hold st.2) (hs : Sim W0 O S0 m0 N t hp a w) (hQ : ∀ t' a' w', keep.map t'.get = vals → Sim W0 O S0 m0 N t' hp' a' w' → Q (exOf x) a' w') : c.wp P Q a w := by
  cases hq : exS P runs M N n c t hp (orc, []) with
  | none => rw [hq] at h; cases h
  | some q =>
    obtain ⟨y, t', hp2, st2⟩ := q
    rw [hq] at h
    cases h
    refine wp_mono ((exV_both hrun hN n).1 c t hp y t' hp2 a w ((exS_ok hr hN n _ _ _ _ _ _ _ _ hq).2 hc) hs) ?_
    rintro e a' w' ⟨rfl, h2⟩
    exact hQ t' a' w' rfl h2
theorem fr_mk {S : Nat → Prop} {m : EM} {l : List (Nat × AV)} (hl : ∀ q ∈ l, q.1 < 16383) (h : ∀ q ∈ l, R w S m q.2 (a.eval (.tmp q.1))) : FrR w S m (mk l) a := fun i => by
  rcases mk_get l hl i with k | k
  · rw [k]; exact .top _ _
  · exact h _ k
/-- from a world on: what lies below stays -/
theorem sim_from {l : List (Nat × AV)} (hS : ∀ b, S0 b → b < w.heap.size) (hl : ∀ q ∈ l, q.1 < 16383) (h : ∀ q ∈ l, R w S0 noEM q.2 (a.eval (.tmp q.1))) (hN : a.tmps.size = N) (hd : a.defers = []) :
    Sim w (fun _ => False) S0 noEM N (mk l) [] a w := ⟨noEM, S0, hs_nil (Below.refl _ _) (fun _ => rfl) hS (fun b h => .inl h) (fun _ h => h), Ext.refl _, fr_mk hl h, hN, by rw [hd]; exact Marks.nil _ _ _⟩
theorem sim_to {wr : World} {t : Tr} {hp : List Blk} (hs : Sim w (fun _ => False) S0 noEM N t hp a wr) : Below w.heap.size w wr ∧ (∀ i v, t.get i = .p v → a.eval (.tmp i) = v) ∧ a.tmps.size = N := by
  obtain ⟨m, S, h1, h2, h3, h4, h5⟩ := hs
  exact ⟨h1.below, fun i v hv => isP_ok (x := .p v) rfl (hv ▸ h3 i), h4⟩
end
/-! how many frames are pinned -/
def pinS : List AV → Option Nat
  | [] => some 0
  | .agg [.lst _ _, .p (.int .i64 (.ofNat p)), .lst _ _] :: r => (match pinS r with | some n => some (Nat.min p 1 + n) | none => none)
  | _ => none
def pinnedV (args : List AV) (hp : List Blk) : Option (AV × List Blk) :=
  match args with
  | [.ptr i g k] => (match getB hp i g with
    | some b => cond (!b.row) (match b.cells.drop k with
      | _ :: _ :: _ :: .mp j g' :: _ => (match getM hp j g' with
        | some (_, mb) => cond (Nat.blt mb.cells.length 100000) (match pinS mb.cells with | some n => some (.p (.int .i64 (Int.ofNat n)), hp) | none => none) none
        | none => none)
      | _ => none) none
    | none => none)
  | _ => none
theorem pinnedV_ok {args : List AV} {hp hp' : List Blk} {r : AV} (h : pinnedV args hp = some (r, hp')) : ∃ i g k b x0 x1 x2 j g' rest ks mb n, args = [.ptr i g k] ∧ getB hp i g = some b ∧ b.row = false ∧ b.cells.drop k = x0 :: x1 :: x2 :: .mp j g' :: rest ∧ getM hp j g' = some (ks, mb) ∧ mb.cells.length < 100000 ∧ pinS mb.cells = some n ∧ r = .p (.int .i64 (Int.ofNat n)) ∧ hp' = hp := by
  unfold pinnedV at h
  split at h
  · rename_i i g k
    split at h
    · rename_i b hb
      cases hr : b.row with
      | true => rw [hr] at h; cases h
      | false =>
        rw [hr] at h
        simp only [Bool.not_false, cond_true] at h
        split at h
        · rename_i x0 x1 x2 j g' rest hd
          split at h
          · rename_i ks mb hm
            cases hl : Nat.blt mb.cells.length 100000 with
            | false => rw [hl] at h; cases h
            | true =>
              rw [hl, cond_true] at h
              split at h
              · rename_i n hn
                cases h
                exact ⟨i, g, k, b, x0, x1, x2, j, g', rest, ks, mb, n, rfl, hb, hr, hd, hm, Nat.le_of_ble_eq_true hl, hn, rfl, rfl⟩
              · cases h
          · cases h
        · cases h
    · cases h
  · cases h
theorem pinS_cons {y : AV} {r : List AV} {n : Nat} (h : pinS (y :: r) = some n) : ∃ n0 X p m Y n', y = .agg [.lst n0 X, .p (.int .i64 (.ofNat p)), .lst m Y] ∧ pinS r = some n' ∧ n = Nat.min p 1 + n' := by
  unfold pinS at h
  split at h
  · rename_i e; cases e
  · rename_i n0 X p m Y r' e
    cases e
    split at h
    · rename_i n' hn
      cases h
      exact ⟨n0, X, p, m, Y, n', rfl, hn, rfl⟩
    · cases h
  · cases h
end Go.Vm

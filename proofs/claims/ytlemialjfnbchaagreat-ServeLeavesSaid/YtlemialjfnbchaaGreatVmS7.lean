/- Loops over a map that only read: what is needed beside the triples. -/
import Derived.Test.YtlemialjfnbchaaGreatVmS3
import Derived.Test.YtlemialjfnbchaaGreatVmF
import Derived.Test.YtlemialjfnbchaaGreatVmM
import Derived.Maps.RangeRun
import Derived.Test.YtlemialjfnbchaaGreatVmE

namespace Go.Vm
open Go Go.RowKit

theorem hs_nil {w w' : World} {S0 S : Nat → Prop} {m m0 : EM} (hb : Below w.heap.size w w') (hm : ∀ i, m i = none) (hsok : ∀ b, S b → b < w'.heap.size) (hnew : ∀ b, S b → S0 b ∨ w.heap.size ≤ b) (hmono : ∀ b, S0 b → S b) :
    HS w (fun _ => False) S0 m0 [] m S w' where
  dom i := by simp [hm i]
  blk i b e h1 := by simp at h1
  inj i j e e' p q h1 := by rw [hm i] at h1; cases h1
  sok := hsok
  ro i b e pl h1 := by simp at h1
  org i e pl h1 := by rw [hm i] at h1; cases h1
  os := hb.os
  tape := hb.tape
  out := hb.output
  size := hb.size
  frame b hlt _ := hb.block b hlt
  snew b h1 := (hnew b h1).imp id .inr
  smono := hmono
theorem HS.below {w w' : World} {S0 S : Nat → Prop} {m m0 : EM} {hp : List Blk} (h : HS w (fun _ => False) S0 m0 hp m S w') : Below w.heap.size w w' :=
  ⟨h.os, h.tape, h.out, h.size, fun b hb => h.frame b hb (fun k => k)⟩

/-- a function that leaves all as it is and tells a plain value -/
theorem fn_pure {P : Program} {f : FuncId} {fn : Func} {c : Code} {args : List AV} {hp : List Blk} {v : Value} {N : Nat} (hfn : P.funcs[f]? = some fn) (hbody : fn.body = some c)
    (h : ∀ (m : EM) (S : Nat → Prop) (w : World) (args' : List Value), HS w (own0 hp m) S m hp m S w → RL w S m args args' →
      c.wp P (fun e a' w' => ∃ x t S0, e = exOf x ∧ (x = .nrm ∨ x = .ret) ∧ resV P t [] fn.results.toList = some [.p v] ∧ Sim w (fun _ => False) S0 noEM N t [] a' w')
        { tmps := args'.toArray ++ Array.replicate (fn.ntmps - args'.toArray.size) undef, defers := [] } w) : FnOk P f args hp (.p v) hp := by
  intro m S w args' hs hargs
  refine callsIn_wide.1 (callsIn_of_wp_marks (F := Fence.wide) (n := 0) hfn hbody trivial (wpIn_wide.2 ?_) rfl)
  refine wp_mono (h m S w args' hs hargs) ?_
  rintro e a1 w1 ⟨x, t, S0, rfl, hx, hres, m1, S1, h1, h2, h3, h4, h5⟩
  have hpost : ∀ w1 : World, HS w (fun _ => False) S0 noEM [] m1 S1 w1 → FrR w1 S1 m1 t a1 → ∃ v', (results fn a1.tmps).run P w1 = .ok v' w1 ∧ After w (own0 hp m) S m hp m S w (.p v) (.returned v') w1 := by
    intro w1 h1 h3
    obtain ⟨us, k1, k2⟩ := resV_ok h1 h3 hres
    obtain ⟨u, rfl⟩ : ∃ u, us = [u] := by
      have := k2.1
      match us, this with
      | [u], _ => exact ⟨u, rfl⟩
    have hu := isP_ok (x := .p v) rfl (k2.2 0 (by simp) (by simp))
    simp only [List.getElem_cons_zero] at hu
    subst hu
    refine ⟨u, ?_, after_nil hs h1.below⟩
    have hrun : (fn.results.mapM (fun (r : ResultVar) => (match r with | .tmp i => pure (a1.tmps.getD i undef) | .cell i ty => do loadVar ty (← asAddr (a1.tmps.getD i undef)) : Sem Value))).run P w1 = .ok #[u] w1 := by
      rw [Array.mapM_eq_mapM_toList, Sem.run_map]
      exact congrArg (fun r => Result.andThen r (fun (a : List Value) w' => Result.ok a.toArray w')) k1
    unfold results
    rw [Sem.run_bind]
    exact congrArg (fun r => Result.andThen r (fun (a : Array Value) w' => Sem.run P (pure (if h : a.size = 1 then a[0] else Value.tuple a)) w')) hrun
  rcases hx with rfl | rfl
  · exact leave_marks hpost a1.defers w1 h1 h3 h5
  · exact leave_marks hpost a1.defers w1 h1 h3 h5
/-! what the entries that have been seen amount to -/
def seenN (g : MapEntry → Nat) (seen : Array Nat) : List MapEntry → Nat
  | [] => 0
  | x :: l => (if seen.contains x.born then g x else 0) + seenN g seen l
theorem seenN_none (g : MapEntry → Nat) : ∀ l, seenN g #[] l = 0
  | [] => rfl
  | x :: l => by simp [seenN, seenN_none g l]
theorem seenN_other {g : MapEntry → Nat} {seen : Array Nat} {b : Nat} : ∀ {l : List MapEntry}, (∀ x ∈ l, x.born ≠ b) → seenN g (seen.push b) l = seenN g seen l
  | [], _ => rfl
  | x :: l, h => by
    unfold seenN
    rw [seenN_other (fun y hy => h y (List.mem_cons_of_mem _ hy))]
    have : (seen.push b).contains x.born = seen.contains x.born := by
      have := h x (List.mem_cons_self ..)
      rw [Bool.eq_iff_iff]
      simp [this]
    rw [this]
theorem seenN_push {g : MapEntry → Nat} {seen : Array Nat} {e : MapEntry} (hn : seen.contains e.born = false) : ∀ {l : List MapEntry}, e ∈ l → (l.map (·.born)).Nodup → seenN g (seen.push e.born) l = seenN g seen l + g e
  | [], h, _ => by cases h
  | x :: l, h, hd => by
    rw [List.map_cons, List.nodup_cons] at hd
    unfold seenN
    rcases List.mem_cons.1 h with rfl | h'
    · rw [seenN_other (fun y hy (q : y.born = e.born) => hd.1 (by rw [← q]; exact List.mem_map_of_mem (f := fun x : MapEntry => x.born) hy))]
      have : (seen.push e.born).contains e.born = true := by simp
      rw [this, hn]
      simp; omega
    · have hne : x.born ≠ e.born := fun q => hd.1 (q ▸ List.mem_map_of_mem (f := fun x : MapEntry => x.born) h')
      have : (seen.push e.born).contains x.born = seen.contains x.born := by
        rw [Bool.eq_iff_iff]; simp [hne]
      rw [this, seenN_push hn h' hd.2]
      omega
theorem seenN_all {g : MapEntry → Nat} {seen : Array Nat} : ∀ {l : List MapEntry}, (∀ x ∈ l, seen.contains x.born = true) → seenN g seen l = (l.map g).sum
  | [], _ => rfl
  | x :: l, h => by
    unfold seenN
    rw [h x (List.mem_cons_self ..), seenN_all (fun y hy => h y (List.mem_cons_of_mem _ hy))]
    simp
end Go.Vm

namespace Go.Vm
open Go Go.RowKit

section
variable {P : Program} {N : Nat} {ops : Array Oper} {Q : Exit → Act → World → Prop} {a : Act} {w : World}
theorem op_val {i : Nat} {o : Oper} {K : Act → World → Prop} {v : Value} {w' : World} (hi : ops[i]? = some o) (hg : o.guard = none) (hrun : (execOp a.eval o).run P w = .ok (.value v) w') (hK : K (a.put o.dst v) w') : wpOp P ops Q i K a w := by
  unfold wpOp
  rw [hi]
  have : Region.wanted o (yielded ops a.tmps) = true := by unfold Region.wanted; rw [hg]
  simp only [this, if_true]
  left
  unfold Oper.wp
  rw [hrun]
  exact hK
variable {W0 : World} {O S0 : Nat → Prop} {m0 : EM}
theorem opV_okD {run : FuncId → List AV → List Blk → Option (AV × List Blk)} {M : Mode} {o : Oper} {i : Nat} {K : Act → World → Prop} {t t' : Tr} {hp hp' : List Blk} (hrun : RunOk P run) (hi : ops[i]? = some o) (hd : ∀ d, o.dst = some d → d < N) (hb : N < 16383)
    (h : opV P run M ops o t hp = some (t', hp')) (hs : Sim W0 O S0 m0 N t hp a w) (hK : ∀ a' w', Sim W0 O S0 m0 N t' hp' a' w' → a'.defers = a.defers → K a' w') : wpOp P ops Q i K a w := by
  obtain ⟨m, S, h1, h2, h3, h4, h5⟩ := hs
  have fin : ∀ {m' : EM} {S' : Nat → Prop} {w' : World} {v : AV} {u : Value}, HS W0 O S0 m0 hp' m' S' w' → Ext m m' → FrR w' S' m' t a → R w' S' m' v u → Marks W0 S' w' a.defers → t' = putV t o.dst v → K (a.put o.dst u) w' := by
    intro m' S' w' v u k1 k2 k3 k4 k6 k5
    refine hK _ _ ⟨m', S', k1, h2.trans k2, ?_, by rw [put_size, h4], by rw [put_defers]; exact k6⟩ (put_defers ..)
    rw [k5]
    exact k3.put k4 _ (fun i hi => by rw [h4]; exact hd i hi) (by omega)
  unfold opV at h
  unfold wpOp
  rw [hi]
  simp only
  split at h
  · cases h
  · rename_i hg
    cases h
    rw [guard_ok h3 hg]
    simp only [Bool.false_eq_true, if_false]
    exact fin h1 (Ext.refl _) h3 (.p _ _) h5 rfl
  · rename_i hg
    rw [guard_ok h3 hg]
    simp only [if_true]
    left
    split at h
    · cases h
    · rename_i v hp1 hv
      cases h
      obtain ⟨nx, w', m', S', k1, k2, k3, k4, k5, k6⟩ := (vop_ok h1 h3 hv).1 _ _ rfl
      unfold Oper.wp
      rw [k1]
      cases nx with
      | value u => exact fin k3 k4 (h3.mono k6 k5 k4) k2 (h5.mono k6 k5) rfl
      | skip =>
        have : v = .p undef := k2
        subst this
        exact fin k3 k4 (h3.mono k6 k5 k4) (.p _ _) (h5.mono k6 k5) rfl
      | _ => exact absurd k2 (by simp [Gives])
    · rename_i f args hv
      obtain ⟨args', k1, k2⟩ := (vop_ok h1 h3 hv).2 _ _ rfl
      split at h
      · cases h
      · rename_i v hp1 hc
        cases h
        unfold Oper.wp
        rw [k1]
        refine (callV_ok hrun h1 k2 hc).mono ?_
        rintro e w' ⟨u, m', S', rfl, q1, q2, q3, q4, q5⟩
        exact fin q1 q2 (h3.mono q4 q3 q2) q5 (h5.mono q4 q3) rfl
theorem opsV_pre {run : FuncId → List AV → List Blk → Option (AV × List Blk)} {M : Mode} {t' : Tr} {hp' : List Blk} (hrun : RunOk P run) (hb : N < 16383) (hd : ∀ o ∈ ops.toList, ∀ d, o.dst = some d → d < N) (rest : List Nat) :
    ∀ (l : List Oper) (k : Nat) (t : Tr) (hp : List Blk) (a : Act) (w : World), (∀ j, j < l.length → l[j]? = ops[k + j]?) → opsV P run M ops l t hp = some (t', hp') → Sim W0 O S0 m0 N t hp a w → a.defers = [] → (∀ a' w', Sim W0 O S0 m0 N t' hp' a' w' → a'.defers = [] → wpOps P ops Q rest a' w') →
      wpOps P ops Q (List.range' k l.length ++ rest) a w
  | [], k, t, hp, a, w, hl, h, hs, hdf, hQ => by
    simp only [opsV] at h
    cases h
    exact hQ _ _ hs hdf
  | o :: l, k, t, hp, a, w, hl, h, hs, hdf, hQ => by
    simp only [opsV] at h
    split at h
    · rename_i t1 hp1 ho
      have hk : ops[k]? = some o := by have := hl 0 (by simp); simpa using this.symm
      have hmem : o ∈ ops.toList := by
        obtain ⟨hlt, e⟩ := Array.getElem?_eq_some_iff.1 hk
        rw [← e]; simp
      rw [List.length_cons, List.range'_succ, List.cons_append, wpOps_cons]
      refine opV_okD hrun hk (hd o hmem) hb ho hs (fun a' w' hs' hdf' => ?_)
      exact opsV_pre hrun hb hd rest l (k + 1) t1 hp1 a' w' (fun j hj => by have := hl (j + 1) (by simpa using hj); simp only [List.getElem?_cons_succ] at this; rw [this]; congr 1; omega) h hs' (hdf'.trans hdf) hQ
    · cases h
/-- operations that the virtual memory knows, n of them from the k-th on -/
theorem wpOps_at {run : FuncId → List AV → List Blk → Option (AV × List Blk)} {M : Mode} {hp hp' : List Blk} {t : Tr} {keep : List Nat} {vals : List AV} (k n : Nat) (rest : List Nat) (hrun : RunOk P run) (hb : N < 16383) (hd : ∀ o ∈ ops.toList, ∀ d, o.dst = some d → d < N)
    (hn : Nat.ble (k + n) ops.size = true) (hkeep : (keep.all fun i => Nat.blt i 16383) = true) (h : (opsV P run M ops ((ops.toList.drop k).take n) t hp).map (fun q => (keep.map q.1.get, q.2)) = some (vals, hp')) (hs : Sim W0 O S0 m0 N t hp a w) (hdf : a.defers = [])
    (hQ : ∀ a' w', Sim W0 O S0 m0 N (mk (keep.zip vals)) hp' a' w' → a'.defers = [] → wpOps P ops Q rest a' w') : wpOps P ops Q (List.range' k n ++ rest) a w := by
  have hn' := Nat.le_of_ble_eq_true hn
  cases hq : opsV P run M ops ((ops.toList.drop k).take n) t hp with
  | none => rw [hq] at h; cases h
  | some q =>
    obtain ⟨t', hp2⟩ := q
    rw [hq] at h
    cases h
    have := opsV_pre (Q := Q) hrun hb hd rest ((ops.toList.drop k).take n) k t hp a w (fun j hj => by rw [List.length_take] at hj; rw [List.getElem?_take, if_pos (by omega), List.getElem?_drop, Array.getElem?_toList]) hq hs hdf (fun a' w' hs' hdf' => hQ a' w' (by
      obtain ⟨m, S, h1, h2, h3, h4, h5⟩ := hs'
      refine ⟨m, S, h1, h2, fun i => ?_, h4, h5⟩
      have hlt : ∀ q ∈ keep.zip (keep.map t'.get), q.1 < 16383 := by
        rintro ⟨j, v⟩ hq
        have := (List.of_mem_zip hq).1
        exact Nat.le_of_ble_eq_true (List.all_eq_true.1 hkeep j this)
      rcases mk_get _ hlt i with k | k
      · rw [k]; exact .top _ _
      · rw [← keep_get keep _ rfl i _ k]; exact h3 i) hdf')
    rwa [show ((ops.toList.drop k).take n).length = n by simp; omega] at this
theorem wp_exS {run : Run} {runs : RunT} {M : Mode} (hrun : RunOk P run) (hr : RunsOk run runs) (hN : N < 16383) {n : Nat} {c : Code} {t : Tr} {hp hp' : List Blk} {keep : List Nat} {vals : List AV} {orc : List (Nat × AV)} {x : Ex} {st : St}
    (h : (exS P runs M N n c t hp (orc, [])).map (seen keep) = some (x, vals, hp', st)) (hc : Hold st.2) (hs : Sim W0 O S0 m0 N t hp a w) (hQ : ∀ t' a' w', keep.map t'.get = vals → Sim W0 O S0 m0 N t' hp' a' w' → Q (exOf x) a' w') : c.wp P Q a w := by
  cases hq : exS P runs M N n c t hp (orc, []) with
  | none => rw [hq] at h; cases h
  | some q =>
    obtain ⟨y, t', hp2, st2⟩ := q
    rw [hq] at h
    cases h
    refine wp_mono ((exV_both hrun hN n).1 c t hp y t' hp2 a w ((exS_ok hr hN n _ _ _ _ _ _ _ _ hq).2 hc) hs) ?_
    rintro e a' w' ⟨rfl, h2⟩
    exact hQ t' a' w' rfl h2
theorem fr_mk {S : Nat → Prop} {m : EM} {l : List (Nat × AV)} (hl : ∀ q ∈ l, q.1 < 16383) (h : ∀ q ∈ l, R w S m q.2 (a.eval (.tmp q.1))) : FrR w S m (mk l) a := fun i => by
  rcases mk_get l hl i with k | k
  · rw [k]; exact .top _ _
  · exact h _ k
/-- from a world on: what lies below stays -/
theorem sim_from {l : List (Nat × AV)} (hS : ∀ b, S0 b → b < w.heap.size) (hl : ∀ q ∈ l, q.1 < 16383) (h : ∀ q ∈ l, R w S0 noEM q.2 (a.eval (.tmp q.1))) (hN : a.tmps.size = N) (hd : a.defers = []) :
    Sim w (fun _ => False) S0 noEM N (mk l) [] a w := ⟨noEM, S0, hs_nil (Below.refl _ _) (fun _ => rfl) hS (fun b h => .inl h) (fun _ h => h), Ext.refl _, fr_mk hl h, hN, by rw [hd]; exact Marks.nil _ _ _⟩
theorem sim_to {wr : World} {t : Tr} {hp : List Blk} (hs : Sim w (fun _ => False) S0 noEM N t hp a wr) : Below w.heap.size w wr ∧ (∀ i v, t.get i = .p v → a.eval (.tmp i) = v) ∧ a.tmps.size = N := by
  obtain ⟨m, S, h1, h2, h3, h4, h5⟩ := hs
  exact ⟨h1.below, fun i v hv => isP_ok (x := .p v) rfl (hv ▸ h3 i), h4⟩
end
/-! how many frames are pinned -/
def pinS : List AV → Option Nat
  | [] => some 0
  | .agg [.lst _ _, .p (.int .i64 (.ofNat p)), .lst _ _] :: r => (match pinS r with | some n => some (Nat.min p 1 + n) | none => none)
  | _ => none
def pinnedV (args : List AV) (hp : List Blk) : Option (AV × List Blk) :=
  match args with
  | [.ptr i g k] => (match getB hp i g with
    | some b => cond (!b.row) (match b.cells.drop k with
      | _ :: _ :: _ :: .mp j g' :: _ => (match getM hp j g' with
        | some (_, mb) => cond (Nat.blt mb.cells.length 100000) (match pinS mb.cells with | some n => some (.p (.int .i64 (Int.ofNat n)), hp) | none => none) none
        | none => none)
      | _ => none) none
    | none => none)
  | _ => none
theorem pinnedV_ok {args : List AV} {hp hp' : List Blk} {r : AV} (h : pinnedV args hp = some (r, hp')) : ∃ i g k b x0 x1 x2 j g' rest ks mb n, args = [.ptr i g k] ∧ getB hp i g = some b ∧ b.row = false ∧ b.cells.drop k = x0 :: x1 :: x2 :: .mp j g' :: rest ∧ getM hp j g' = some (ks, mb) ∧ mb.cells.length < 100000 ∧ pinS mb.cells = some n ∧ r = .p (.int .i64 (Int.ofNat n)) ∧ hp' = hp := by
  unfold pinnedV at h
  split at h
  · rename_i i g k
    split at h
    · rename_i b hb
      cases hr : b.row with
      | true => rw [hr] at h; cases h
      | false =>
        rw [hr] at h
        simp only [Bool.not_false, cond_true] at h
        split at h
        · rename_i x0 x1 x2 j g' rest hd
          split at h
          · rename_i ks mb hm
            cases hl : Nat.blt mb.cells.length 100000 with
            | false => rw [hl] at h; cases h
            | true =>
              rw [hl, cond_true] at h
              split at h
              · rename_i n hn
                cases h
                exact ⟨i, g, k, b, x0, x1, x2, j, g', rest, ks, mb, n, rfl, hb, hr, hd, hm, Nat.le_of_ble_eq_true hl, hn, rfl, rfl⟩
              · cases h
          · cases h
        · cases h
    · cases h
  · cases h
theorem pinS_cons {y : AV} {r : List AV} {n : Nat} (h : pinS (y :: r) = some n) : ∃ n0 X p m Y n', y = .agg [.lst n0 X, .p (.int .i64 (.ofNat p)), .lst m Y] ∧ pinS r = some n' ∧ n = Nat.min p 1 + n' := by
  unfold pinS at h
  split at h
  · rename_i e; cases e
  · rename_i n0 X p m Y r' e
    cases e
    split at h
    · rename_i n' hn
      cases h
      exact ⟨n0, X, p, m, Y, n', rfl, hn, rfl⟩
    · cases h
  · cases h
end Go.Vm

namespace Go.Vm
open Go Go.RowKit
def sortedAny : List Nat → List AV → List Blk → Option (AV × List Blk)
  | [], _, _ => none
  | k :: l, args, hp => match sortedKV k args hp with
    | some r => some r
    | none => sortedAny l args hp
theorem sortedAny_con {P : Program} {f : FuncId} {T : TypeId} : ∀ {l : List Nat}, (∀ k ∈ l, SortedKit P f k T) → ∀ {args : List AV} {hp hp' : List Blk} {r : AV}, sortedAny l args hp = some (r, hp') → FnOk P f args hp r hp'
  | [], _, args, hp, hp', r, h => by cases h
  | k :: l, hk, args, hp, hp', r, h => by
    unfold sortedAny at h
    split at h
    · rename_i q hq
      cases h
      exact sorted_con (hk k (by simp)) hq
    · exact sortedAny_con (fun q hq => hk q (by simp [hq])) h
def sortedNilV (kf : Nat) (args : List AV) (hp : List Blk) : Option (AV × List Blk) :=
  match args with
  | [.fn (.func f) [] [.ptr i g 0]] => cond (Nat.beq f kf)
    (match getB hp i g with
     | some b => cond (Nat.beq b.esz 0 && !b.row) (match b.cells with
       | [.mp j g'] => (match getM hp j g' with
         | some (ks, _) => (match ks with
           | [] => some (.p (.slice none 0 0), hp)
           | _ => none)
         | none => none)
       | _ => none) none
     | none => none) none
  | _ => none
def SortedNilKit (P : Program) (f kf : FuncId) : Prop := ∀ (w : World) (Bm b : Nat) (clock : Nat), Bm < w.heap.size → w.cell? ⟨Bm, 0, none⟩ = some (.map (some b)) → w.heap[b]? = some (.map #[] clock) →
  MapKept.Stamped #[] clock →
  Calls P f #[.func (.func kf) #[] #[.pointer (some ⟨Bm, 0, none⟩)]] w fun e w' => e = .returned (.slice none 0 0) ∧ Below w.heap.size w w'
theorem sortedNil_con {P : Program} {f kf : FuncId} (hk : SortedNilKit P f kf) {args : List AV} {hp hp' : List Blk} {r : AV} (h : sortedNilV kf args hp = some (r, hp')) : FnOk P f args hp r hp' := by
  unfold sortedNilV at h
  split at h
  · rename_i f' i g
    cases hf : Nat.beq f' kf with
    | false => rw [hf] at h; cases h
    | true =>
      rw [hf, cond_true] at h
      obtain rfl := Nat.eq_of_beq_eq_true hf
      split at h
      · rename_i b hb
        cases hz : (Nat.beq b.esz 0 && !b.row) with
        | false => rw [hz] at h; cases h
        | true =>
          rw [hz, cond_true] at h
          rw [Bool.and_eq_true] at hz
          split at h
          · rename_i j g' hcells
            split at h
            · rename_i ks mb hM
              intro m S w args' hs hr
              obtain ⟨u, rfl, hu⟩ : ∃ u, args' = [u] ∧ R w S m (.fn (.func f') [] [.ptr i g 0]) u := by
                have hl := hr.1
                match args', hl with
                | [u], _ => exact ⟨u, rfl, hr.2 0 (by simp) (by simp)⟩
              obtain ⟨e1, e2, e, he, heg, henil, hblk⟩ := getB_ok hs hb
              cases hu with
              | fn _ _ _ _ ys vs hy1 hy2 hv1 hv2 =>
                have : ys = [] := List.length_eq_zero_iff.1 hy1.symm
                subst this
                obtain ⟨v0, rfl⟩ : ∃ v0, vs = [v0] := by
                  match vs, hv1 with
                  | [v0], _ => exact ⟨v0, rfl⟩
                have hv := hv2 0 (by simp) (by simp)
                simp only [List.getElem_cons_zero] at hv
                obtain ⟨pl, hpl, rfl⟩ : ∃ pl, e.pl = some pl ∧ v0 = .pointer (some ⟨pl.b, pl.o + 0, none⟩) := by
                  generalize hx : AV.ptr i g 0 = x at hv
                  cases hv <;> cases hx
                  · rename_i e' pl h1 h2
                    rw [he] at h2; cases h2
                    exact ⟨pl, h1, rfl⟩
                  · rename_i e' a h1 h2
                    first
                      | (rw [he] at h1; cases h1; omega)
                      | (rw [he] at h2; cases h2; omega)
                obtain ⟨q1, q2, q3, q4, cs, q5, q6⟩ := hblk pl hpl
                have hrow : b.row = false := by simpa using hz.2
                rw [hrow, cond_false, hcells] at q6
                have ho := q3.2 (Nat.eq_of_beq_eq_true hz.1)
                obtain ⟨c0, rfl⟩ : ∃ c0, cs = [c0] := by
                  have := q6.1
                  match cs, this with
                  | [c0], _ => exact ⟨c0, rfl⟩
                have hc0 := q6.2 0 (by simp) (by simp)
                simp only [List.getElem_cons_zero] at hc0
                obtain ⟨_, _, _, e', pl', he', hpl', rfl, es, clock, hobj, hkeys, _, hst⟩ := getM_ok hs hM hc0
                have hcell := q5 0 _ rfl
                rw [ho] at hcell ⊢
                split at h
                · cases h
                  have hes : es = #[] := by
                    have : es.toList = [] := List.map_eq_nil_iff.1 hkeys
                    exact Array.toList_eq_nil_iff.1 this
                  subst hes
                  refine (hk w pl.b pl'.b clock q2 hcell hobj hst).mono ?_
                  rintro e w' ⟨rfl, hbelow⟩
                  exact after_nil hs hbelow
                · cases h
            · cases h
          · cases h
      · cases h
  · cases h
end Go.Vm

namespace Go.Vm
open Go Go.RowKit

/-- a world in which all that lay is as it was, but for one block -/
structure But (w : World) (bm : Nat) (w' : World) : Prop where
  os : w'.os = w.os
  tape : w'.tape = w.tape
  out : w'.output = w.output
  size : w.heap.size ≤ w'.heap.size
  block : ∀ b, b < w.heap.size → b ≠ bm → w'.heap[b]? = w.heap[b]?
theorem But.of_below {w w' : World} (h : Below w.heap.size w w') (bm : Nat) : But w bm w' := ⟨h.os, h.tape, h.output, h.size, fun b hb _ => h.block b hb⟩
theorem But.below {w w' w2 : World} {bm : Nat} (h : But w bm w') (k : Below w'.heap.size w' w2) : But w bm w2 :=
  ⟨k.os.trans h.os, k.tape.trans h.tape, k.output.trans h.out, Nat.le_trans h.size k.size, fun b hb hne => (k.block b (Nat.lt_of_lt_of_le hb h.size)).trans (h.block b hb hne)⟩
/-- what stays while a map is gone through, by an iterator of its own -/
abbrev ST (w : World) (bm r : Nat) (b : Nat) : Prop := b < w.heap.size ∧ b ≠ bm ∧ b ≠ r
/-- what stays while a map is gone through -/
abbrev SB (w : World) (bm : Nat) (b : Nat) : Prop := b < w.heap.size ∧ b ≠ bm
theorem But.keeps {w w' : World} {bm : Nat} (h : But w bm w') : Keeps (SB w bm) w w' := fun b hb => h.block b hb.1 hb.2
theorem But.lt {w w' : World} {bm : Nat} (h : But w bm w') {b : Nat} (hb : SB w bm b) : b < w'.heap.size := Nat.lt_of_lt_of_le hb.1 h.size

section
variable {W0 : World} {O S0 : Nat → Prop} {m0 : EM} {hp : List Blk} {m : EM} {S : Nat → Prop} {w w' : World}
/-- more memory, that nobody knows -/
theorem HS.grow (h : HS W0 O S0 m0 hp m S w) (hb : Below w.heap.size w w') : HS W0 O S0 m0 hp m S w' := by
  have hk : Keeps S w w' := fun b hb' => hb.block b (h.sok b hb')
  refine ⟨h.dom, fun i b e k1 k2 => ?_, h.inj, fun b hb' => Nat.lt_of_lt_of_le (h.sok b hb') hb.size, h.ro, h.org, hb.os.trans h.os, hb.tape.trans h.tape, hb.output.trans h.out, Nat.le_trans h.size hb.size, fun b h1 h2 => ?_, h.snew, h.smono⟩
  · obtain ⟨g1, g2, g3⟩ := h.blk i b e k1 k2
    exact ⟨g1, g2, fun pl hpl => (g3 pl hpl).mono (hb.block _ (g3 pl hpl).lt) hb.size hk (fun _ h => h) (Ext.refl _)⟩
  · rw [hb.block b (Nat.lt_of_lt_of_le h1 h.size)]; exact h.frame b h1 h2
/-- behind a function that has turned one map, and left all else as it was -/
theorem HS.turned {w wr : World} {hp : List Blk} {m : EM} {S : Nat → Prop} (h : HS w (own0 hp m) S m hp m S w) {i : Nat} {b b' : Blk} {ks ks' : List Value} {e : Emb} {pl : Place} (hb : hp[i]? = some b) (hk : b.keys = some ks) (hro : b.ro = false) (he : m i = some e) (hpl : e.pl = some pl)
    (hk' : b'.keys = some ks') (hro' : b'.ro = false) (hg' : b'.gen = b.gen) {es es' : Array MapEntry} {clock clock' : Nat} (hobj : w.heap[pl.b]? = some (.map es clock)) (hks : es'.toList.map (·.key) = ks') (hx : RL w S (cond b'.row noEM m) b'.cells (es'.toList.map (·.val)))
    (hbo : MapKept.Stamped es' clock') (hbut : But w pl.b wr) (hobj' : wr.heap[pl.b]? = some (.map es' clock')) : HS w (own0 hp m) S m (hp.set i b') m S wr ∧ Keeps S w wr := by
  have hlt : pl.b < w.heap.size := (Array.getElem?_eq_some_iff.1 hobj).1
  have hbel : Below w.heap.size w (Vm.putO wr pl.b (.map es clock)) := by
    refine ⟨hbut.os, hbut.tape, hbut.out, by simpa [Vm.putO] using hbut.size, fun c hc => ?_⟩
    by_cases hcb : c = pl.b
    · subst hcb; rw [putO_same hobj', hobj]
    · rw [putO_other hcb, hbut.block c hc hcb]
  have h1 := h.grow hbel
  have hk1 : Keeps S w (Vm.putO wr pl.b (.map es clock)) := fun c hc => hbel.block c (h.sok c hc)
  have hR : RL (Vm.putO wr pl.b (.map es clock)) S (cond b'.row noEM m) b'.cells (es'.toList.map (·.val)) := hx.mono hk1 (fun _ h => h) (Ext.refl _)
  obtain ⟨q1, q2⟩ := h1.setMap hb hk hro he hpl hk' hro' hg' es' clock' hks hR hbo
  have e2 : Vm.putO (Vm.putO wr pl.b (.map es clock)) pl.b (.map es' clock') = wr := by
    have : Vm.putO (Vm.putO wr pl.b (.map es clock)) pl.b (.map es' clock') = Vm.putO wr pl.b (.map es' clock') := by
      simp [Vm.putO]
    rw [this, putO_self hobj']
  rw [e2] at q1 q2
  exact ⟨q1, fun c hc => (q2 c hc).trans (hk1 c hc)⟩
end
/-- a function without results that turns its memory -/
theorem fn_turn {P : Program} {f : FuncId} {fn : Func} {c : Code} {args : List AV} {hp hp' : List Blk} (hfn : P.funcs[f]? = some fn) (hbody : fn.body = some c) (hres : fn.results.toList = [])
    (h : ∀ (m : EM) (S : Nat → Prop) (w : World) (args' : List Value), HS w (own0 hp m) S m hp m S w → RL w S m args args' →
      c.wp P (fun e a' w' => (e = .normal ∨ e = .ret) ∧ a'.defers = [] ∧ HS w (own0 hp m) S m hp' m S w')
        { tmps := args'.toArray ++ Array.replicate (fn.ntmps - args'.toArray.size) undef, defers := [] } w) : FnOk P f args hp (.tup []) hp' := by
  intro m S w args' hs hargs
  refine callsIn_wide.1 (callsIn_of_wp_marks (F := Fence.wide) (n := 0) hfn hbody trivial (wpIn_wide.2 ?_) rfl)
  refine wp_mono (h m S w args' hs hargs) ?_
  rintro e a1 w1 ⟨hx, h1, h2⟩
  have hr : fn.results = #[] := by
    apply Array.ext'
    rw [hres]
  have hpost : ∀ w1 : World, HS w (own0 hp m) S m hp' m S w1 → FrR w1 S m .lf a1 → ∃ v, (results fn a1.tmps).run P w1 = .ok v w1 ∧ After w (own0 hp m) S m hp' m S w (.tup []) (.returned v) w1 := by
    intro w1 k1 _
    refine ⟨.tuple #[], ?_, .tuple #[], m, S, rfl, k1, Ext.refl _, fun _ h => h, fun b hb => ?_, R.tup m [] [] rfl (fun j h => absurd h (Nat.not_lt_zero _))⟩
    · unfold results
      rw [hr]
      simp
    · refine k1.frame b (hs.sok b hb) ?_
      rintro ⟨i, blk, e, pl, q1, q2, q3, q4, rfl⟩
      exact ((hs.ro i blk e pl q1 q3 q4).2 q2).1 hb
  have hm : Marks w S w1 a1.defers := by rw [h1]; exact Marks.nil _ _ _
  rcases hx with rfl | rfl
  · exact leave_marks hpost a1.defers w1 h2 (fun i => .top _ _) hm
  · exact leave_marks hpost a1.defers w1 h2 (fun i => .top _ _) hm
/-! lists with entries of their own birth -/
theorem erase_born {e : MapEntry} : ∀ {l : List MapEntry} {j : Nat}, l[j]? = some e → (l.map (·.born)).Nodup → l.eraseIdx j = l.filter (fun x => !(x.born == e.born))
  | [], j, h, _ => by simp at h
  | x :: l, 0, h, hd => by
    simp only [List.getElem?_cons_zero, Option.some.injEq] at h
    subst h
    rw [List.map_cons, List.nodup_cons] at hd
    have : l.filter (fun y => !(y.born == x.born)) = l := by
      rw [List.filter_eq_self]
      intro y hy
      have : y.born ≠ x.born := fun q => hd.1 (q ▸ List.mem_map_of_mem (f := fun x : MapEntry => x.born) hy)
      simp [this]
    simp [this]
  | x :: l, j + 1, h, hd => by
    simp only [List.getElem?_cons_succ] at h
    rw [List.map_cons, List.nodup_cons] at hd
    have hm : e ∈ l := List.mem_of_getElem? h
    have hne : x.born ≠ e.born := fun q => hd.1 (q ▸ List.mem_map_of_mem (f := fun x : MapEntry => x.born) hm)
    rw [List.eraseIdx_cons_succ, erase_born h hd.2]
    simp [hne]
/-- what is left of a map's entries when those that were seen and go are gone -/
def stay (g : MapEntry → Bool) (seen : Array Nat) (l : List MapEntry) : List MapEntry := l.filter fun x => !(seen.contains x.born && g x)
theorem stay_none (g : MapEntry → Bool) (l : List MapEntry) : stay g #[] l = l := by
  unfold stay
  rw [List.filter_eq_self]
  intro x _
  simp
theorem mem_stay {g : MapEntry → Bool} {seen : Array Nat} {l : List MapEntry} {x : MapEntry} (h : x ∈ stay g seen l) : x ∈ l := (List.mem_filter.1 h).1
theorem stay_keep {g : MapEntry → Bool} {seen : Array Nat} {e : MapEntry} {l : List MapEntry} (hm : e ∈ l) (hd : (l.map (·.born)).Nodup) (hg : g e = false) : stay g (seen.push e.born) l = stay g seen l := by
  unfold stay
  refine List.filter_congr fun x hx => ?_
  rw [contains_push]
  by_cases hb : x.born = e.born
  · have : x = e := born_inj hd hx hm hb
    subst this
    simp [hg]
  · have : (e.born == x.born) = false := by simp [Ne.symm hb]
    have h2 : (x.born == e.born) = false := by simp [hb]
    simp [h2]
theorem stay_gone {g : MapEntry → Bool} {seen : Array Nat} {e : MapEntry} {l : List MapEntry} (hm : e ∈ l) (hd : (l.map (·.born)).Nodup) (hg : g e = true) : stay g (seen.push e.born) l = (stay g seen l).filter (fun x => !(x.born == e.born)) := by
  unfold stay
  rw [List.filter_filter]
  refine List.filter_congr fun x hx => ?_
  rw [contains_push]
  by_cases hb : x.born = e.born
  · have : x = e := born_inj hd hx hm hb
    subst this
    simp [hg]
  · have : (e.born == x.born) = false := by simp [Ne.symm hb]
    have h2 : (x.born == e.born) = false := by simp [hb]
    simp [h2]
theorem stay_all {g : MapEntry → Bool} {seen : Array Nat} {l : List MapEntry} (h : ∀ x ∈ stay g seen l, seen.contains x.born = true) : stay g seen l = l.filter fun x => !(g x) := by
  unfold stay at h ⊢
  refine List.filter_congr fun x hx => ?_
  cases hs : seen.contains x.born with
  | true => simp
  | false =>
    have := h x (List.mem_filter.2 ⟨hx, by rw [hs]; rfl⟩)
    rw [hs] at this; cases this
theorem key_inj {l : List MapEntry} (h : l.Pairwise (fun x y => x.key ≠ y.key)) {x y : MapEntry} (hx : x ∈ l) (hy : y ∈ l) (e : x.key = y.key) : x = y := by
  induction l with
  | nil => cases hx
  | cons z l ih =>
    obtain ⟨h1, h2⟩ := List.pairwise_cons.1 h
    rcases List.mem_cons.1 hx with hx' | hx'
    · rcases List.mem_cons.1 hy with hy' | hy'
      · rw [hx', hy']
      · exact absurd (hx' ▸ e) (h1 y hy')
    · rcases List.mem_cons.1 hy with hy' | hy'
      · exact absurd (hy' ▸ e).symm (h1 x hx')
      · exact ih h2 hx' hy'
theorem findK_some {k : Value} (n : Int) (hk : k = .int .i64 n) : ∀ {l : List MapEntry}, (∀ x ∈ l, ∃ m, x.key = .int .i64 m) → ∀ i, ∃ r, findK k (l.map (·.key)) i = some r
  | [], _, i => ⟨none, rfl⟩
  | x :: l, h, i => by
    subst hk
    obtain ⟨m, hm⟩ := h x (List.mem_cons_self ..)
    rw [List.map_cons, hm]
    unfold findK
    have : ∃ b, sameK (.int .i64 n) (.int .i64 m) = some b := ⟨_, rfl⟩
    obtain ⟨b, hb⟩ := this
    rw [hb]
    cases b with
    | true => exact ⟨_, rfl⟩
    | false => exact findK_some n rfl (fun y hy => h y (List.mem_cons_of_mem _ hy)) (i + 1)
end Go.Vm

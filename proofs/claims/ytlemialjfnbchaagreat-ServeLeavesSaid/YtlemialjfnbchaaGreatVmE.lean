/- Regions whose rows are blocks of their own; regions that draw their order, all orders tried. -/
import Derived.Test.YtlemialjfnbchaaGreatVmM

namespace Go.Vm
open Go
/-- a row that is built, as a block of its own -/
def rowV (P : Program) (o : Oper) (t : Tr) (hp : List Blk) : Option (AV × List Blk) :=
  match o.op with
  | .buildSlice ty n parts => (match elemT P ty with
    | some e => (match szT P e, zeroT P e, frzAll hp (parts.toList.map fun (_, x) => ev t x) with
      | some sz, some z, some (vs, hp1) =>
        (match fillA (fun i => some (i * sz, sz)) ((List.replicate n (cellsA (abs1 z))).flatten) ((parts.toList.map (·.1)).zip vs) with
         | some cs => cond (Nat.ble (n * sz) 16777216 && Nat.ble 1 sz && Nat.beq (cellsA (abs1 z)).length sz && Nat.beq cs.length (n * sz) && cs.all imm0)
             (some (.ref hp1.length 0 0 n, hp1 ++ [{ cells := cs, esz := sz, gen := 0, row := true, ro := false }])) none
         | none => none)
      | _, _, _ => none)
    | none => none)
  | _ => none
def opW (P : Program) (ops : Array Oper) (o : Oper) (t : Tr) (hp : List Blk) : Option (Tr × List Blk) :=
  match guardV ops t o with
  | some true => (match rowV P o t hp with | some (v, hp') => some (putV t o.dst v, hp') | none => none)
  | _ => none
def opsW (P : Program) (run : Run) (M : Mode) (ops : Array Oper) (own : Nat → Bool) : List Oper → Nat → Tr → List Blk → Option (Tr × List Blk)
  | [], _, t, hp => some (t, hp)
  | o :: r, i, t, hp => match cond (own i) (opW P ops o t hp) (opV P run M ops o t hp) with
    | some (t', hp') => opsW P run M ops own r (i + 1) t' hp'
    | none => none

section
variable {P : Program} {W0 : World} {O S0 : Nat → Prop} {m0 m : EM} {hp : List Blk} {S : Nat → Prop} {w : World} {t : Tr} {a : Act} {o : Oper}
theorem buildRow_ok (h : HS W0 O S0 m0 hp m S w) (hf : FrR w S m t a) {ty e : TypeId} {n sz : Nat} {z : Value} {parts : Array (Nat × Operand)} {vs cs : List AV} {hp1 : List Blk} (he : P.underlying ty = some (.slice e)) (hsz : szT P e = some sz) (hz : zeroT P e = some z)
    (hfr : frzAll hp (parts.toList.map fun q => ev t q.2) = some (vs, hp1)) (hfill : fillA (fun i => some (i * sz, sz)) ((List.replicate n (cellsA (abs1 z))).flatten) ((parts.toList.map (·.1)).zip vs) = some cs)
    (hb1 : n * sz ≤ 16777216) (_ : 1 ≤ sz) (hzl : (cellsA (abs1 z)).length = sz) (hl : cs.length = n * sz) (hi : cs.all imm0 = true) (ho : o.op = .buildSlice ty n parts) :
    Good P W0 O S0 m0 m S w (execOp a.eval o) (.ref hp1.length 0 0 n) (hp1 ++ [{ cells := cs, esz := sz, gen := 0, row := true, ro := false }]) := by
  obtain ⟨S1, h1, h2, h3⟩ := frzAll_ok _ h hfr (evP_ok hf parts.toList)
  refine Good.weaken h2 ?_
  have hza : z.cells.size = sz := by have := (cells_abs1 (w := w) (S := S) (m := m) z).1; rw [hzl] at this; simpa using this.symm
  have hzeros : RL w S1 m ((List.replicate n (cellsA (abs1 z))).flatten) ((Array.range (n * sz)).map fun i => z.cells[i % z.cells.size]!).toList := by
    rw [zeros_eq z.cells n (n * sz) (by rw [hza])]
    exact rep_RL (cells_abs1 z) n
  have hlen : (parts.toList.map (·.1)).length = vs.length := by rw [List.length_map, h3.1, List.length_map]
  obtain ⟨cs', k1, k2⟩ := fillA_ok _ _ _ _ _ ((Array.range (n * sz)).map fun i => z.cells[i % z.cells.size]!) _ hlen h3 hzeros hfill
  rw [← zipmap] at k1
  have hpt : (parts.map fun (i, x) => (i, a.eval x)).toList = parts.toList.map fun (i, x) => (i, a.eval x) := by simp
  have hrun : (Instr.buildSlice ty n (parts.map fun (i, x) => (i, a.eval x))).run P w = .ok (.slice (some ⟨w.heap.size, 0, none⟩) n n) (w.alloc (.cells cs' e)) := by
    unfold Instr.buildSlice
    simp only [Sem.run_bind, run_underlying he, Result.andThen_ok, szT_run hsz]
    rw [if_neg (by omega)]
    by_cases hn : n * sz = 0
    · have hnz : ((Array.range (n * sz)).map fun i => z.cells[i % z.cells.size]!) = #[] := by rw [hn]; simp
      have hnz2 : ((Array.range (n * sz)).map fun i => (#[] : Array Value)[i % (#[] : Array Value).size]!) = #[] := by rw [hn]; simp
      rw [hnz] at k1
      simp only [Sem.run_bind, Sem.run_pure, Result.andThen_ok, hn, if_true, hpt]
      simp only [hn] at hnz2
      rw [hnz2, k1]
      simp [newRow]
    · rw [if_neg hn]
      simp only [Sem.run_bind, Sem.run_pure, Result.andThen_ok, zeroT_run hz, hpt, k1]
      simp [newRow]
  have hrun2 : (execOp a.eval o).run P w = .ok (.value (.slice (some ⟨w.heap.size, 0, none⟩) n n)) (w.alloc (.cells cs' e)) := by
    simp only [execOp, ho, Sem.run_bind, hrun, Result.andThen_ok, Sem.run_pure]
  have hsize : cs'.size = n * sz := by
    have := k2.1
    rw [← hl, this]; simp
  exact row_ok h1 (rest := []) (by simp) k2 hi (Nat.le_refl n) (by omega) hrun2
theorem rowV_ok (h : HS W0 O S0 m0 hp m S w) (hf : FrR w S m t a) {v : AV} {hp' : List Blk} (hv : rowV P o t hp = some (v, hp')) : Good P W0 O S0 m0 m S w (execOp a.eval o) v hp' := by
  unfold rowV at hv
  split at hv
  · rename_i ty n parts ho
    split at hv
    · rename_i e he
      split at hv
      · rename_i sz z vs hp1 hsz hz hfr
        split at hv
        · rename_i cs hcs
          cases hq : (Nat.ble (n * sz) 16777216 && Nat.ble 1 sz && Nat.beq (cellsA (abs1 z)).length sz && Nat.beq cs.length (n * sz) && cs.all imm0) with
          | false => rw [hq] at hv; cases hv
          | true =>
            rw [hq, cond_true] at hv
            simp only [Bool.and_eq_true] at hq
            obtain ⟨⟨⟨⟨q1, q2⟩, q3⟩, q4⟩, q5⟩ := hq
            have he' : P.underlying ty = some (.slice e) := by
              unfold elemT at he
              split at he
              · rename_i e2 h2; cases he; exact h2
              · cases he
            cases hv
            exact buildRow_ok h hf he' hsz hz hfr hcs (Nat.le_of_ble_eq_true q1) (Nat.le_of_ble_eq_true q2) (Nat.eq_of_beq_eq_true q3) (Nat.eq_of_beq_eq_true q4) q5 ho
        · cases hv
      · cases hv
    · cases hv
  · cases hv
variable {N : Nat} {t' : Tr} {hp' : List Blk}
theorem opW_ok {ops : Array Oper} {i : Nat} {Q : Exit → Act → World → Prop} {K : Act → World → Prop} (hi : ops[i]? = some o) (hd : ∀ d, o.dst = some d → d < N) (hb : N < 16383)
    (h : opW P ops o t hp = some (t', hp')) (hs : Sim W0 O S0 m0 N t hp a w) (hK : ∀ a' w', Sim W0 O S0 m0 N t' hp' a' w' → K a' w') : wpOp P ops Q i K a w := by
  obtain ⟨m, S, h1, h2, h3, h4, h5⟩ := hs
  unfold opW at h
  unfold wpOp
  rw [hi]
  simp only
  split at h
  · rename_i hg
    rw [guard_ok h3 hg]
    simp only [if_true]
    left
    split at h
    · rename_i v hp1 hv
      cases h
      obtain ⟨nx, w', m', S', k1, k2, k3, k4, k5, k6⟩ := rowV_ok h1 h3 hv
      have fin : ∀ {u : Value}, R w' S' m' v u → K (a.put o.dst u) w' := by
        intro u k2
        refine hK _ _ ⟨m', S', k3, h2.trans k4, ?_, by rw [put_size, h4], by rw [put_defers]; exact h5.mono k6 k5⟩
        exact (h3.mono k6 k5 k4).put k2 _ (fun i hi => by rw [h4]; exact hd i hi) (by omega)
      unfold Oper.wp
      rw [k1]
      cases nx with
      | value u => exact fin k2
      | skip =>
        have : v = .p undef := k2
        subst this
        exact fin (.p _ _)
      | _ => exact absurd k2 (by simp [Gives])
    · cases h
  · cases h
theorem opsW_ok {run : Run} {M : Mode} {ops : Array Oper} {own : Nat → Bool} {Q : Exit → Act → World → Prop} (hrun : RunOk P run) (hb : N < 16383) (hd : ∀ o ∈ ops.toList, ∀ d, o.dst = some d → d < N) :
    ∀ (l : List Oper) (k : Nat) (t : Tr) (hp : List Blk) (a : Act) (w : World), (∀ j, l[j]? = ops[k + j]?) → opsW P run M ops own l k t hp = some (t', hp') → Sim W0 O S0 m0 N t hp a w → (∀ a' w', Sim W0 O S0 m0 N t' hp' a' w' → Q .normal a' w') →
      wpOps P ops Q (List.range' k l.length) a w
  | [], k, t, hp, a, w, hl, h, hs, hQ => by
    simp only [opsW] at h
    cases h
    exact hQ _ _ hs
  | o :: l, k, t, hp, a, w, hl, h, hs, hQ => by
    simp only [opsW] at h
    split at h
    · rename_i t1 hp1 ho
      have hk : ops[k]? = some o := by have := hl 0; simpa using this.symm
      have hmem : o ∈ ops.toList := by
        obtain ⟨hlt, e⟩ := Array.getElem?_eq_some_iff.1 hk
        rw [← e]; simp
      rw [List.length_cons, List.range'_succ, wpOps_cons]
      have next : ∀ a' w', Sim W0 O S0 m0 N t1 hp1 a' w' → wpOps P ops Q (List.range' (k + 1) l.length) a' w' := fun a' w' hs' =>
        opsW_ok hrun hb hd l (k + 1) t1 hp1 a' w' (fun j => by have := hl (j + 1); simp only [List.getElem?_cons_succ] at this; rw [this]; congr 1; omega) h hs' hQ
      cases hown : own k with
      | true => rw [hown, cond_true] at ho; exact opW_ok hk (hd o hmem) hb ho hs next
      | false => rw [hown, cond_false] at ho; exact opV_ok hrun hk (hd o hmem) hb ho hs next
    · cases h

end
section
variable {P : Program} {N K : Nat} {run : Run} {M : Mode}
/-- a region, some of its rows blocks of their own -/
theorem Tri.own (hrun : RunOk P run) (hN : N < 16383) {id : Nat} {ops : Array Oper} {own : Nat → Bool} {t t' : Tr} {hp hp' : List Blk} {Post : Ex → Tr → List Blk → Prop} (hd : dstsOk N ops = true)
    (h : opsW P run M ops own ops.toList 0 t hp = some (t', hp')) (hq : Post .nrm t' hp') : Tri P N K (.region id ops false) t hp Post := by
  intro W0 O S0 m0 a w hm hs
  refine wp_region ?_
  have := opsW_ok (Q := fun e a' w' => ∃ x t' hp', e = exOf x ∧ Post x t' hp' ∧ Sim W0 O S0 m0 N t' hp' a' w') hrun hN (dsts_ok hd) ops.toList 0 t hp a w (fun j => by simp) h hs (fun a' w' hs' => ⟨.nrm, t', hp', rfl, hq, hs'⟩)
  rwa [Array.length_toList, ← List.range_eq_range'] at this
/-- a region that draws its order -/
theorem Tri.any (hrun : RunOk P run) (hN : N < 16383) {id : Nat} {ops : Array Oper} {t t' : Tr} {hp hp' : List Blk} {Post : Ex → Tr → List Blk → Prop} (hm' : P.follows .mixedOrders = true) (hd : dstsOk N ops = true)
    (h : anyV P run M ops t' hp' ops.size (Array.replicate ops.size false) t hp = true) (hq : Post .nrm t' hp') : Tri P N K (.region id ops true) t hp Post := by
  intro W0 O S0 m0 a w hm hs
  refine wp_region_any hm' ?_
  have hs1 : Sim W0 O S0 m0 N t hp a w.drew := by
    obtain ⟨m, S, k1, k2, k3, k4, k5⟩ := hs
    exact ⟨m, S, k1.drew, k2, k3.drew, k4, k5⟩
  exact anyV_ok hrun hN (dsts_ok hd) (fun a' w' hs' => ⟨.nrm, t', hp', rfl, hq, hs'⟩) _ _ _ _ _ _ h hs1
/-- a scope, its jumps run through behind the first one -/
theorem Tri.scopeV (hrun : RunOk P run) (hN : N < 16383) {n k : Nat} {c : Code} {t : Tr} {hp : List Blk} {Post : Ex → Tr → List Blk → Prop}
    (h : Tri P N K c t hp (fun x t1 hp1 => (∃ l rest x2 t2 hp2, x = .goto l ∧ findLabel c l = some rest ∧ scopeR (exV P run M N n) c k rest t1 hp1 = some (x2, t2, hp2) ∧ Post x2 t2 hp2) ∨ ((∀ l, x ≠ .goto l) ∧ Post x t1 hp1))) : Tri P N K (.scope c) t hp Post := by
  intro W0 O S0 m0 a w hm hs b kk cs
  obtain ⟨e, a1, w1, ⟨x, t1, hp1, rfl, hP, hs1⟩, harr⟩ := h W0 O S0 m0 a w hm hs b (.inScope c :: kk) cs
  rcases hP with ⟨l, rest, x2, t2, hp2, rfl, hr, hsc, hq⟩ | ⟨hne, hq⟩
  · obtain ⟨e2, a2, w2, ⟨rfl, hs2⟩, harr2⟩ := scope_ok (fun c t hp x t' hp' a w h hs => (exV_both (M := M) hrun hN n).1 c t hp x t' hp' a w h hs) k rest t1 hp1 a1 w1 hsc hs1 b kk cs
    refine ⟨_, a2, w2, ⟨x2, t2, hp2, rfl, hq, hs2⟩, .of_steps (.one step_scope) (.of_steps (harr _ ?_) harr2)⟩
    simp [gotoIn, hr]
  · refine ⟨exOf x, a1, w1, ⟨x, t1, hp1, rfl, hq, hs1⟩, .of_steps (.one step_scope) ?_⟩
    cases x with
    | nrm => exact Steps.trans harr (.one step_inScope)
    | exit id => exact fun k' hk => harr k' (by simp [exitTo, hk])
    | goto l => exact absurd rfl (hne l)
    | ret => exact harr
/-- code that the evaluator runs through, of its end some slots alone -/
theorem Tri.lastV (hrun : RunOk P run) (hN : N < 16383) {n : Nat} {c : Code} {t : Tr} {hp : List Blk} {Post : Ex → Tr → List Blk → Prop} {keep : List Nat} {vals : List AV} {x : Ex}
    (h : (exV P run M N n c t hp).map (fun q => (q.1, keep.map q.2.1.get)) = some (x, vals)) (hq : ∀ t' hp', keep.map t'.get = vals → Post x t' hp') : Tri P N K c t hp Post := by
  cases he : exV P run M N n c t hp with
  | none => rw [he] at h; cases h
  | some q =>
    obtain ⟨y, t', hp'⟩ := q
    rw [he] at h
    cases h
    exact Tri.run hrun hN he (hq t' hp' rfl)
end
/-! ### codes one behind the other, each in its own way -/
inductive Stp where
  | v (c : Code)
  | own (c : Code) (k : Nat → Bool)
  | any (c : Code)
def Stp.code : Stp → Code
  | .v c => c
  | .own c _ => c
  | .any c => c
def stpX (P : Program) (run : Run) (M : Mode) (N n : Nat) : Stp → Tr → List Blk → Option (Ex × Tr × List Blk)
  | .v c, t, hp => exV P run M N n c t hp
  | .own (.region _ ops false) k, t, hp => cond (dstsOk N ops) (match opsW P run M ops k ops.toList 0 t hp with | some (t', hp') => some (.nrm, t', hp') | none => none) none
  | .any (.region _ ops true), t, hp => cond (dstsOk N ops && P.follows .mixedOrders) (match opsV P run M ops ops.toList t hp with
    | some (t', hp') => cond (anyV P run M ops t' hp' ops.size (Array.replicate ops.size false) t hp) (some (.nrm, t', hp')) none
    | none => none) none
  | _, _, _ => none
def stpsX (P : Program) (run : Run) (M : Mode) (N n : Nat) : List Stp → Tr → List Blk → Option (Ex × Tr × List Blk)
  | [], t, hp => some (.nrm, t, hp)
  | [s], t, hp => stpX P run M N n s t hp
  | s :: r, t, hp => match stpX P run M N n s t hp with
    | some (.nrm, t', hp') => stpsX P run M N n r t' hp'
    | e => e
def stpsC : List Stp → Code
  | [] => .skip
  | [s] => s.code
  | s :: r => .seq s.code (stpsC r)
section
variable {P : Program} {N K : Nat} {run : Run} {M : Mode}
theorem Tri.stp (hrun : RunOk P run) (hN : N < 16383) {n : Nat} {s : Stp} {t t' : Tr} {hp hp' : List Blk} {x : Ex} {Post : Ex → Tr → List Blk → Prop} (h : stpX P run M N n s t hp = some (x, t', hp')) (hq : Post x t' hp') : Tri P N K s.code t hp Post := by
  unfold stpX at h
  split at h
  · exact Tri.run hrun hN h hq
  · rename_i id ops k
    cases hd : dstsOk N ops with
    | false => rw [hd] at h; cases h
    | true =>
      rw [hd, cond_true] at h
      split at h
      · rename_i t1 hp1 e1
        cases h
        exact Tri.own hrun hN hd e1 hq
      · cases h
  · rename_i id ops
    cases hd : (dstsOk N ops && P.follows .mixedOrders) with
    | false => rw [hd] at h; cases h
    | true =>
      rw [hd, cond_true] at h
      rw [Bool.and_eq_true] at hd
      split at h
      · rename_i t1 hp1 e1
        cases ha : anyV P run M ops t1 hp1 ops.size (Array.replicate ops.size false) t hp with
        | false => rw [ha] at h; cases h
        | true =>
          rw [ha] at h
          cases h
          exact Tri.any hrun hN hd.2 hd.1 ha hq
      · cases h
  · cases h
theorem Tri.stps (hrun : RunOk P run) (hN : N < 16383) {n : Nat} : ∀ {l : List Stp} {t t' : Tr} {hp hp' : List Blk} {x : Ex} {Post : Ex → Tr → List Blk → Prop}, stpsX P run M N n l t hp = some (x, t', hp') → Post x t' hp' → l ≠ [] → Tri P N K (stpsC l) t hp Post
  | [], _, _, _, _, _, _, _, _, hne => absurd rfl hne
  | [s], _, _, _, _, _, _, h, hq, _ => Tri.stp hrun hN h hq
  | s :: s2 :: r, t, t', hp, hp', x, Post, h, hq, _ => by
    unfold stpsX at h
    split at h
    · rename_i t1 hp1 e1
      refine Tri.seq (Mid := fun x t hp => x = .nrm ∧ t = t1 ∧ hp = hp1) (Tri.stp hrun hN e1 ⟨rfl, rfl, rfl⟩) ?_ (fun x t hp hx q => absurd q.1 hx)
      rintro t hp ⟨_, rfl, rfl⟩
      exact Tri.stps hrun hN h hq (by simp)
    · rename_i e hne
      refine Tri.seq (Mid := fun y t hp => y = x ∧ t = t' ∧ hp = hp') (Tri.stp hrun hN h ⟨rfl, rfl, rfl⟩) ?_ ?_
      · rintro t1 hp1 ⟨rfl, rfl, rfl⟩
        exact absurd h (hne _ _)
      · rintro y t1 hp1 hy ⟨rfl, rfl, rfl⟩
        exact hq
end
end Go.Vm

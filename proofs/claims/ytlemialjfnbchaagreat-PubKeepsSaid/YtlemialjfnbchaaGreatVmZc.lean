/- Calls with fewer renamings: a block whose cells lead to no block stays as it is. All the same in what they tell. -/
import Derived.Test.YtlemialjfnbchaaGreatVmZa

namespace Go.Vm
open Go
def flatB (b : Blk) : Bool := b.row || b.cells.all imm0
theorem ren_imm0 {x : AV} (ρ : Nat → Option Nat) (h : imm0 x = true) : ren ρ x = x := by cases x <;> first | rfl | cases h
theorem ids_imm0 {x : AV} (h : imm0 x = true) : ids x = [] := by cases x <;> first | rfl | cases h
theorem map_imm0 (ρ : Nat → Option Nat) : ∀ {xs : List AV}, xs.all imm0 = true → xs.map (ren ρ) = xs
  | [], _ => rfl
  | x :: xs, h => by
    rw [List.all_cons, Bool.and_eq_true] at h
    rw [List.map_cons, ren_imm0 ρ h.1, map_imm0 ρ h.2]
theorem flat_ids : ∀ {xs : List AV}, xs.all imm0 = true → xs.flatMap ids = []
  | [], _ => rfl
  | x :: xs, h => by
    rw [List.all_cons, Bool.and_eq_true] at h
    rw [List.flatMap_cons, ids_imm0 h.1, flat_ids h.2]; rfl
def renBq (ρ : Nat → Option Nat) (b : Blk) : Blk := cond (flatB b) b { b with cells := b.cells.map (ren ρ) }
theorem renBq_eq (ρ : Nat → Option Nat) (b : Blk) : renBq ρ b = renB ρ b := by
  obtain ⟨c, e, g, w, ro, k⟩ := b
  unfold renBq renB flatB
  cases w with
  | true => rfl
  | false =>
    cases hc : c.all imm0 with
    | false => simp only; rfl
    | true =>
      simp only [map_imm0 ρ hc]
      rfl
def idsB (b : Blk) : List Nat := cond (flatB b) [] (b.cells.flatMap ids)
theorem idsB_eq (b : Blk) : idsB b = cond b.row [] (b.cells.flatMap ids) := by
  unfold idsB flatB
  cases hr : b.row with
  | true => rfl
  | false =>
    cases hc : b.cells.all imm0 with
    | false => rfl
    | true => show [] = b.cells.flatMap ids; rw [flat_ids hc]
def reachQ (hp : List Blk) : Nat → List Nat → List Nat → List Nat
  | 0, _, acc => acc
  | _ + 1, [], acc => acc
  | n + 1, i :: todo, acc =>
    cond (memB i acc) (reachQ hp n todo acc)
      (match hp[i]? with
       | some b => reachQ hp n (cond (flatB b) todo (b.cells.flatMap ids ++ todo)) (acc ++ [i])
       | none => reachQ hp n todo acc)
theorem reachQ_eq (hp : List Blk) : ∀ (n : Nat) (todo acc : List Nat), reachQ hp n todo acc = reach hp n todo acc
  | 0, todo, acc => rfl
  | n + 1, [], acc => rfl
  | n + 1, i :: todo, acc => by
    unfold reachQ reach
    have e : ∀ b : Blk, cond (flatB b) todo (b.cells.flatMap ids ++ todo) = cond b.row todo (b.cells.flatMap ids ++ todo) := by
      intro b
      unfold flatB
      cases hr : b.row with
      | true => rfl
      | false =>
        cases hc : b.cells.all imm0 with
        | false => rfl
        | true => show todo = b.cells.flatMap ids ++ todo; rw [flat_ids hc]; rfl
    rw [reachQ_eq hp n todo acc]
    cases hi : hp[i]? with
    | none => simp only
    | some b => simp only [e, reachQ_eq hp n]
def pickBq (hp : List Blk) (ρ : Nat → Option Nat) : List Nat → Option (List Blk)
  | [] => some []
  | i :: r => match hp[i]?, pickBq hp ρ r with
    | some b, some l => some (renBq ρ b :: l)
    | _, _ => none
theorem pickBq_eq (hp : List Blk) (ρ : Nat → Option Nat) : ∀ js : List Nat, pickBq hp ρ js = pickB hp ρ js
  | [] => rfl
  | i :: r => by
    unfold pickBq pickB
    rw [pickBq_eq hp ρ r]
    cases hp[i]? with
    | none => rfl
    | some b =>
      cases pickB hp ρ r with
      | none => rfl
      | some l => show some (renBq ρ b :: l) = some (renB ρ b :: l); rw [renBq_eq]
def backBq (hp : List Blk) (ρ : Nat → Option Nat) : List Nat → List Blk → List Blk
  | [], _ => hp
  | _, [] => hp
  | i :: r, b :: bs => (backBq hp ρ r bs).set i (renBq ρ b)
theorem backBq_eq (hp : List Blk) (ρ : Nat → Option Nat) : ∀ (js : List Nat) (bs : List Blk), backBq hp ρ js bs = backB hp ρ js bs
  | [], bs => by cases bs <;> rfl
  | i :: r, [] => rfl
  | i :: r, b :: bs => by
    unfold backBq backB
    rw [backBq_eq hp ρ r bs, renBq_eq]
def callR (run : FuncId → List AV → List Blk → Option (AV × List Blk)) (f : FuncId) (args1 : List AV) (hp1 : List Blk) (js : List Nat) : Option (AV × List Blk) :=
  match pickBq hp1 (posOf js) js with
  | none => none
  | some sub =>
    match run f (args1.map (ren (posOf js))) sub with
    | some (r, hp2) => some (ren (backMap js hp1.length) r, backBq hp1 (backMap js hp1.length) js hp2 ++ (hp2.drop js.length).map (renBq (backMap js hp1.length)))
    | none => none
def callQ (run : FuncId → List AV → List Blk → Option (AV × List Blk)) (M : Mode) (f : FuncId) (args : List AV) (hp : List Blk) : Option (AV × List Blk) :=
  match cond (M.byref f) (some (args, hp)) (frzAll hp args) with
  | none => none
  | some (args1, hp1) => callR run f args1 hp1 (reachQ hp1 1000 (args1.flatMap ids) [])
theorem callQ_eq (run : FuncId → List AV → List Blk → Option (AV × List Blk)) (M : Mode) (f : FuncId) (args : List AV) (hp : List Blk) : callQ run M f args hp = callV run M f args hp := by
  unfold callQ callV
  cases cond (M.byref f) (some (args, hp)) (frzAll hp args) with
  | none => rfl
  | some q =>
    obtain ⟨args1, hp1⟩ := q
    simp only
    rw [reachQ_eq]
    unfold callR
    rw [pickBq_eq]
    generalize reach hp1 1000 (args1.flatMap ids) [] = js
    cases pickB hp1 (posOf js) js with
    | none => rfl
    | some sub =>
      simp only
      cases run f (args1.map (ren (posOf js))) sub with
      | none => rfl
      | some r =>
        obtain ⟨r, hp2⟩ := r
        simp only
        rw [backBq_eq, show renBq (backMap js hp1.length) = renB (backMap js hp1.length) from funext (renBq_eq _)]
def opVq (P : Program) (run : FuncId → List AV → List Blk → Option (AV × List Blk)) (M : Mode) (ops : Array Oper) (o : Oper) (t : Tr) (hp : List Blk) : Option (Tr × List Blk) :=
  match guardV ops t o with
  | none => none
  | some false => some (putV t o.dst (.p undef), hp)
  | some true =>
    match vop P o t hp with
    | none => none
    | some (.val v hp') => some (putV t o.dst v, hp')
    | some (.call f args) =>
      match callQ run M f args hp with
      | none => none
      | some (v, hp') => some (putV t o.dst v, hp')
theorem opVq_eq (P : Program) (run : FuncId → List AV → List Blk → Option (AV × List Blk)) (M : Mode) (ops : Array Oper) (o : Oper) (t : Tr) (hp : List Blk) : opVq P run M ops o t hp = opV P run M ops o t hp := by
  unfold opVq opV
  cases guardV ops t o with
  | none => rfl
  | some b => cases b with
    | false => rfl
    | true =>
      simp only
      cases vop P o t hp with
      | none => rfl
      | some x => cases x with
        | val v hp' => rfl
        | call f args => simp only [callQ_eq]; rfl
def callGq (P : Program) (run : FuncId → List AV → List Blk → Option (AV × List Blk)) (M : Mode) (mask : Nat) (pend : Pend) (f : FuncId) (args : List AV) (hp : List Blk) : Option (AV × List Blk) :=
  match cond (M.byref f) (some (args, hp)) (frzAll hp args) with
  | none => none
  | some (args1, hp1) =>
    match callQ run M f args hp with
    | some (r, hp') =>
      cond (pendC P mask pend (reachQ hp1 1000 (args1.flatMap ids) []) hp hp' || sameBs hp hp') (some (r, hp')) none
    | none => none
theorem callGq_eq (P : Program) (run : FuncId → List AV → List Blk → Option (AV × List Blk)) (M : Mode) (mask : Nat) (pend : Pend) (f : FuncId) (args : List AV) (hp : List Blk) : callGq P run M mask pend f args hp = callG P run M mask pend f args hp := by
  unfold callGq callG
  simp only [callQ_eq, reachQ_eq]
  rfl
def opGq (P : Program) (run : FuncId → List AV → List Blk → Option (AV × List Blk)) (M : Mode) (mask : Nat) (pend : Pend) (ops : Array Oper) (o : Oper) (t : Tr) (hp : List Blk) : Option (Tr × List Blk) :=
  match guardV ops t o with
  | none => none
  | some false => some (putV t o.dst (.p undef), hp)
  | some true =>
    match cond (plainB t o.op || nbOf ops) (vop P o t hp) none with
    | none => none
    | some (.val v hp') => cond (!(writes o.op) || pendC P mask pend (o.op.operands.toList.flatMap fun x => ids (ev t x)) hp hp') (some (putV t o.dst v, hp')) none
    | some (.call f args) =>
      match cond (light o.op) none (callGq P run M mask pend f args hp) with
      | none => none
      | some (v, hp') => some (putV t o.dst v, hp')
theorem opGq_eq (P : Program) (run : FuncId → List AV → List Blk → Option (AV × List Blk)) (M : Mode) (mask : Nat) (pend : Pend) (ops : Array Oper) (o : Oper) (t : Tr) (hp : List Blk) : opGq P run M mask pend ops o t hp = opG P run M mask pend ops o t hp := by
  unfold opGq opG
  simp only [callGq_eq]
  rfl
def gcQ (n : Nat) (r : AV) (hp : List Blk) : Option (AV × List Blk) :=
  match reachQ hp 1000 (ids r ++ (hp.take n).flatMap idsB) (List.range n) with
  | js => (match pickBq hp (posOf js) js with
    | some sub => some (ren (posOf js) r, sub)
    | none => none)
theorem gcQ_eq (n : Nat) (r : AV) (hp : List Blk) : gcQ n r hp = gcV n r hp := by
  unfold gcQ gcV
  simp only [reachQ_eq, pickBq_eq, show idsB = (fun b : Blk => cond b.row [] (b.cells.flatMap ids)) from funext idsB_eq]
  rfl
noncomputable def resC (P : Program) (n : Nat) (rs : List ResultVar) : Option (Ex × Tr × List Blk) → Option (AV × List Blk)
  | some (.nrm, t, hp') | some (.ret, t, hp') => (match resV P t hp' rs with
    | some [v] => gcQ n v hp'
    | some vs => gcQ n (.tup vs) hp'
    | none => none)
  | _ => none
theorem resC_eq (P : Program) (n : Nat) (rs : List ResultVar) (x : Option (Ex × Tr × List Blk)) : resC P n rs x = resQ P n rs x := by
  unfold resC resQ
  simp only [gcQ_eq]
  rfl
end Go.Vm

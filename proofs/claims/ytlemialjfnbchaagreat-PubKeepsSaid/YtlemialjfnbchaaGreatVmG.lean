/- Runs along one path, through calls. -/
import Derived.Test.YtlemialjfnbchaaGreatVmW

namespace Go.Vm
open Go

abbrev Run := FuncId → List AV → List Blk → Option (AV × List Blk)
abbrev RunT := FuncId → List AV → List Blk → St → Option (AV × List Blk × St)
def callS (run : RunT) (M : Mode) (f : FuncId) (args : List AV) (hp : List Blk) (st : St) : Option (AV × List Blk × St) :=
  match cond (M.byref f) (some (args, hp)) (frzAll hp args) with
  | none => none
  | some (args1, hp1) =>
    let js := reach hp1 1000 (args1.flatMap ids) []
    match pickB hp1 (posOf js) js with
    | none => none
    | some sub =>
      match run f (args1.map (ren (posOf js))) sub st with
      | some (r, hp2, st2) => some (ren (backMap js hp1.length) r, backB hp1 (backMap js hp1.length) js hp2 ++ (hp2.drop js.length).map (renB (backMap js hp1.length)), st2)
      | none => none
/-- an entry of this type: what was read in a drawn region ahead of a call, and is the same behind it, is noted, not compared -/
def supTag4 : Nat := 4294967292
def okV : Value → Bool
  | .bool _ | .int _ _ | .float _ _ | .complex _ _ _ | .string _ | .pointer none | .slice none _ _ | .nilFunc | .nilIface | .map none => true
  | _ => false
def okUp (e : AV → Bool) : AV → Bool
  | .p u => okV u
  | .emp | .ref _ _ _ _ | .ptr _ _ _ | .mp _ _ => true
  | .lst _ xs | .lit _ xs | .agg xs => xs.all e
  | _ => false
def okE : AV → Bool := okUp (okUp (okUp (okUp (okUp (okUp fun _ => false)))))
theorem okV_ok {v : Value} (h : okV v = true) : eqV v v = true := by
  unfold okV at h
  split at h <;> first | (simp [eqV]; done) | cases h
theorem eqList_refl {e : AV → Bool} {f : AV → AV → Bool} (hf : ∀ x, e x = true → f x x = true) : ∀ {xs : List AV}, xs.all e = true → eqList f xs xs = true
  | [], _ => rfl
  | x :: xs, h => by
    rw [List.all_cons, Bool.and_eq_true] at h
    simp only [eqList, hf x h.1, eqList_refl hf h.2, Bool.and_self]
theorem okUp_ok {e : AV → Bool} {f : AV → AV → Bool} (hf : ∀ x, e x = true → f x x = true) : ∀ x, okUp e x = true → eqUp f x x = true := by
  intro x h
  cases x with
  | p u => exact okV_ok h
  | emp => rfl
  | ref i g k n => simp [eqUp]
  | ptr i g k => simp [eqUp]
  | mp i g => simp [eqUp]
  | lst n xs => simp only [eqUp, Nat.beq_refl, Bool.true_and]; exact eqList_refl hf h
  | lit n xs => simp only [eqUp, Nat.beq_refl, Bool.true_and]; exact eqList_refl hf h
  | agg xs => exact eqList_refl hf h
  | _ => cases h
theorem okE_ok {x : AV} (h : okE x = true) : eqA x x = true :=
  okUp_ok (okUp_ok (okUp_ok (okUp_ok (okUp_ok (okUp_ok (fun _ h => by cases h)))))) x h
def pendN (P : Program) (mask : Nat) (bs : List Nat) (hp hp' : List Blk) : Pend → Option (List (AV × AV))
  | [] => some []
  | q :: r => match pendN P mask bs hp hp' r with
    | none => none
    | some l => cond (mask.testBit q.1 || (q.2.1.all fun j => !(memB j bs))) (some l)
      (match q.2.2 with
       | some (ty, a) => (match rdV P hp ty a, rdV P hp' ty a with
         | some v, some v' => cond (okE v) (some ((v', v) :: l)) none
         | _, _ => none)
       | none => none)
theorem pendN_ok {P : Program} {mask : Nat} {bs : List Nat} {hp hp' : List Blk} : ∀ {pend : Pend} {l : List (AV × AV)}, pendN P mask bs hp hp' pend = some l → (∀ c ∈ l, c.1 = c.2) → pendC P mask pend bs hp hp' = true
  | [], l, _, _ => rfl
  | q :: r, l, h, hh => by
    unfold pendN at h
    split at h
    · cases h
    · rename_i l1 h1
      unfold pendC
      rw [List.all_cons, Bool.and_eq_true]
      cases hc : (mask.testBit q.1 || (q.2.1.all fun j => !(memB j bs))) with
      | true =>
        rw [hc, cond_true] at h
        cases h
        exact ⟨by rw [Bool.true_or], pendN_ok h1 hh⟩
      | false =>
        rw [hc, cond_false] at h
        split at h
        · rename_i ty a hq
          split at h
          · rename_i v v' h2 h3
            cases ho : okE v with
            | false => rw [ho] at h; cases h
            | true =>
              rw [ho, cond_true] at h
              cases h
              have hv := hh _ (List.mem_cons_self ..)
              simp only at hv
              subst hv
              refine ⟨?_, pendN_ok h1 (fun c hc => hh c (List.mem_cons_of_mem _ hc))⟩
              unfold rdEq
              simp only [hq, h2, h3, okE_ok ho, Bool.or_true]
          · cases h
        · cases h
def noteS (P : Program) (mask : Nat) (pend : Pend) (bs : List Nat) (hp hp' : List Blk) : St → Option St
  | ((0, .ifc tag _) :: rest, cs) => cond (Nat.beq tag supTag4) (match pendN P mask bs hp hp' pend with | some l => some (rest, l ++ cs) | none => none) none
  | _ => none
theorem noteS_ok {P : Program} {mask : Nat} {pend : Pend} {bs : List Nat} {hp hp' : List Blk} {st st' : St} (h : noteS P mask pend bs hp hp' st = some st') : Later st st' ∧ (Hold st'.2 → pendC P mask pend bs hp hp' = true) := by
  unfold noteS at h
  split at h
  · rename_i tag v rest cs
    cases hc : Nat.beq tag supTag4 with
    | false => rw [hc] at h; cases h
    | true =>
      rw [hc, cond_true] at h
      split at h
      · rename_i l hl
        cases h
        exact ⟨⟨l, rfl⟩, fun hh => pendN_ok hl (fun c hc => hh c (List.mem_append.2 (.inl hc)))⟩
      · cases h
  · cases h
def callGS (P : Program) (run : RunT) (M : Mode) (mask : Nat) (pend : Pend) (f : FuncId) (args : List AV) (hp : List Blk) (st : St) : Option (AV × List Blk × St) :=
  match cond (M.byref f) (some (args, hp)) (frzAll hp args) with
  | none => none
  | some (args1, hp1) =>
    match callS run M f args hp st with
    | some (r, hp', st') =>
      match noteS P mask pend (reach hp1 1000 (args1.flatMap ids) []) hp hp' st' with
      | some st'' => some (r, hp', st'')
      | none => cond (pendC P mask pend (reach hp1 1000 (args1.flatMap ids) []) hp hp' || sameBs hp hp') (some (r, hp', st')) none
    | none => none
/-- an entry of this type is a value that is supplied: the operation is not evaluated, what it gives is noted -/
def supTag : Nat := 4294967295
def outAV : Option Out → AV
  | some (.val v _) => v
  | _ => .top
def isTop : AV → Bool
  | .top => true
  | _ => false
/-- a string of bytes: what it is told to be, without the memory -/
def strX (P : Program) (o : Oper) (t : Tr) (hp : List Blk) : Option AV :=
  match o.op with
  | .convert src dst x => (match P.underlying src, P.underlying dst with
    | some (.slice e), some .string => (match P.underlying e, elemsOf hp (ev t x) with
      | some (.int .u8), some (n, xs) => (match ev t x with
        | .p (.string _) => none
        | _ => cond (Nat.beq xs.length n) (some (outAV (match strOf xs with | some l => some (.val (.p (.string ⟨l.toArray⟩)) []) | none => none))) none)
      | _, _ => none)
    | _, _ => none)
  | _ => none
theorem strX_eq {P : Program} {o : Oper} {t : Tr} {hp : List Blk} {u : AV} (h : strX P o t hp = some u) : outAV (vop P o t hp) = u := by
  unfold strX at h
  split at h
  · rename_i src dst x ho
    split at h
    · rename_i e h1 h2
      split at h
      · rename_i n xs h3 h4
        split at h
        · cases h
        · rename_i hne
          cases hc : Nat.beq xs.length n with
          | false => rw [hc] at h; cases h
          | true =>
            rw [hc, cond_true] at h
            cases h
            unfold vop
            simp only [ho, h1, h2, h3, h4, hc, cond_true]
            cases hs : strOf xs with
            | none => rfl
            | some l => rfl
      · cases h
    · cases h
  · cases h
def suppX (P : Program) (o : Oper) (t : Tr) (hp : List Blk) : AV := match strX P o t hp with
  | some u => u
  | none => outAV (vop P o t hp)
theorem suppX_eq (P : Program) (o : Oper) (t : Tr) (hp : List Blk) : suppX P o t hp = outAV (vop P o t hp) := by
  unfold suppX
  split
  · rename_i u h; exact (strX_eq h).symm
  · rfl
def supplied (P : Program) (o : Oper) (t : Tr) (hp : List Blk) : St → Option (AV × St)
  | ((0, .ifc tag v) :: r, cs) => cond (Nat.beq tag supTag && light o.op && plainB t o.op && !(isTop v)) (some (v, (r, (suppX P o t hp, v) :: cs))) none
  | _ => none
/-- an entry of this type is what an operation gives together with the memory behind it: it is not evaluated, what it gives is noted -/
def supTag2 : Nat := 4294967294
def encB (b : Blk) : AV := match b.keys with
  | none => .tup [.agg b.cells, .ref b.esz b.gen 0 0, .p (.bool b.row), .p (.bool b.ro)]
  | some ks => .tup [.agg b.cells, .ref b.esz b.gen 0 0, .p (.bool b.row), .p (.bool b.ro), .agg (ks.map .p)]
def decB : AV → Option Blk
  | .tup [.agg cells, .ref esz gen _ _, .p (.bool row), .p (.bool ro)] => some { cells := cells, esz := esz, gen := gen, row := row, ro := ro }
  | .tup [.agg cells, .ref esz gen _ _, .p (.bool row), .p (.bool ro), .agg kk] => (match concL kk with | some ks => some { cells := cells, esz := esz, gen := gen, row := row, ro := ro, keys := some ks } | none => none)
  | _ => none
def decH : List AV → Option (List Blk)
  | [] => some []
  | x :: r => match decB x, decH r with
    | some b, some l => some (b :: l)
    | _, _ => none
theorem concL_p : ∀ ks : List Value, concL (ks.map .p) = some ks
  | [] => rfl
  | k :: ks => by rw [List.map_cons, concL, concL_p ks]; rfl
theorem decB_enc (b : Blk) : decB (encB b) = some b := by
  unfold encB
  cases hk : b.keys with
  | none => cases b; cases hk; rfl
  | some ks =>
    cases b
    cases hk
    simp only [decB, concL_p]
theorem decH_enc : ∀ hp : List Blk, decH (hp.map encB) = some hp
  | [] => rfl
  | b :: hp => by
    rw [List.map_cons, decH, decH_enc hp, decB_enc]
def outAll : Option Out → AV
  | some (.val v hp) => .tup [v, .agg (hp.map encB)]
  | _ => .top
def supplied2 (P : Program) (o : Oper) (t : Tr) (hp : List Blk) : St → Option (AV × List Blk × St)
  | ((0, .ifc tag (.tup [v, .agg hs])) :: r, cs) => cond (Nat.beq tag supTag2) (match decH hs with | some hp' => some (v, hp', (r, (outAll (vop P o t hp), .tup [v, .agg hs]) :: cs)) | none => none) none
  | _ => none
theorem supplied2_ok {P : Program} {o : Oper} {t : Tr} {hp hp' : List Blk} {st st1 : St} {v : AV} (h : supplied2 P o t hp st = some (v, hp', st1)) : Later st st1 ∧ (Hold st1.2 → vop P o t hp = some (.val v hp')) := by
  unfold supplied2 at h
  split at h
  · rename_i tag u hs r cs
    cases hc : Nat.beq tag supTag2 with
    | false => rw [hc] at h; cases h
    | true =>
      rw [hc, cond_true] at h
      have hq : ∀ X, X = outAll (vop P o t hp) → (match decH hs with | some hp' => some (u, hp', ((r, (X, .tup [u, .agg hs]) :: cs) : St)) | none => none) = some (v, hp', st1) → Later (((0, .ifc tag (.tup [u, .agg hs])) :: r, cs) : St) st1 ∧ (Hold st1.2 → vop P o t hp = some (.val v hp')) := by
        intro X hX h
        cases hd : decH hs with
        | none => rw [hd] at h; cases h
        | some hp2 =>
          rw [hd] at h
          cases h
          refine ⟨⟨[_], rfl⟩, fun hh => ?_⟩
          have h1 := hh _ (List.mem_cons_self ..)
          simp only at h1
          rw [hX] at h1
          cases hv : vop P o t hp with
          | none => rw [hv] at h1; cases h1
          | some q =>
            cases q with
            | val y hp3 =>
              rw [hv] at h1
              have h2 : AV.tup [y, .agg (hp3.map encB)] = .tup [v, .agg hs] := h1
              cases h2
              rw [decH_enc] at hd
              cases hd
              rfl
            | call f args => rw [hv] at h1; cases h1
      exact hq _ rfl h
  · cases h
section
variable (P : Program) (run : RunT) (M : Mode)
def opS (ops : Array Oper) (o : Oper) (t : Tr) (hp : List Blk) (st : St) : Option (Tr × List Blk × St) :=
  match guardV ops t o with
  | none => none
  | some false => some (putV t o.dst (.p undef), hp, st)
  | some true =>
    match supplied P o t hp st with
    | some (v, st1) => some (putV t o.dst v, hp, st1)
    | none =>
    match supplied2 P o t hp st with
    | some (v, hp', st1) => some (putV t o.dst v, hp', st1)
    | none =>
    match vop P o t hp with
    | none => none
    | some (.val v hp') => (match concO o (putV t o.dst v) st with | (t2, st2) => some (t2, hp', st2))
    | some (.call f args) =>
      match callS run M f args hp st with
      | none => none
      | some (v, hp', st1) => (match concO o (putV t o.dst v) st1 with | (t2, st2) => some (t2, hp', st2))
def opGS (mask : Nat) (pend : Pend) (ops : Array Oper) (o : Oper) (t : Tr) (hp : List Blk) (st : St) : Option (Tr × List Blk × St) :=
  match guardV ops t o with
  | none => none
  | some false => some (putV t o.dst (.p undef), hp, st)
  | some true =>
    match supplied P o t hp st with
    | some (v, st1) => some (putV t o.dst v, hp, st1)
    | none =>
    match supplied2 P o t hp st with
    | some (v, hp', st1) => cond ((plainB t o.op || nbOf ops) && (!(writes o.op) || pendC P mask pend (o.op.operands.toList.flatMap fun x => ids (ev t x)) hp hp')) (some (putV t o.dst v, hp', st1)) none
    | none =>
    match cond (plainB t o.op || nbOf ops) (vop P o t hp) none with
    | none => none
    | some (.val v hp') => cond (!(writes o.op) || pendC P mask pend (o.op.operands.toList.flatMap fun x => ids (ev t x)) hp hp')
        (match concO o (putV t o.dst v) st with | (t2, st2) => some (t2, hp', st2)) none
    | some (.call f args) =>
      match cond (light o.op) none (callGS P run M mask pend f args hp st) with
      | none => none
      | some (v, hp', st1) => (match concO o (putV t o.dst v) st1 with | (t2, st2) => some (t2, hp', st2))
def opsS (ops : Array Oper) : List Oper → Tr → List Blk → St → Option (Tr × List Blk × St)
  | [], t, hp, st => some (t, hp, st)
  | o :: l, t, hp, st => match opS P run M ops o t hp st with
    | some (t2, hp1, st2) => opsS ops l t2 hp1 st2
    | none => none
def planS (ops : Array Oper) (ms : List Nat) : List Nat → Pend → Tr → List Blk → St → Option (Tr × List Blk × St)
  | [], _, t, hp, st => some (t, hp, st)
  | i :: r, pend, t, hp, st => match ops[i]? with
    | none => none
    | some o => match opGS P run M (ms.getD i 0) pend ops o t hp st with
      | some (t2, hp1, st2) => planS ops ms r ((i, readR t o) :: pend) t2 hp1 st2
      | none => none
/-! drawn regions with several makers in no order: the ends are noted, not compared -/
def plainS (runs : RunT) : Run := fun f args hp => match runs f args hp ([], []) with
  | some (r, hp', ([], [])) => some (r, hp')
  | _ => none
def okKs : Option (List Value) → Bool
  | none => true
  | some l => l.all okV
def okH (hp : List Blk) : Bool := hp.all fun b => b.cells.all okE && okKs b.keys
def okHz : List Blk → List Blk → Bool
  | b :: r, y :: ys => cond b.row true (y.cells.all okE) && okKs y.keys && okHz r ys
  | [], ys => okH ys
  | _ :: _, [] => false
def okX : AV → Bool
  | .top => true
  | .tup xs => xs.all okE
  | .fn (.func _) xs us => xs.all okE && us.all okE
  | x => okE x
def maskZ : List Blk → List Blk → List Blk
  | b :: r, y :: ys => cond b.row { y with cells := [] } y :: maskZ r ys
  | _, ys => ys
def leafN (K : Nat) (ds : List Nat) (tE : Tr) (hpE : List Blk) (t : Tr) (hp : List Blk) : Option (List (AV × AV)) :=
  match pickB hp (posOf (canonJ hp K t ds)) (canonJ hp K t ds) with
  | some sub => some [(.tup [.agg (sub.map encB), .agg (ds.map fun d => ren (posOf (canonJ hp K t ds)) (t.get d))], .tup [.agg (hpE.map encB), .agg (ds.map tE.get)])]
  | none => none
def leafNz (K : Nat) (ds : List Nat) (tE : Tr) (hpE : List Blk) (hp0 : List Blk) (t : Tr) (hp : List Blk) : Option (List (AV × AV)) :=
  match pickB hp (posOf (canonJ hp K t ds)) (canonJ hp K t ds) with
  | some sub => some [(.tup [.agg ((maskZ hp0 sub).map encB), .agg (ds.map fun d => ren (posOf (canonJ hp K t ds)) (t.get d))], .tup [.agg ((maskZ hp0 hpE).map encB), .agg (ds.map tE.get)])]
  | none => none
def allN (f : Nat → Option (List (AV × AV))) : List Nat → Option (List (AV × AV))
  | [] => some []
  | i :: r => match f i, allN f r with
    | some a, some b => some (a ++ b)
    | _, _ => none
def treeN (P : Program) (run : Run) (M : Mode) (ops : Array Oper) (ms : List Nat) (zt : Oper → Tr → List Blk → Bool) (leaf : Tr → List Blk → Option (List (AV × AV))) : Nat → Array Bool → Pend → Tr → List Blk → Option (List (AV × AV))
  | 0, listed, _, t, hp => cond (noneB (Region.ready .any ops listed)) (leaf t hp) none
  | n + 1, listed, pend, t, hp =>
    match firstB (isLight ops) (Region.ready .any ops listed) with
    | some i => (match ops[i]? with
      | some o => (match opG P run M (ms.getD i 0) pend ops o t hp with
        | some (t1, hp1) => cond (zt o t hp) (treeN P run M ops ms zt leaf n (listed.setIfInBounds i true) ((i, readR t o) :: pend) t1 hp1) none
        | none => none)
      | none => none)
    | none => cond (noneB (Region.ready .any ops listed)) none (allN (fun i => (match ops[i]? with
      | some o => (match opG P run M (ms.getD i 0) pend ops o t hp with
        | some (t1, hp1) => cond (zt o t hp) (treeN P run M ops ms zt leaf n (listed.setIfInBounds i true) ((i, readR t o) :: pend) t1 hp1) none
        | none => none)
      | none => none)) (Region.ready .any ops listed))
/-- one order on which an operation comes to a row -/
def zPath (P : Program) (run : Run) (M : Mode) (ops : Array Oper) (ms : List Nat) (hp0 : List Blk) : Nat → Array Bool → Pend → Tr → List Blk → Bool
  | 0, _, _, _, _ => false
  | n + 1, listed, pend, t, hp =>
    match firstB (isLight ops) (Region.ready .any ops listed) with
    | some i => (match ops[i]? with
      | some o => (match opG P run M (ms.getD i 0) pend ops o t hp with
        | some (t1, hp1) => !(zOk P M hp0 o t hp) || zPath P run M ops ms hp0 n (listed.setIfInBounds i true) ((i, readR t o) :: pend) t1 hp1
        | none => false)
      | none => false)
    | none => match Region.ready .any ops listed with
      | i :: _ => (match ops[i]? with
        | some o => (match opG P run M (ms.getD i 0) pend ops o t hp with
          | some (t1, hp1) => !(zOk P M hp0 o t hp) || zPath P run M ops ms hp0 n (listed.setIfInBounds i true) ((i, readR t o) :: pend) t1 hp1
          | none => false)
        | none => false)
      | [] => false
def treeS (P : Program) (run : Run) (M : Mode) (ops : Array Oper) (t : Tr) (hp : List Blk) (st : St) : Option (Tr × List Blk × St) :=
  cond (pairsT ops (masks ops.toList) (nbOf ops))
    (match planV P run M ops (masks ops.toList) (planOf ops) [] t hp with
    | some (t0, hp0) => (match pickB hp0 (posOf (canonJ hp0 hp.length t0 (dstsOf ops))) (canonJ hp0 hp.length t0 (dstsOf ops)) with
      | some hpE => (match (dstsOf ops).foldl (fun u d => u.set d (ren (posOf (canonJ hp0 hp.length t0 (dstsOf ops))) (t0.get d))) t with
        | tE => cond ((dstsOf ops).all fun d => okX (tE.get d)) (cond (zPath P run M ops (masks ops.toList) hp ops.size (Array.replicate ops.size false) [] t hp)
          (cond (okH hpE) (match treeN P run M ops (masks ops.toList) (fun _ _ _ => true) (leafN hp.length (dstsOf ops) tE hpE) ops.size (Array.replicate ops.size false) [] t hp with
            | some l => some (tE, hpE, (st.1, l ++ st.2))
            | none => none) none)
          (cond (okHz hp hpE) (match treeN P run M ops (masks ops.toList) (zOk P M hp) (leafNz hp.length (dstsOf ops) tE hpE hp) ops.size (Array.replicate ops.size false) [] t hp with
            | some l => some (tE, fixZ hp hpE, (st.1, l ++ st.2))
            | none => none) none)) none)
      | none => none)
    | none => none) none
def regS (N : Nat) (ops : Array Oper) (draw : Bool) (t : Tr) (hp : List Blk) (st : St) : Option (Tr × List Blk × St) :=
  cond (dstsOk N ops)
    (cond draw (cond (P.follows .mixedOrders) (cond (planOk ops (planOf ops)) (planS P run M ops (masks ops.toList) (planOf ops) [] t hp st) (treeS P (plainS run) M ops t hp st)) none) (opsS P run M ops ops.toList t hp st)) none
def exS (N : Nat) : Nat → Code → Tr → List Blk → St → Option (Ex × Tr × List Blk × St)
  | 0, _, _, _, _ => none
  | n + 1, c, t, hp, st =>
    match c with
    | .skip | .label _ => some (.nrm, t, hp, st)
    | .region _ ops draw => (match regS P run M N ops draw t hp st with | some (t', hp', st') => some (.nrm, t', hp', st') | none => none)
    | .seq a b => (match exS N n a t hp st with
      | some (.nrm, t', hp', st') => exS N n b t' hp' st'
      | r => r)
    | .cond x a b => (match ev t x with
      | .p (.bool v) => cond v (exS N n a t hp st) (exS N n b t hp st)
      | _ => none)
    | .block id a => (match exS N n a t hp st with
      | some (.exit id', t', hp', st') => cond (Nat.beq id' id) (some (.nrm, t', hp', st')) (some (.exit id', t', hp', st'))
      | r => r)
    | .loop a => (match exS N n a t hp st with
      | some (.nrm, t', hp', st') => exS N n (.loop a) t' hp' st'
      | r => r)
    | .exit id => some (.exit id, t, hp, st)
    | .goto l => some (.goto l, t, hp, st)
    | .scope a => scopeO (exS N n) a n a t hp st
    | .ret => some (.ret, t, hp, st)
    | _ => none
end
/-- an entry of this type is what a contract gives, without blocks: the contract is not evaluated, what it gives is noted -/
def supTag3 : Nat := 4294967293
def outF : Option (AV × List Blk) → AV
  | some (r, []) => r
  | _ => .top
def ovP (F : List AV → List Blk → Option (AV × List Blk)) (args : List AV) (hp : List Blk) (st : St) : Option (AV × List Blk × St) :=
  match F args hp with | some (r, hp') => some (r, hp', st) | none => none
/-- an entry of this type is what a contract gives together with the memory behind it: the contract is not evaluated, what it gives is noted -/
def supTag5 : Nat := 4294967291
def outFH : Option (AV × List Blk) → AV
  | some (r, hp) => .tup [r, .agg (hp.map encB)]
  | none => .top
def ovM (F : List AV → List Blk → Option (AV × List Blk)) (args : List AV) (hp : List Blk) : St → Option (AV × List Blk × St)
  | ((0, .ifc tag (.tup [v, .agg hs])) :: r, cs) => cond (Nat.beq tag supTag5) (match decH hs with | some hp' => some (v, hp', (r, (outFH (F args hp), .tup [v, .agg hs]) :: cs)) | none => none) none
  | _ => none
def ovS (F : List AV → List Blk → Option (AV × List Blk)) (args : List AV) (hp : List Blk) (st : St) : Option (AV × List Blk × St) :=
  match ovM F args hp st with
  | some q => some q
  | none =>
  match st, hp with
  | ((0, .ifc tag v) :: r, cs), [] => cond (Nat.beq tag supTag3 && !(isTop v)) (some (v, [], (r, (outF (F args []), v) :: cs))) (ovP F args [] ((0, .ifc tag v) :: r, cs))
  | st, hp => ovP F args hp st
theorem ovM_ok {F : List AV → List Blk → Option (AV × List Blk)} {args : List AV} {hp hp' : List Blk} {st st' : St} {r : AV} (h : ovM F args hp st = some (r, hp', st')) : Later st st' ∧ (Hold st'.2 → F args hp = some (r, hp')) := by
  unfold ovM at h
  split at h
  · rename_i tag u hs rs cs
    cases hc : Nat.beq tag supTag5 with
    | false => rw [hc] at h; cases h
    | true =>
      rw [hc, cond_true] at h
      have hq : ∀ X, X = outFH (F args hp) → (match decH hs with | some hp' => some (u, hp', ((rs, (X, .tup [u, .agg hs]) :: cs) : St)) | none => none) = some (r, hp', st') → Later (((0, .ifc tag (.tup [u, .agg hs])) :: rs, cs) : St) st' ∧ (Hold st'.2 → F args hp = some (r, hp')) := by
        intro X hX h
        cases hd : decH hs with
        | none => rw [hd] at h; cases h
        | some hp2 =>
          rw [hd] at h
          cases h
          refine ⟨⟨[_], rfl⟩, fun hh => ?_⟩
          have h1 := hh _ (List.mem_cons_self ..)
          simp only at h1
          rw [hX] at h1
          cases hv : F args hp with
          | none => rw [hv] at h1; cases h1
          | some q =>
            obtain ⟨y, hp3⟩ := q
            rw [hv] at h1
            have h2 : AV.tup [y, .agg (hp3.map encB)] = .tup [r, .agg hs] := h1
            cases h2
            rw [decH_enc] at hd
            cases hd
            rfl
      exact hq _ rfl h
  · cases h
theorem ovP_ok {F : List AV → List Blk → Option (AV × List Blk)} {args : List AV} {hp hp' : List Blk} {st st' : St} {r : AV} (h : ovP F args hp st = some (r, hp', st')) : Later st st' ∧ (Hold st'.2 → F args hp = some (r, hp')) := by
  unfold ovP at h
  split at h
  · rename_i r2 hp2 h2; cases h; exact ⟨Later.refl _, fun _ => h2⟩
  · cases h
theorem ovS_ok {F : List AV → List Blk → Option (AV × List Blk)} {args : List AV} {hp hp' : List Blk} {st st' : St} {r : AV} (h : ovS F args hp st = some (r, hp', st')) : Later st st' ∧ (Hold st'.2 → F args hp = some (r, hp')) := by
  unfold ovS at h
  split at h
  · rename_i q hq
    obtain ⟨q1, q2, q3⟩ := q
    cases h
    exact ovM_ok hq
  split at h
  · rename_i tag v rs cs _
    cases hc : (Nat.beq tag supTag3 && !(isTop v)) with
    | false => rw [hc] at h; exact ovP_ok h
    | true =>
      rw [hc, cond_true] at h
      simp only [Bool.and_eq_true, Bool.not_eq_true'] at hc
      have hq : ∀ X, X = outF (F args []) → some (v, ([] : List Blk), ((rs, (X, v) :: cs) : St)) = some (r, hp', st') → Later (((0, .ifc tag v) :: rs, cs) : St) st' ∧ (Hold st'.2 → F args [] = some (r, hp')) := by
        intro X hX h
        cases h
        refine ⟨⟨[_], rfl⟩, fun hh => ?_⟩
        have h1 := hh _ (List.mem_cons_self ..)
        simp only at h1
        rw [hX] at h1
        unfold outF at h1
        split at h1
        · rename_i r2 h2; rw [h2, h1]
        · rw [← h1] at hc; cases hc.2
      exact hq _ rfl h
  · exact ovP_ok h
def runS (P : Program) (M : Mode) : Nat → RunT
  | 0, _, _, _, _ => none
  | n + 1, f, args, hp, st0 =>
    match P.funcs[f]? with
    | none => none
    | some fn =>
      match fn.body with
      | none => none
      | some c =>
        cond (!(Nat.blt (Nat.max args.length fn.ntmps) 16383)) none <|
        match exS P (fun f args hp st => match M.ov f with | some F => ovS F args hp st | none => runS P M n f args hp st) M (Nat.max args.length fn.ntmps) n c (frameOf 0 args .lf) hp st0 with
        | some (.nrm, t, hp', st) | some (.ret, t, hp', st) =>
          (match resV P t hp' fn.results.toList with
           | some [v] => (match gcV hp.length v hp' with | some (r, hp2) => some (r, hp2, st) | none => none)
           | some vs => (match gcV hp.length (.tup vs) hp' with | some (r, hp2) => some (r, hp2, st) | none => none)
           | none => none)
        | _ => none

section
variable {P : Program} {run : Run} {runs : RunT} {M : Mode}
def RunsOk (run : Run) (runs : RunT) : Prop := ∀ f args hp st r hp' st', runs f args hp st = some (r, hp', st') → Later st st' ∧ (Hold st'.2 → run f args hp = some (r, hp'))

theorem callS_ok (hr : RunsOk run runs) {f : FuncId} {args : List AV} {hp hp' : List Blk} {st st' : St} {r : AV} (h : callS runs M f args hp st = some (r, hp', st')) : Later st st' ∧ (Hold st'.2 → callV run M f args hp = some (r, hp')) := by
  unfold callS at h
  split at h
  · cases h
  · rename_i args1 hp1 h1
    simp only at h
    split at h
    · cases h
    · rename_i sub h2
      split at h
      · rename_i r2 hp2 st2 h3
        cases h
        obtain ⟨k1, k2⟩ := hr _ _ _ _ _ _ _ h3
        refine ⟨k1, fun hh => ?_⟩
        unfold callV
        simp only [h1, h2, k2 hh]
      · cases h
theorem callGS_ok (hr : RunsOk run runs) {mask : Nat} {pend : Pend} {f : FuncId} {args : List AV} {hp hp' : List Blk} {st st' : St} {r : AV} (h : callGS P runs M mask pend f args hp st = some (r, hp', st')) : Later st st' ∧ (Hold st'.2 → callG P run M mask pend f args hp = some (r, hp')) := by
  unfold callGS at h
  split at h
  · cases h
  · rename_i args1 hp1 h1
    split at h
    · rename_i r2 hp2 st2 h3
      obtain ⟨k1, k2⟩ := callS_ok hr h3
      split at h
      · rename_i st3 hst
        cases h
        obtain ⟨n1, n2⟩ := noteS_ok hst
        refine ⟨k1.trans n1, fun hh => ?_⟩
        unfold callG
        simp only [h1, k2 (n1.hold hh), n2 hh, Bool.true_or, cond_true]
      cases hc : (pendC P mask pend (reach hp1 1000 (args1.flatMap ids) []) hp hp2 || sameBs hp hp2) with
      | false => rw [hc] at h; cases h
      | true =>
        rw [hc] at h
        cases h
        refine ⟨k1, fun hh => ?_⟩
        unfold callG
        simp only [h1, k2 hh, hc, cond_true]
    · cases h
theorem supplied_ok {o : Oper} {t : Tr} {hp : List Blk} {st st1 : St} {v : AV} (h : supplied P o t hp st = some (v, st1)) : Later st st1 ∧ light o.op = true ∧ plainB t o.op = true ∧ (Hold st1.2 → vop P o t hp = some (.val v hp)) := by
  unfold supplied at h
  split at h
  · rename_i tag u r cs
    cases hc : (Nat.beq tag supTag && light o.op && plainB t o.op && !(isTop u)) with
    | false => rw [hc] at h; cases h
    | true =>
      rw [hc, cond_true] at h
      simp only [Bool.and_eq_true, Bool.not_eq_true'] at hc
      obtain ⟨⟨⟨_, hl⟩, hpl⟩, ht⟩ := hc
      have hq : ∀ X, X = outAV (vop P o t hp) → some (u, ((r, (X, u) :: cs) : St)) = some (v, st1) → Later (((0, .ifc tag u) :: r, cs) : St) st1 ∧ light o.op = true ∧ plainB t o.op = true ∧ (Hold st1.2 → vop P o t hp = some (.val v hp)) := by
        intro X hX h
        cases h
        refine ⟨⟨[_], rfl⟩, hl, hpl, fun hh => ?_⟩
        have h1 := hh _ (List.mem_cons_self ..)
        simp only at h1
        rw [hX] at h1
        cases hv : vop P o t hp with
        | none => rw [hv] at h1; rw [← h1] at ht; cases ht
        | some q =>
          cases q with
          | val y hp' =>
            rw [hv] at h1
            have : y = v := h1
            subst this
            obtain ⟨e, _⟩ := light_stable hl hpl hv
            subst e
            rfl
          | call f args => rw [hv] at h1; rw [← h1] at ht; cases ht
      exact hq _ (suppX_eq P o t hp) h
  · cases h
theorem opS_ok (hr : RunsOk run runs) {ops : Array Oper} {o : Oper} {t t' : Tr} {hp hp' : List Blk} {st st' : St} (hd : ∀ d, o.dst = some d → d < 16383) (h : opS P runs M ops o t hp st = some (t', hp', st')) : Later st st' ∧ (Hold st'.2 → opV P run M ops o t hp = some (t', hp')) := by
  unfold opS at h
  split at h
  · cases h
  · rename_i hg
    cases h
    exact ⟨Later.refl _, fun _ => by unfold opV; simp only [hg]⟩
  · rename_i hg
    split at h
    · rename_i v st1 hsup
      obtain ⟨k1, k2, k3, k4⟩ := supplied_ok hsup
      generalize hX : putV t o.dst v = X at h
      cases h
      subst hX
      exact ⟨k1, fun hh => by unfold opV; simp only [hg, k4 hh]⟩
    split at h
    · rename_i v hp1 st1 hsup
      obtain ⟨k1, k4⟩ := supplied2_ok hsup
      generalize hX : putV t o.dst v = X at h
      cases h
      subst hX
      exact ⟨k1, fun hh => by unfold opV; simp only [hg, k4 hh]⟩
    split at h
    · cases h
    · rename_i v hp1 hv
      generalize hq_st : concO o (putV t o.dst v) st = q at h
      obtain ⟨t2, st2⟩ := q
      simp only at h
      cases h
      obtain ⟨k1, k2⟩ := concO_ok (t := t) (v := v) hd rfl hq_st
      exact ⟨k1, fun hh => by unfold opV; simp only [hg, hv, k2 hh]⟩
    · rename_i f args hv
      split at h
      · cases h
      · rename_i v hp1 st1 hc
        generalize hq_st1 : concO o (putV t o.dst v) st1 = q at h
        obtain ⟨t2, st2⟩ := q
        simp only at h
        cases h
        obtain ⟨q1, q2⟩ := callS_ok hr hc
        obtain ⟨k1, k2⟩ := concO_ok (t := t) (v := v) hd rfl hq_st1
        exact ⟨Later.trans q1 k1, fun hh => by unfold opV; simp only [hg, hv, q2 (Later.hold k1 hh), k2 hh]⟩
theorem opGS_ok (hr : RunsOk run runs) {mask : Nat} {pend : Pend} {ops : Array Oper} {o : Oper} {t t' : Tr} {hp hp' : List Blk} {st st' : St} (hd : ∀ d, o.dst = some d → d < 16383) (h : opGS P runs M mask pend ops o t hp st = some (t', hp', st')) :
    Later st st' ∧ (Hold st'.2 → opG P run M mask pend ops o t hp = some (t', hp')) := by
  unfold opGS at h
  split at h
  · cases h
  · rename_i hg
    cases h
    exact ⟨Later.refl _, fun _ => by unfold opG; simp only [hg]⟩
  · rename_i hg
    split at h
    · rename_i v st1 hsup
      obtain ⟨k1, k2, k3, k4⟩ := supplied_ok hsup
      generalize hX : putV t o.dst v = X at h
      cases h
      subst hX
      exact ⟨k1, fun hh => by unfold opG; simp only [hg, k3, Bool.true_or, k4 hh, cond_true, light_writes k2, Bool.not_false]⟩
    split at h
    · rename_i v hp1 st1 hsup
      obtain ⟨k1, k4⟩ := supplied2_ok hsup
      cases hc : ((plainB t o.op || nbOf ops) && (!(writes o.op) || pendC P mask pend (o.op.operands.toList.flatMap fun x => ids (ev t x)) hp hp1)) with
      | false => rw [hc] at h; cases h
      | true =>
        rw [hc, cond_true] at h
        generalize hX : putV t o.dst v = X at h
        cases h
        subst hX
        rw [Bool.and_eq_true] at hc
        exact ⟨k1, fun hh => by unfold opG; simp only [hg, hc.1, hc.2, k4 hh, cond_true]⟩
    split at h
    · cases h
    · rename_i v hp1 hv
      cases hc : (!(writes o.op) || pendC P mask pend (o.op.operands.toList.flatMap fun x => ids (ev t x)) hp hp1) with
      | false => rw [hc] at h; cases h
      | true =>
        rw [hc] at h
        generalize hq_st : concO o (putV t o.dst v) st = q at h
        obtain ⟨t2, st2⟩ := q
        simp only at h
        cases h
        obtain ⟨k1, k2⟩ := concO_ok (t := t) (v := v) hd rfl hq_st
        exact ⟨k1, fun hh => by unfold opG; simp only [hg, hv, hc, cond_true, k2 hh]⟩
    · rename_i f args hv
      split at h
      · cases h
      · rename_i v hp1 st1 hc
        generalize hq_st1 : concO o (putV t o.dst v) st1 = q at h
        obtain ⟨t2, st2⟩ := q
        simp only at h
        cases h
        cases hl : light o.op with
        | true => rw [hl, cond_true] at hc; cases hc
        | false =>
          rw [hl, cond_false] at hc
          obtain ⟨q1, q2⟩ := callGS_ok hr hc
          obtain ⟨k1, k2⟩ := concO_ok (t := t) (v := v) hd rfl hq_st1
          exact ⟨Later.trans q1 k1, fun hh => by unfold opG; simp only [hg, hv, hl, cond_false, q2 (Later.hold k1 hh), k2 hh]⟩
theorem opsS_ok (hr : RunsOk run runs) {ops : Array Oper} {t' : Tr} {hp' : List Blk} {st' : St} : ∀ (l : List Oper) (t : Tr) (hp : List Blk) (st : St), (∀ o ∈ l, ∀ d, o.dst = some d → d < 16383) → opsS P runs M ops l t hp st = some (t', hp', st') → Later st st' ∧ (Hold st'.2 → opsV P run M ops l t hp = some (t', hp'))
  | [], t, hp, st, hd, h => by simp only [opsS] at h; cases h; exact ⟨Later.refl _, fun _ => rfl⟩
  | o :: l, t, hp, st, hd, h => by
    simp only [opsS] at h
    split at h
    · rename_i t1 hp1 st1 h1
      obtain ⟨k1, k2⟩ := opS_ok hr (hd o (by simp)) h1
      obtain ⟨q1, q2⟩ := opsS_ok hr l _ _ _ (fun o ho => hd o (by simp [ho])) h
      exact ⟨k1.trans q1, fun hh => by simp only [opsV, k2 (q1.hold hh)]; exact q2 hh⟩
    · cases h
theorem planS_ok (hr : RunsOk run runs) {ops : Array Oper} {ms : List Nat} {t' : Tr} {hp' : List Blk} {st' : St} (hd : ∀ o ∈ ops.toList, ∀ d, o.dst = some d → d < 16383) : ∀ (l : List Nat) (pend : Pend) (t : Tr) (hp : List Blk) (st : St), planS P runs M ops ms l pend t hp st = some (t', hp', st') →
    Later st st' ∧ (Hold st'.2 → planV P run M ops ms l pend t hp = some (t', hp'))
  | [], pend, t, hp, st, h => by simp only [planS] at h; cases h; exact ⟨Later.refl _, fun _ => rfl⟩
  | i :: l, pend, t, hp, st, h => by
    simp only [planS] at h
    split at h
    · cases h
    · rename_i o ho
      split at h
      · rename_i t1 hp1 st1 h1
        have hmem : o ∈ ops.toList := by
          obtain ⟨hlt, e⟩ := Array.getElem?_eq_some_iff.1 ho
          rw [← e]; simp
        obtain ⟨k1, k2⟩ := opGS_ok hr (hd o hmem) h1
        obtain ⟨q1, q2⟩ := planS_ok hr hd l _ _ _ _ h
        exact ⟨k1.trans q1, fun hh => by simp only [planV, ho, k2 (q1.hold hh)]; exact q2 hh⟩
      · cases h
/-! drawn regions with several makers in no order -/
theorem plainS_ok (hr : RunsOk run runs) (f : FuncId) (args : List AV) (hp : List Blk) (q : AV × List Blk) (h : plainS runs f args hp = some q) : run f args hp = some q := by
  unfold plainS at h
  split at h
  · rename_i r hp' he
    cases h
    exact (hr _ _ _ _ _ _ _ he).2 (fun c hc => by cases hc)
  · cases h
section
variable {r1 r2 : Run} (hm : ∀ f args hp q, r1 f args hp = some q → r2 f args hp = some q)
include hm
theorem callV_run {f : FuncId} {args : List AV} {hp : List Blk} {q : AV × List Blk} (h : callV r1 M f args hp = some q) : callV r2 M f args hp = some q := by
  unfold callV at h ⊢
  split at h
  · cases h
  · rename_i args1 hp1 he
    try dsimp only at h ⊢
    split at h
    · cases h
    · rename_i sub hs
      try simp only [hs]
      split at h
      · rename_i r hp2 hr2
        rw [hm _ _ _ _ hr2]
        exact h
      · cases h
theorem callG_run {mask : Nat} {pend : Pend} {f : FuncId} {args : List AV} {hp : List Blk} {q : AV × List Blk} (h : callG P r1 M mask pend f args hp = some q) : callG P r2 M mask pend f args hp = some q := by
  unfold callG at h ⊢
  split at h
  · cases h
  · rename_i args1 hp1 he
    try simp only [he]
    split at h
    · rename_i r hp' hv
      rw [callV_run hm hv]
      exact h
    · cases h
theorem opG_run {mask : Nat} {pend : Pend} {ops : Array Oper} {o : Oper} {t : Tr} {hp : List Blk} {q : Tr × List Blk} (h : opG P r1 M mask pend ops o t hp = some q) : opG P r2 M mask pend ops o t hp = some q := by
  unfold opG at h ⊢
  split at h
  · cases h
  · rename_i hg
    try simp only [hg]
    exact h
  · rename_i hg
    try simp only [hg]
    split at h
    · cases h
    · rename_i v hp' hv
      try simp only [hv]
      exact h
    · rename_i f args hv
      try simp only [hv]
      cases hl : light o.op with
      | true => rw [hl] at h; cases h
      | false =>
        rw [hl, cond_false] at h
        rw [cond_false]
        split at h
        · cases h
        · rename_i v hp' hc
          rw [callG_run hm hc]
          exact h
theorem planV_run {ops : Array Oper} {ms : List Nat} : ∀ {l : List Nat} {pend : Pend} {t : Tr} {hp : List Blk} {q : Tr × List Blk}, planV P r1 M ops ms l pend t hp = some q → planV P r2 M ops ms l pend t hp = some q
  | [], _, _, _, _, h => h
  | i :: l, pend, t, hp, q, h => by
    unfold planV at h ⊢
    split at h
    · cases h
    · rename_i o ho
      try simp only [ho]
      split at h
      · rename_i t1 hp1 he
        rw [opG_run hm he]
        exact planV_run h
      · cases h
theorem zPath_ok {ops : Array Oper} {ms : List Nat} {hp0 : List Blk} {leaf : Tr → List Blk → Bool} : ∀ {n : Nat} {listed : Array Bool} {pend : Pend} {t : Tr} {hp : List Blk}, zPath P r1 M ops ms hp0 n listed pend t hp = true → treeBz P r2 M ops ms hp0 leaf n listed pend t hp = false
  | 0, _, _, _, _, h => by cases h
  | n + 1, listed, pend, t, hp, h => by
    unfold zPath at h
    unfold treeBz
    split at h
    · rename_i i hi
      try simp only [hi]
      split at h
      · rename_i o ho
        try simp only [ho]
        split at h
        · rename_i t1 hp1 he
          try simp only [opG_run hm he]
          rw [Bool.or_eq_true] at h
          rcases h with h | h
          · rw [Bool.not_eq_true'] at h; rw [h, Bool.false_and]
          · rw [zPath_ok h, Bool.and_false]
        · cases h
      · cases h
    · rename_i hi
      try simp only [hi]
      split at h
      · rename_i i l hl
        try simp only [hl]
        rw [List.all_cons]
        split at h
        · rename_i o ho
          try simp only [ho]
          split at h
          · rename_i t1 hp1 he
            try simp only [opG_run hm he]
            rw [Bool.or_eq_true] at h
            rcases h with h | h
            · rw [Bool.not_eq_true'] at h; rw [h]; simp
            · rw [zPath_ok h]; simp
          · cases h
        · cases h
      · cases h
omit hm in
theorem allN_ok {f : Nat → Option (List (AV × AV))} : ∀ {l : List Nat} {q : List (AV × AV)}, allN f l = some q → Hold q → ∀ i ∈ l, ∃ q', f i = some q' ∧ Hold q'
  | [], _, _, _, i, hi => by cases hi
  | j :: l, q, h, hh, i, hi => by
    unfold allN at h
    split at h
    · rename_i a b ha hb
      cases h
      rcases List.mem_cons.1 hi with rfl | hi
      · exact ⟨a, ha, fun c hc => hh c (List.mem_append.2 (.inl hc))⟩
      · exact allN_ok hb (fun c hc => hh c (List.mem_append.2 (.inr hc))) i hi
    · cases h
theorem treeN_ok {ops : Array Oper} {ms : List Nat} {zt : Oper → Tr → List Blk → Bool} {leaf : Tr → List Blk → Option (List (AV × AV))} {lb : Tr → List Blk → Bool} (hlf : ∀ t hp l, leaf t hp = some l → Hold l → lb t hp = true) :
    ∀ {n : Nat} {listed : Array Bool} {pend : Pend} {t : Tr} {hp : List Blk} {l : List (AV × AV)}, treeN P r1 M ops ms zt leaf n listed pend t hp = some l → Hold l → treeB P r2 M ops ms lb n listed pend t hp = true
  | 0, listed, pend, t, hp, l, h, hh => by
    unfold treeN at h
    unfold treeB
    cases hc : noneB (Region.ready .any ops listed) with
    | false => rw [hc] at h; cases h
    | true => rw [hc, cond_true] at h; rw [hlf _ _ _ h hh]; rfl
  | n + 1, listed, pend, t, hp, l, h, hh => by
    unfold treeN at h
    unfold treeB
    split at h
    · rename_i i hi
      try simp only [hi]
      split at h
      · rename_i o ho
        try simp only [ho]
        split at h
        · rename_i t1 hp1 he
          try simp only [opG_run hm he]
          cases hz : zt o t hp with
          | false => rw [hz] at h; cases h
          | true => rw [hz, cond_true] at h; exact treeN_ok hlf h hh
        · cases h
      · cases h
    · rename_i hi
      try simp only [hi]
      cases hc : noneB (Region.ready .any ops listed) with
      | true => rw [hc] at h; cases h
      | false =>
        rw [hc, cond_false] at h
        rw [Bool.not_false, Bool.true_and, List.all_eq_true]
        intro i hir
        obtain ⟨q', hq, hq2⟩ := allN_ok h hh i hir
        try dsimp only at hq
        split at hq
        · rename_i o ho
          try simp only [ho]
          split at hq
          · rename_i t1 hp1 he
            try simp only [opG_run hm he]
            cases hz : zt o t hp with
            | false => rw [hz] at hq; cases hq
            | true => rw [hz, cond_true] at hq; exact treeN_ok hlf hq hq2
          · cases hq
        · cases hq
theorem treeNz_ok {ops : Array Oper} {ms : List Nat} {hp0 : List Blk} {leaf : Tr → List Blk → Option (List (AV × AV))} {lb : Tr → List Blk → Bool} (hlf : ∀ t hp l, leaf t hp = some l → Hold l → lb t hp = true) :
    ∀ {n : Nat} {listed : Array Bool} {pend : Pend} {t : Tr} {hp : List Blk} {l : List (AV × AV)}, treeN P r1 M ops ms (zOk P M hp0) leaf n listed pend t hp = some l → Hold l → treeBz P r2 M ops ms hp0 lb n listed pend t hp = true
  | 0, listed, pend, t, hp, l, h, hh => by
    unfold treeN at h
    unfold treeBz
    cases hc : noneB (Region.ready .any ops listed) with
    | false => rw [hc] at h; cases h
    | true => rw [hc, cond_true] at h; rw [hlf _ _ _ h hh]; rfl
  | n + 1, listed, pend, t, hp, l, h, hh => by
    unfold treeN at h
    unfold treeBz
    split at h
    · rename_i i hi
      try simp only [hi]
      split at h
      · rename_i o ho
        try simp only [ho]
        split at h
        · rename_i t1 hp1 he
          try simp only [opG_run hm he]
          cases hz : zOk P M hp0 o t hp with
          | false => rw [hz] at h; cases h
          | true => rw [hz, cond_true] at h; rw [Bool.true_and]; exact treeNz_ok hlf h hh
        · cases h
      · cases h
    · rename_i hi
      try simp only [hi]
      cases hc : noneB (Region.ready .any ops listed) with
      | true => rw [hc] at h; cases h
      | false =>
        rw [hc, cond_false] at h
        rw [Bool.not_false, Bool.true_and, List.all_eq_true]
        intro i hir
        obtain ⟨q', hq, hq2⟩ := allN_ok h hh i hir
        try dsimp only at hq
        split at hq
        · rename_i o ho
          try simp only [ho]
          split at hq
          · rename_i t1 hp1 he
            try simp only [opG_run hm he]
            cases hz : zOk P M hp0 o t hp with
            | false => rw [hz] at hq; cases hq
            | true => rw [hz, cond_true] at hq; rw [Bool.true_and]; exact treeNz_ok hlf hq hq2
          · cases hq
        · cases hq
end
theorem okKs_ok {k : Option (List Value)} (h : okKs k = true) : eqKs k k = true := by
  cases k with
  | none => rfl
  | some l =>
    show eqVs l l = true
    have h' : l.all okV = true := h
    clear h
    induction l with
    | nil => rfl
    | cons v l ih =>
      rw [List.all_cons, Bool.and_eq_true] at h'
      show (eqV v v && eqVs l l) = true
      rw [okV_ok h'.1, ih h'.2]; rfl
theorem okH_ok : ∀ {hp : List Blk}, okH hp = true → eqH hp hp = true
  | [], _ => rfl
  | b :: r, h => by
    unfold okH at h
    rw [List.all_cons, Bool.and_eq_true, Bool.and_eq_true] at h
    unfold eqH
    rw [eqList_refl (fun _ => okE_ok) h.1.1, okKs_ok h.1.2, okH_ok (hp := r) h.2]
    simp
theorem okHz_ok : ∀ {hp0 hp : List Blk} {sub : List Blk}, okHz hp0 hp = true → maskZ hp0 sub = maskZ hp0 hp → eqHz hp0 sub hp = true
  | [], hp, sub, h, e => by
    have e' : sub = hp := by cases sub <;> cases hp <;> exact e
    subst e'
    cases sub with
    | nil => rfl
    | cons b r =>
      show eqH (b :: r) (b :: r) = true
      exact okH_ok h
  | b :: r, [], sub, h, e => by
    cases sub with
    | nil => cases h
    | cons x xs => cases e
  | b :: r, y :: ys, sub, h, e => by
    cases sub with
    | nil => cases e
    | cons x xs =>
      unfold okHz at h
      rw [Bool.and_eq_true, Bool.and_eq_true] at h
      unfold maskZ at e
      injection e with e1 e2
      unfold eqHz
      rw [okHz_ok h.2 e2]
      cases hb : b.row with
      | true =>
        rw [hb] at e1
        simp only [cond_true] at e1
        injection e1 with _ q2 q3 q4 q5 q6
        rw [q2, q3, q4, q5, q6, okKs_ok h.1.2]
        simp
      | false =>
        rw [hb] at e1 h
        simp only [cond_false] at e1 h
        subst e1
        rw [cond_false, eqList_refl (fun _ => okE_ok) h.1.1, okKs_ok h.1.2]
        simp
theorem okX_ok {x : AV} (h : okX x = true) : eqX x x = true := by
  cases x with
  | top => rfl
  | tup xs => exact eqList_refl (fun _ => okE_ok) h
  | fn f xs us =>
    cases f with
    | func g =>
      have h' : (xs.all okE && us.all okE) = true := h
      rw [Bool.and_eq_true] at h'
      show (Nat.beq g g && eqList eqA xs xs && eqList eqA us us) = true
      rw [eqList_refl (fun _ => okE_ok) h'.1, eqList_refl (fun _ => okE_ok) h'.2]; simp
    | _ => cases h
  | _ => exact okE_ok h
theorem encH_inj {a b : List Blk} (h : a.map encB = b.map encB) : a = b := by
  have := congrArg decH h
  rw [decH_enc, decH_enc] at this
  exact Option.some.inj this
theorem all_eqX {ds : List Nat} {f g : Nat → AV} (hx : ds.all (fun d => okX (g d)) = true) (h : ds.map f = ds.map g) : ds.all (fun d => eqX (f d) (g d)) = true := by
  induction ds with
  | nil => rfl
  | cons d ds ih =>
    rw [List.all_cons, Bool.and_eq_true] at hx
    rw [List.map_cons, List.map_cons] at h
    injection h with h1 h2
    rw [List.all_cons, ih hx.2 h2, h1, okX_ok hx.1]; rfl
theorem leafN_ok {K : Nat} {ds : List Nat} {tE : Tr} {hpE : List Blk} (hx : ds.all (fun d => okX (tE.get d)) = true) (hh : okH hpE = true) (t : Tr) (hp : List Blk) (l : List (AV × AV)) (h : leafN K ds tE hpE t hp = some l) (hl : Hold l) : leafB K ds tE hpE t hp = true := by
  unfold leafN at h
  unfold leafB
  split at h
  · rename_i sub hs
    cases h
    have := hl _ (List.mem_cons_self ..)
    simp only at this
    injection this with this
    injection this with h1 h2
    injection h2 with h2 _
    injection h1 with h1
    injection h2 with h2
    have h1 := encH_inj h1
    simp only [hs]
    rw [h1, okH_ok hh, Bool.true_and]
    exact all_eqX hx h2
  · cases h
theorem leafNz_ok {K : Nat} {ds : List Nat} {tE : Tr} {hpE hp0 : List Blk} (hx : ds.all (fun d => okX (tE.get d)) = true) (hh : okHz hp0 hpE = true) (t : Tr) (hp : List Blk) (l : List (AV × AV)) (h : leafNz K ds tE hpE hp0 t hp = some l) (hl : Hold l) : leafBz K ds tE hpE hp0 t hp = true := by
  unfold leafNz at h
  unfold leafBz
  split at h
  · rename_i sub hs
    cases h
    have := hl _ (List.mem_cons_self ..)
    simp only at this
    injection this with this
    injection this with h1 h2
    injection h2 with h2 _
    injection h1 with h1
    injection h2 with h2
    have h1 := encH_inj h1
    simp only [hs]
    rw [okHz_ok hh h1, Bool.true_and]
    exact all_eqX hx h2
  · cases h
theorem treeS_ok (hr : RunsOk run runs) {ops : Array Oper} {t t' : Tr} {hp hp' : List Blk} {st st' : St} (h : treeS P (plainS runs) M ops t hp st = some (t', hp', st')) : Later st st' ∧ (Hold st'.2 → anyR P run M ops t hp = some (t', hp')) := by
  have hm := plainS_ok hr
  unfold treeS at h
  cases hp1 : pairsT ops (masks ops.toList) (nbOf ops) with
  | false => rw [hp1] at h; cases h
  | true =>
    rw [hp1, cond_true] at h
    split at h
    · rename_i t0 hp0 hpl
      have hpl2 := planV_run hm hpl
      split at h
      · rename_i hpE hpk
        dsimp only at h
        generalize htE : (dstsOf ops).foldl (fun u d => u.set d (ren (posOf (canonJ hp0 hp.length t0 (dstsOf ops))) (t0.get d))) t = tE at h
        cases hx : ((dstsOf ops).all fun d => okX (tE.get d)) with
        | false => rw [hx] at h; cases h
        | true =>
          rw [hx, cond_true] at h
          cases hz : zPath P (plainS runs) M ops (masks ops.toList) hp ops.size (Array.replicate ops.size false) [] t hp with
          | true =>
            rw [hz, cond_true] at h
            cases hh : okH hpE with
            | false => rw [hh] at h; cases h
            | true =>
              rw [hh, cond_true] at h
              split at h
              · rename_i l hl
                cases h
                refine ⟨⟨l, rfl⟩, fun hold => ?_⟩
                have hb := treeN_ok hm (leafN_ok hx hh) hl (fun c hc => hold c (List.mem_append.2 (.inl hc)))
                have hnz := fun lf => zPath_ok (leaf := lf) hm hz
                unfold anyR treeRz treeR
                simp only [hp1, cond_true, hpl2, hpk, htE, hnz, hb, cond_false]
              · cases h
          | false =>
            rw [hz, cond_false] at h
            cases hh : okHz hp hpE with
            | false => rw [hh] at h; cases h
            | true =>
              rw [hh, cond_true] at h
              split at h
              · rename_i l hl
                cases h
                refine ⟨⟨l, rfl⟩, fun hold => ?_⟩
                have hb := treeNz_ok hm (leafNz_ok hx hh) hl (fun c hc => hold c (List.mem_append.2 (.inl hc)))
                unfold anyR treeRz
                simp only [hp1, cond_true, hpl2, hpk, htE, hb]
              · cases h
      · cases h
    · cases h
theorem regS_ok (hr : RunsOk run runs) {N : Nat} {ops : Array Oper} {draw : Bool} {t t' : Tr} {hp hp' : List Blk} {st st' : St} (hN : N < 16383) (h : regS P runs M N ops draw t hp st = some (t', hp', st')) : Later st st' ∧ (Hold st'.2 → regV P run M N ops draw t hp = some (t', hp')) := by
  unfold regS at h
  unfold regV
  cases hds : dstsOk N ops with
  | false => rw [hds] at h; cases h
  | true =>
    have hd : ∀ o ∈ ops.toList, ∀ d, o.dst = some d → d < 16383 := fun o ho d e => Nat.lt_trans (dsts_ok hds o ho d e) hN
    rw [hds, cond_true] at h
    simp only [cond_true]
    cases draw with
    | false => exact opsS_ok hr _ _ _ _ hd h
    | true =>
      rw [cond_true] at h
      simp only [cond_true]
      cases hf : P.follows .mixedOrders with
      | false => rw [hf] at h; cases h
      | true =>
        rw [hf, cond_true] at h
        cases hq : planOk ops (planOf ops) with
        | true =>
          rw [hq, cond_true] at h
          obtain ⟨k1, k2⟩ := planS_ok hr hd _ _ _ _ _ h
          exact ⟨k1, fun hh => by simp only [cond_true, k2 hh]⟩
        | false =>
          rw [hq, cond_false] at h
          obtain ⟨k1, k2⟩ := treeS_ok hr h
          exact ⟨k1, fun hh => by simp only [cond_true, cond_false, k2 hh]⟩
theorem exS_ok (hr : RunsOk run runs) {N : Nat} (hN : N < 16383) : ∀ n, ExOk (exV P run M N n) (exS P runs M N n)
  | 0 => fun c t hp st x t' hp' st' h => by simp [exS] at h
  | n + 1 => fun c t hp st x t' hp' st' h => by
    have ih := exS_ok hr hN n
    cases c with
    | skip => simp only [exS] at h; cases h; exact ⟨Later.refl _, fun _ => rfl⟩
    | label l => simp only [exS] at h; cases h; exact ⟨Later.refl _, fun _ => rfl⟩
    | region id ops draw =>
      simp only [exS] at h
      split at h
      · rename_i t1 hp1 st1 hreg
        cases h
        obtain ⟨k1, k2⟩ := regS_ok hr hN hreg
        exact ⟨k1, fun hh => by simp only [exV, k2 hh]⟩
      · cases h
    | seq c1 c2 =>
      simp only [exS] at h
      split at h
      · rename_i t1 hp1 st1 h1
        obtain ⟨k1, k2⟩ := ih _ _ _ _ _ _ _ _ h1
        obtain ⟨q1, q2⟩ := ih _ _ _ _ _ _ _ _ h
        exact ⟨k1.trans q1, fun hh => by simp only [exV, k2 (q1.hold hh)]; exact q2 hh⟩
      · rename_i r hne
        obtain ⟨k1, k2⟩ := ih _ _ _ _ _ _ _ _ h
        refine ⟨k1, fun hh => ?_⟩
        simp only [exV, k2 hh]
        cases x with
        | nrm => exact absurd h (hne t' hp' st')
        | _ => rfl
    | cond y c1 c2 =>
      simp only [exS] at h
      split at h
      · rename_i v hv
        cases v with
        | true => obtain ⟨k1, k2⟩ := ih _ _ _ _ _ _ _ _ h; exact ⟨k1, fun hh => by simp only [exV, hv, cond_true]; exact k2 hh⟩
        | false => obtain ⟨k1, k2⟩ := ih _ _ _ _ _ _ _ _ h; exact ⟨k1, fun hh => by simp only [exV, hv, cond_false]; exact k2 hh⟩
      · cases h
    | block id c1 =>
      simp only [exS] at h
      split at h
      · rename_i id' t1 hp1 st1 h1
        obtain ⟨k1, k2⟩ := ih _ _ _ _ _ _ _ _ h1
        cases hb : Nat.beq id' id with
        | true => rw [hb, cond_true] at h; cases h; exact ⟨k1, fun hh => by simp only [exV, k2 hh, hb, cond_true]⟩
        | false => rw [hb, cond_false] at h; cases h; exact ⟨k1, fun hh => by simp only [exV, k2 hh, hb, cond_false]⟩
      · rename_i r hne
        obtain ⟨k1, k2⟩ := ih _ _ _ _ _ _ _ _ h
        refine ⟨k1, fun hh => ?_⟩
        simp only [exV, k2 hh]
        cases x with
        | exit id' => exact absurd h (hne id' t' hp' st')
        | _ => rfl
    | loop c1 =>
      simp only [exS] at h
      split at h
      · rename_i t1 hp1 st1 h1
        obtain ⟨k1, k2⟩ := ih _ _ _ _ _ _ _ _ h1
        obtain ⟨q1, q2⟩ := ih _ _ _ _ _ _ _ _ h
        exact ⟨k1.trans q1, fun hh => by simp only [exV, k2 (q1.hold hh)]; exact q2 hh⟩
      · rename_i r hne
        obtain ⟨k1, k2⟩ := ih _ _ _ _ _ _ _ _ h
        refine ⟨k1, fun hh => ?_⟩
        simp only [exV, k2 hh]
        cases x with
        | nrm => exact absurd h (hne t' hp' st')
        | _ => rfl
    | exit id => simp only [exS] at h; cases h; exact ⟨Later.refl _, fun _ => rfl⟩
    | goto l => simp only [exS] at h; cases h; exact ⟨Later.refl _, fun _ => rfl⟩
    | scope c1 =>
      simp only [exS] at h
      obtain ⟨k1, k2⟩ := scopeO_ok ih c1 n c1 t hp st h
      exact ⟨k1, fun hh => by simp only [exV]; exact k2 hh⟩
    | ret => simp only [exS] at h; cases h; exact ⟨Later.refl _, fun _ => rfl⟩
    | rangeFunc f ps c1 c2 => simp only [exS] at h; cases h
    | refuse why => simp only [exS] at h; cases h
/-- a run along a path, through calls, is a run where what it takes holds -/
theorem runS_ok : ∀ n, RunsOk (runV P M n) (runS P M n)
  | 0 => fun f args hp st r hp' st' h => by simp [runS] at h
  | n + 1 => fun f args hp st0 r hp' st' h => by
    have ih := runS_ok n
    have hr : RunsOk (fun f args hp => match M.ov f with | some F => F args hp | none => runV P M n f args hp) (fun f args hp st => match M.ov f with | some F => ovS F args hp st | none => runS P M n f args hp st) := by
      intro f args hp st r hp' st' h
      simp only at h ⊢
      split at h
      · rename_i F hF
        exact ovS_ok h
      · exact ih _ _ _ _ _ _ _ h
    unfold runS at h
    unfold runV
    split at h
    · cases h
    · rename_i fn hfn
      split at h
      · cases h
      · rename_i c hb
        cases hN : Nat.blt (Nat.max args.length fn.ntmps) 16383 with
        | false => rw [hN] at h; cases h
        | true =>
          rw [hN] at h
          simp only [hfn, hb, hN, Bool.not_true, cond_false] at h ⊢
          have hN' : Nat.max args.length fn.ntmps < 16383 := Nat.le_of_ble_eq_true hN
          have fin : ∀ (x : Ex) (t : Tr) (hp1 : List Blk) (st : St), (x = .nrm ∨ x = .ret) → exS P (fun f args hp st => match M.ov f with | some F => ovS F args hp st | none => runS P M n f args hp st) M (Nat.max args.length fn.ntmps) n c (frameOf 0 args .lf) hp st0 = some (x, t, hp1, st) →
              (match resV P t hp1 fn.results.toList with
               | some [v] => (match gcV hp.length v hp1 with | some (r, hp2) => some (r, hp2, st) | none => none)
               | some vs => (match gcV hp.length (.tup vs) hp1 with | some (r, hp2) => some (r, hp2, st) | none => none)
               | none => none) = some (r, hp', st') → Later st0 st' ∧ (Hold st'.2 →
                (match exV P (fun f args hp => match M.ov f with | some F => F args hp | none => runV P M n f args hp) M (Nat.max args.length fn.ntmps) n c (frameOf 0 args .lf) hp with
                  | some (.nrm, t, hp') | some (.ret, t, hp') =>
                    (match resV P t hp' fn.results.toList with
                     | some [v] => gcV hp.length v hp'
                     | some vs => gcV hp.length (.tup vs) hp'
                     | none => none)
                  | _ => none) = some (r, hp')) := by
            intro x t hp1 st hx hex hres
            obtain ⟨k1, k2⟩ := exS_ok hr hN' n _ _ _ _ _ _ _ _ hex
            have key : st' = st ∧ (match resV P t hp1 fn.results.toList with
                     | some [v] => gcV hp.length v hp1
                     | some vs => gcV hp.length (.tup vs) hp1
                     | none => none) = some (r, hp') := by
              cases hv : resV P t hp1 fn.results.toList with
              | none => rw [hv] at hres; cases hres
              | some vs =>
                rw [hv] at hres
                match vs, hres with
                | [], hres =>
                  simp only at hres ⊢
                  split at hres
                  · rename_i r2 hp2 hg; cases hres; exact ⟨rfl, hg⟩
                  · cases hres
                | [v], hres =>
                  simp only at hres ⊢
                  split at hres
                  · rename_i r2 hp2 hg; cases hres; exact ⟨rfl, hg⟩
                  · cases hres
                | v1 :: v2 :: vs, hres =>
                  simp only at hres ⊢
                  split at hres
                  · rename_i r2 hp2 hg; cases hres; exact ⟨rfl, hg⟩
                  · cases hres
            obtain ⟨rfl, key⟩ := key
            refine ⟨k1, fun hh => ?_⟩
            rw [k2 hh]
            rcases hx with rfl | rfl
            · exact key
            · exact key
          split at h
          · rename_i t hp1 st hex; exact fin .nrm t hp1 st (.inl rfl) hex h
          · rename_i t hp1 st hex; exact fin .ret t hp1 st (.inr rfl) hex h
          · cases h
/-- the form in which it is used -/
theorem runS_run {n : Nat} {f : FuncId} {args : List AV} {hp hp' : List Blk} {orc : List (Nat × AV)} {r : AV} {st : St} (h : runS P M n f args hp (orc, []) = some (r, hp', st)) (hc : Hold st.2) : runV P M n f args hp = some (r, hp') := (runS_ok n _ _ _ _ _ _ _ h).2 hc
end
end Go.Vm

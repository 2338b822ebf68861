/- Maps, and copy, in the virtual memory. -/
import Derived.Test.YtlemialjfnbchaaGreatVmS

namespace Go.Vm
open Go

section
variable {P : Program} {W0 : World} {O S0 : Nat → Prop} {m0 : EM} {hp hp' : List Blk} {m : EM} {S : Nat → Prop} {w : World} {a : Act} {t : Tr} {o : Oper} {v : AV}

theorem builtin_run {b : Builtin} {args : Array Operand} {ts : Array TypeId} {u : Value} {w' : World} {s : Sem Value} (ho : o.op = .call { callee := .builtin b, args := args, argTypes := ts })
    (hb : ∀ cs, builtin b ts o.type cs (args.map a.eval) = (do pure (.value (← s)))) (hr : s.run P w = .ok u w') : (execOp a.eval o).run P w = .ok (.value u) w' := by
  simp only [execOp, ho, resolve, Sem.run_bind, Sem.run_pure, Result.andThen_ok, invoke, hb, hr]

theorem mapT_ok {ty kt et : TypeId} (h : mapT P ty = some (kt, et)) : P.underlying ty = some (.map kt et) := by
  unfold mapT at h
  split at h
  · rename_i k e hu; cases h; exact hu
  · cases h
theorem keyT_cases {kt : TypeId} {kv : Value} (h : keyT P kt kv = true) : (∃ k0 k n, P.underlying kt = some (.int k0) ∧ kv = .int k n) ∨ (∃ s, P.underlying kt = some .string ∧ kv = .string s) := by
  unfold keyT at h
  split at h
  · rename_i k0 k n h1; exact .inl ⟨_, _, _, h1, rfl⟩
  · rename_i s h1; exact .inr ⟨_, h1, rfl⟩
  · cases h
theorem keyT_isKey {kt : TypeId} {kv : Value} (h : keyT P kt kv = true) : ∃ d, MapKept.IsKey d kv := by
  rcases keyT_cases h with ⟨k0, k, n, _, rfl⟩ | ⟨s, _, rfl⟩
  · exact ⟨.int k, rfl⟩
  · exact ⟨.string, trivial⟩
theorem keyT_check {kt : TypeId} {kv : Value} (h : keyT P kt kv = true) (e : Bool) (n : Nat) (w : World) : (Instr.checkKey e (n + 1) kt kv).run P w = .ok () w := by
  unfold Instr.checkKey
  rcases keyT_cases h with ⟨k0, k, x, hu, rfl⟩ | ⟨s, hu, rfl⟩ <;> simp only [Sem.run_bind, run_underlying hu, Result.andThen_ok] <;> rfl
theorem bytes_eq (x y : ByteArray) : (x == y) = (x.data.toList == y.data.toList) := by
  rcases x with ⟨x⟩
  rcases y with ⟨y⟩
  show (x == y) = (x.toList == y.toList)
  rw [Bool.eq_iff_iff]
  simp
theorem sameK_ok {kt : TypeId} {kv x : Value} {d : TypeDesc} {q : Bool} (h : keyT P kt kv = true) (hd : P.underlying kt = some d) (hs : sameK kv x = some q) : Instr.sameNow d kv x = some q ∧ (q = true ↔ x = kv) := by
  rcases keyT_cases h with ⟨k0, k, n, hu, rfl⟩ | ⟨s, hu, rfl⟩
  · rw [hu] at hd; cases hd
    cases x <;> simp [sameK] at hs
    rename_i k' n'
    cases hk : (k == k') with
    | false => rw [hk] at hs; cases hs
    | true =>
      rw [hk, cond_true] at hs
      cases hs
      have : k = k' := by simpa using hk
      subst this
      refine ⟨by simp [Instr.sameNow], ?_⟩
      constructor
      · intro e; have : n = n' := by simpa using e
        rw [this]
      · intro e; cases e; simp
  · rw [hu] at hd; cases hd
    cases x <;> simp [sameK] at hs
    rename_i s'
    subst hs
    refine ⟨by simp [Instr.sameNow, bytes_eq], ?_⟩
    constructor
    · intro e
      have e2 : s.data.toList = s'.data.toList := by simpa using e
      rcases s with ⟨⟨s⟩⟩; rcases s' with ⟨⟨s'⟩⟩
      simp at e2; rw [e2]
    · intro e; cases e; simp
theorem findK_ok {kt : TypeId} {kv : Value} {d : TypeDesc} (h : keyT P kt kv = true) (hd : P.underlying kt = some d) : ∀ (es : List MapEntry) (i : Nat) (r : Option Nat), findK kv (es.map (·.key)) i = some r →
    (r = none ∧ Instr.findNow d kv es i = some none ∧ ∀ x ∈ es, x.key ≠ kv) ∨ ∃ j e, r = some (i + j) ∧ Instr.findNow d kv es i = some (some (i + j, e.val)) ∧ es[j]? = some e ∧ e.key = kv
  | [], i, r, hf => by
    simp [findK] at hf
    subst hf
    exact .inl ⟨rfl, rfl, by simp⟩
  | e :: es, i, r, hf => by
    simp only [List.map_cons, findK] at hf
    split at hf
    · rename_i hs
      cases hf
      obtain ⟨h1, h2⟩ := sameK_ok h hd hs
      exact .inr ⟨0, e, rfl, by simp [Instr.findNow, h1], rfl, h2.1 rfl⟩
    · rename_i hs
      obtain ⟨h1, h2⟩ := sameK_ok h hd hs
      rcases findK_ok h hd es (i + 1) r hf with ⟨rfl, k1, k2⟩ | ⟨j, e', rfl, k1, k2, k3⟩
      · refine .inl ⟨rfl, by simp [Instr.findNow, h1, k1], ?_⟩
        intro x hx
        rcases List.mem_cons.1 hx with rfl | hx
        · intro e2; have := h2.2 e2; cases this
        · exact k2 x hx
      · exact .inr ⟨j + 1, e', by rw [Nat.add_assoc, Nat.add_comm 1 j], by rw [Instr.findNow, h1]; simp only; rw [k1, Nat.add_assoc, Nat.add_comm 1 j], k2, k3⟩
    · cases hf
theorem putO_run {r : Nat} {es : Array MapEntry} {clock : Nat} (ob : Obj) (hb : w.heap[r]? = some (.map es clock)) : (setObj r ob).run P w = .ok () (putO w r ob) := MapKept.run_setObj_map ob hb

/-! ### made -/
theorem makeMap_ok (h : HS W0 O S0 m0 hp m S w) {ty : TypeId} {r : Option Operand} {q : TypeId × TypeId} (hm : mapT P ty = some q) (hr : r.map a.eval = none ∨ ∃ k n, r.map a.eval = some (.int k n)) (ho : o.op = .makeMap ty r) :
    Good P W0 O S0 m0 m S w (execOp a.eval o) (.mp hp.length 0) (hp ++ [{ cells := [], esz := 0, gen := 0, row := true, ro := false, keys := some [] }]) := by
  obtain ⟨kt, et⟩ := q
  have hu := mapT_ok hm
  obtain ⟨k1, k2, k3⟩ := h.allocMap
  have hv : R (w.alloc (.map #[] 0)) S (updM m hp.length ⟨some ⟨w.heap.size, 0, 0, 0⟩, 0⟩) (.mp hp.length 0) (.map (some w.heap.size)) :=
    R.map _ _ ⟨some ⟨w.heap.size, 0, 0, 0⟩, 0⟩ ⟨w.heap.size, 0, 0, 0⟩ (updM_same _ _ _) rfl
  refine ⟨.value (.map (some w.heap.size)), _, _, S, ?_, hv, k1, k2, fun _ h => h, k3⟩
  have hrun : (Instr.makeMap ty (r.map a.eval)).run P w = .ok (.map (some w.heap.size)) (w.alloc (.map #[] 0)) := by
    rcases hr with hr | ⟨k, n, hr⟩ <;> rw [hr]
    · simp [Instr.makeMap]
    · simp [Instr.makeMap, run_underlying hu, asInt, asIntOf]
  simp only [execOp, ho, Sem.run_bind, hrun, Result.andThen_ok, Sem.run_pure]

/-! ### asked -/
theorem outK_ok {ok : Bool} {x : AV} {u : Value} {b : Bool} (hr : R w S m x u) : R w S m (outK ok x b) (if ok = true then .tuple #[u, .bool b] else u) := by
  cases ok with
  | false => exact hr
  | true =>
    have := RL.cons hr (RL.cons (R.p m (.bool b)) (RL.nil (w := w) (S := S) (m := m)))
    exact R.tup m _ [u, .bool b] this.1 this.2
theorem lookup_ok (h : HS W0 O S0 m0 hp m S w) (hf : FrR w S m t a) {ty : TypeId} {x k : Operand} {ok : Bool} (hv : lookupV P hp ty (ev t x) (ev t k) ok = some (.val v hp')) (ho : o.op = .lookup ty x k ok) :
    Good P W0 O S0 m0 m S w (execOp a.eval o) v hp' := by
  unfold lookupV at hv
  split at hv
  · rename_i kt et kv hm hk
    have hu := mapT_ok hm
    have hkv : a.eval k = kv := isP_ok (x := ev t k) (by rw [hk]; rfl) (ev_ok hf k)
    cases hq : keyT P kt kv with
    | false => rw [hq] at hv; cases hv
    | true =>
      rw [hq, cond_true] at hv
      have hrx := ev_ok hf x
      have key : ∀ (u : Value), (Instr.lookup ty (a.eval x) (a.eval k) ok).run P w = .ok u w → (execOp a.eval o).run P w = .ok (.value u) w := by
        intro u hrun
        simp only [execOp, ho, Sem.run_bind, hrun, Result.andThen_ok, Sem.run_pure]
      split at hv
      · rename_i z hz hx
        cases hv
        have hxe : a.eval x = .map none := isP_ok (x := ev t x) (by rw [hx]; rfl) hrx
        refine Good.same h (key _ ?_) (outK_ok (b := false) (abs1_ok _ _ _ z))
        obtain ⟨d, hd⟩ : ∃ d, P.underlying kt = some d := by rcases keyT_cases hq with ⟨k0, k1, n, hd, rfl⟩ | ⟨s, hd, rfl⟩ <;> exact ⟨_, hd⟩
        unfold Instr.lookup
        rw [hxe, hkv]
        simp only [Sem.run_bind, Sem.run_pure, run_underlying hu, Result.andThen_ok, keyT_check hq, MapKept.run_findKey (l := []) hd rfl, zeroT_run hz]
      · rename_i z i g hz hx
        split at hv
        · rename_i ks b hgm
          rw [hx] at hrx
          obtain ⟨b1, b2, b3, e, pl, b4, b5, hxe, es, clock, b6, b7, b8, b9⟩ := getM_ok h hgm hrx
          have runS : ∀ (j : Nat) (v : Value), (Instr.findKey kt kv es.toList).run P w = .ok (some (j, v)) w → (Instr.lookup ty (a.eval x) (a.eval k) ok).run P w = .ok (if ok = true then .tuple #[v, .bool true] else v) w := by
            intro j v hr
            unfold Instr.lookup
            rw [hxe, hkv]
            simp only [Sem.run_bind, Sem.run_pure, run_underlying hu, Result.andThen_ok, MapKept.run_getObj_map b6, keyT_check hq, hr]
          have runN : (Instr.findKey kt kv es.toList).run P w = .ok none w → (Instr.lookup ty (a.eval x) (a.eval k) ok).run P w = .ok (if ok = true then .tuple #[z, .bool false] else z) w := by
            intro hr
            unfold Instr.lookup
            rw [hxe, hkv]
            simp only [Sem.run_bind, Sem.run_pure, run_underlying hu, Result.andThen_ok, MapKept.run_getObj_map b6, keyT_check hq, hr, zeroT_run hz]
          obtain ⟨d, hd⟩ : ∃ d, P.underlying kt = some d := by rcases keyT_cases hq with ⟨k0, k1, n, hd, rfl⟩ | ⟨s, hd, rfl⟩ <;> exact ⟨_, hd⟩
          rw [← b7] at hv
          split at hv
          · rename_i j hfk
            rcases findK_ok hq hd es.toList 0 _ hfk with ⟨k1, _⟩ | ⟨j', e', k1, k2, k3, k4⟩
            · cases k1
            · rw [Nat.zero_add] at k1 k2
              cases k1
              split at hv
              · rename_i v' hv'
                cases hv
                obtain ⟨u, hu2, hru⟩ := b8.get hv'
                rw [List.getElem?_map, k3] at hu2
                cases hu2
                exact Good.same h (key _ (runS _ _ (MapKept.run_findKey hd k2))) (outK_ok (b := true) hru)
              · cases hv
          · rename_i hfk
            cases hv
            rcases findK_ok hq hd es.toList 0 _ hfk with ⟨_, k2, _⟩ | ⟨j', e', k1, _⟩
            · exact Good.same h (key _ (runN (MapKept.run_findKey hd k2))) (outK_ok (b := false) (abs1_ok _ _ _ z))
            · cases k1
          · cases hv
        · cases hv
      · cases hv
  · cases hv

/-! ### turned -/
theorem set_self {α : Type} (l : List α) (i : Nat) (x : α) (h : l[i]? = some x) : l.set i x = l := by
  apply List.ext_getElem?
  intro j
  by_cases e : i = j
  · subst e; rw [List.getElem?_set_self (List.getElem?_eq_some_iff.1 h).1, h]
  · rw [List.getElem?_set_ne e]
theorem putO_self {r : Nat} {ob : Obj} (h : w.heap[r]? = some ob) : putO w r ob = w := by
  have : w.heap.setIfInBounds r ob = w.heap := by
    apply Array.ext_getElem?
    intro j
    rw [Array.getElem?_setIfInBounds]
    by_cases e : r = j
    · subst e; rw [if_pos rfl, h, if_pos (Array.getElem?_eq_some_iff.1 h).1]
    · rw [if_neg e]
  unfold putO
  rw [this]
theorem RL.set {xs : List AV} {us : List Value} (h : RL w S m xs us) (j : Nat) {x : AV} {u : Value} (hr : R w S m x u) : RL w S m (xs.set j x) (us.set j u) := by
  refine ⟨by simp [h.1], fun i h1 h2 => ?_⟩
  rw [List.getElem_set, List.getElem_set]
  by_cases e : j = i
  · simp only [if_pos e]; exact hr
  · simp only [if_neg e]; exact h.2 i (by simpa using h1) (by simpa using h2)
theorem R.imm {v : AV} {u : Value} (hi : immV v = true) (h : R w S m v u) : R w S noEM v u := by
  unfold immV at hi
  split at hi
  · rename_i xs
    cases h with
    | agg _ _ ys hl hx =>
      refine R.agg noEM xs ys hl (fun j h1 h2 => R.noBlk noEM ?_ (hx j h1 h2))
      have := List.all_eq_true.1 hi xs[j] (List.getElem_mem h1)
      generalize xs[j] = y at this
      cases y <;> first | rfl | cases this
  · refine R.noBlk noEM ?_ h
    cases v <;> first | rfl | cases hi
/-- a map's values, one of them another one -/
theorem RL.mset {r : Bool} {xs : List AV} {us : List Value} (h : RL w S (cond r noEM m) xs us) (j : Nat) {x : AV} {u : Value} (hr : R w S m x u) : RL w S (cond (mrow r x) noEM m) (xs.set j x) (us.set j u) := by
  unfold mrow
  cases hi : immV x with
  | false => exact RL.set h.weak j hr
  | true =>
    cases r with
    | true => exact RL.set h j (R.imm hi hr)
    | false => exact RL.set h j hr
theorem RL.mpush {r : Bool} {xs : List AV} {us : List Value} (h : RL w S (cond r noEM m) xs us) {x : AV} {u : Value} (hr : R w S m x u) : RL w S (cond (mrow r x) noEM m) (xs ++ [x]) (us ++ [u]) := by
  unfold mrow
  cases hi : immV x with
  | false => exact RL.append h.weak (RL.cons hr .nil)
  | true =>
    cases r with
    | true => exact RL.append h (RL.cons (R.imm hi hr) .nil)
    | false => exact RL.append h (RL.cons hr .nil)
theorem RL.eraseIdx {xs : List AV} {us : List Value} (h : RL w S m xs us) (j : Nat) : RL w S m (xs.eraseIdx j) (us.eraseIdx j) := by
  rw [List.eraseIdx_eq_take_drop_succ, List.eraseIdx_eq_take_drop_succ]
  exact (h.take j).append (h.drop (j + 1))
theorem map_erase {α β : Type} (f : α → β) (l : List α) (j : Nat) : (l.eraseIdx j).map f = (l.map f).eraseIdx j := by
  simp only [List.eraseIdx_eq_take_drop_succ, List.map_append, List.map_take, List.map_drop]
theorem modify_vals (es : Array MapEntry) (j : Nat) (kv u : Value) : (es.modify j fun e => { e with key := kv, val := u }).toList.map (·.val) = (es.toList.map (·.val)).set j u := by
  apply List.ext_getElem?
  intro i
  simp only [List.getElem?_map, Array.getElem?_toList, Array.getElem?_modify, List.getElem?_set]
  by_cases e : j = i
  · subst e
    rw [if_pos rfl, if_pos rfl]
    cases hq : es[j]? with
    | none =>
      have : ¬ j < es.size := fun hl => by rw [Array.getElem?_eq_getElem hl] at hq; cases hq
      simp [this]
    | some x =>
      have : j < es.size := (Array.getElem?_eq_some_iff.1 hq).1
      simp [this]
  · simp [e]
theorem update_ok (h : HS W0 O S0 m0 hp m S w) (hf : FrR w S m t a) {ty : TypeId} {x k y : Operand} (hv : updateV P hp ty (ev t x) (ev t k) (ev t y) = some (.val v hp')) (ho : o.op = .mapUpdate ty x k y) :
    Good P W0 O S0 m0 m S w (execOp a.eval o) v hp' := by
  unfold updateV at hv
  split at hv
  · rename_i kt et kv i g v' hp1 hm hk hx hfz
    have hu := mapT_ok hm
    have hkv : a.eval k = kv := isP_ok (x := ev t k) (by rw [hk]; rfl) (ev_ok hf k)
    obtain ⟨S1, h1, h2, h3⟩ := frz_ok h hfz (ev_ok hf y)
    refine Good.weaken h2 ?_
    have hrx := (ev_ok hf x).mono (Keeps.refl _ _) h2 (Ext.refl _)
    rw [hx] at hrx
    cases hq : keyT P kt kv with
    | false => rw [hq] at hv; cases hv
    | true =>
      rw [hq, cond_true] at hv
      split at hv
      · rename_i ks b hgm
        cases hro : b.ro with
        | true => rw [hro] at hv; cases hv
        | false =>
          rw [hro, cond_false] at hv
          obtain ⟨b1, b2, b3, e, pl, b4, b5, hxe, es, clock, b6, b7, b8, b9⟩ := getM_raw h1 hgm hrx
          obtain ⟨d, hd⟩ : ∃ d, P.underlying kt = some d := by rcases keyT_cases hq with ⟨k0, k1, n, hd, rfl⟩ | ⟨s, hd, rfl⟩ <;> exact ⟨_, hd⟩
          obtain ⟨d', hd'⟩ := keyT_isKey hq
          have hlt : pl.b < w.heap.size := (Array.getElem?_eq_some_iff.1 b6).1
          rw [← b7] at hv
          split at hv
          · rename_i j hfk
            rcases findK_ok hq hd es.toList 0 _ hfk with ⟨k1, _⟩ | ⟨j', e', k1, k2, k3, k4⟩
            · cases k1
            · rw [Nat.zero_add] at k1 k2
              cases k1
              cases hb9 : Nat.blt j b.cells.length with
              | false => rw [hb9] at hv; cases hv
              | true =>
                rw [hb9, cond_true] at hv
                cases hv
                have k3' : es[j]? = some e' := by simpa using k3
                have hmk : ∀ e2, es[j]? = some e2 → kv = e2.key := fun e2 he2 => by rw [k3'] at he2; cases he2; exact k4.symm
                obtain ⟨q1, q2⟩ := h1.setMap (b' := { b with cells := b.cells.set j v', row := mrow b.row v' }) b1 b2 hro b4 b5 b2 hro rfl (es.modify j fun e => { e with key := kv, val := a.eval y }) clock
                  (by rw [MapKept.modify_keys j _ (fun e2 he2 => hmk e2 he2)]; exact b7) (by rw [modify_vals]; exact b8.mset j h3)
                  (MapKept.stamped_modify b9 j _ (fun _ _ => rfl) (fun e2 _ he2 => hmk e2 he2))
                simp only [hro] at q1
                refine ⟨.skip, _, m, S1, ?_, rfl, q1, Ext.refl _, fun _ h => h, q2⟩
                have hrun : (Instr.mapUpdate ty (a.eval x) (a.eval k) (a.eval y)).run P w = .ok () (putO w pl.b (.map (es.modify j fun e => { e with key := kv, val := a.eval y }) clock)) := by
                  rw [hxe, hkv]
                  unfold Instr.mapUpdate
                  simp only [Sem.run_bind, run_underlying hu, Result.andThen_ok, MapKept.run_getObj_map b6, keyT_check hq, MapKept.run_findKey hd k2, k3', Option.map_some, Option.getD_some, k4, MapKept.run_keyThatStays hd', putO_run _ b6]
                simp only [execOp, ho, Sem.run_bind, hrun, Result.andThen_ok, Sem.run_pure]
          · rename_i hfk
            cases hv
            rcases findK_ok hq hd es.toList 0 _ hfk with ⟨_, k2, k3⟩ | ⟨j', e', k1, _⟩
            · obtain ⟨q1, q2⟩ := h1.setMap (b' := { b with cells := b.cells ++ [v'], row := mrow b.row v', keys := some (ks ++ [kv]) }) b1 b2 hro b4 b5 rfl hro rfl (es.push { key := kv, val := a.eval y, born := clock }) (clock + 1)
                (by simp [b7]) (by simpa using b8.mpush h3) (MapKept.stamped_push b9 k3)
              simp only [hro] at q1
              refine ⟨.skip, _, m, S1, ?_, rfl, by rw [b7]; exact q1, Ext.refl _, fun _ h => h, q2⟩
              have hrun : (Instr.mapUpdate ty (a.eval x) (a.eval k) (a.eval y)).run P w = .ok () (putO w pl.b (.map (es.push { key := kv, val := a.eval y, born := clock }) (clock + 1))) := by
                rw [hxe, hkv]
                unfold Instr.mapUpdate
                simp only [Sem.run_bind, run_underlying hu, Result.andThen_ok, MapKept.run_getObj_map b6, keyT_check hq, MapKept.run_findKey hd k2, putO_run _ b6]
              simp only [execOp, ho, Sem.run_bind, hrun, Result.andThen_ok, Sem.run_pure]
            · cases k1
          · cases hv
      · cases hv
  · cases hv
theorem delete_ok (h : HS W0 O S0 m0 hp m S w) (hf : FrR w S m t a) {ty kt2 : TypeId} {x k : Operand} (hv : deleteV P hp ty (ev t x) (ev t k) = some (.val v hp')) (ho : o.op = .call { callee := .builtin .delete, args := #[x, k], argTypes := #[ty, kt2] }) :
    Good P W0 O S0 m0 m S w (execOp a.eval o) v hp' := by
  unfold deleteV at hv
  split at hv
  · rename_i kt et kv i g hm hk hx
    have hu := mapT_ok hm
    have hkv : a.eval k = kv := isP_ok (x := ev t k) (by rw [hk]; rfl) (ev_ok hf k)
    have hrx := ev_ok hf x
    rw [hx] at hrx
    cases hq : keyT P kt kv with
    | false => rw [hq] at hv; cases hv
    | true =>
      rw [hq, cond_true] at hv
      split at hv
      · rename_i ks b hgm
        cases hro : b.ro with
        | true => rw [hro] at hv; cases hv
        | false =>
          rw [hro, cond_false] at hv
          obtain ⟨b1, b2, b3, e, pl, b4, b5, hxe, es, clock, b6, b7, b8, b9⟩ := getM_raw h hgm hrx
          obtain ⟨d, hd⟩ : ∃ d, P.underlying kt = some d := by rcases keyT_cases hq with ⟨k0, k1, n, hd, rfl⟩ | ⟨s, hd, rfl⟩ <;> exact ⟨_, hd⟩
          have run : ∀ (es' : Array MapEntry), (Builtin.delete_ #[ty, kt2] o.type #[a.eval x, a.eval k]).run P w = .ok (.tuple #[]) (putO w pl.b (.map es' clock)) → (execOp a.eval o).run P w = .ok (.value (.tuple #[])) (putO w pl.b (.map es' clock)) :=
            fun es' hr => builtin_run (s := Builtin.delete_ #[ty, kt2] o.type #[a.eval x, a.eval k]) ho (fun cs => by simp [builtin]) hr
          have ht : ∀ w', R w' S m (.tup []) (.tuple #[]) := fun w' => R.tup m [] [] rfl (fun j h => absurd h (Nat.not_lt_zero _))
          rw [← b7] at hv
          split at hv
          · rename_i j hfk
            cases hv
            rcases findK_ok hq hd es.toList 0 _ hfk with ⟨k1, _⟩ | ⟨j', e', k1, k2, k3, k4⟩
            · cases k1
            · rw [Nat.zero_add] at k1 k2
              cases k1
              have hjl : j < es.size := by have := (List.getElem?_eq_some_iff.1 k3).1; simpa using this
              have htl : (es.eraseIdxIfInBounds j).toList = es.toList.eraseIdx j := by
                unfold Array.eraseIdxIfInBounds
                rw [dif_pos hjl]; simp
              obtain ⟨q1, q2⟩ := h.setMap (b' := { b with cells := b.cells.eraseIdx j, keys := some ((es.toList.map (·.key)).eraseIdx j) }) b1 b2 hro b4 b5 rfl hro rfl (es.eraseIdxIfInBounds j) clock
                (by rw [htl, map_erase]) (by rw [htl, map_erase]; exact b8.eraseIdx j) (MapKept.stamped_erase b9 j)
              simp only [hro] at q1
              refine ⟨_, _, m, S, run _ ?_, ht _, q1, Ext.refl _, fun _ h => h, q2⟩
              rw [hxe, hkv]
              simp [Builtin.delete_, run_underlying hu, MapKept.run_getObj_map b6, keyT_check hq, MapKept.run_findKey hd k2, putO_run _ b6]
          · rename_i hfk
            cases hv
            rcases findK_ok hq hd es.toList 0 _ hfk with ⟨_, k2, k3⟩ | ⟨j', e', k1, _⟩
            · have hw := putO_self b6
              refine ⟨.value (.tuple #[]), w, m, S, ?_, ht _, h, Ext.refl _, fun _ h => h, Keeps.refl _ _⟩
              have := run es (by
                rw [hxe, hkv]
                simp [Builtin.delete_, run_underlying hu, MapKept.run_getObj_map b6, keyT_check hq, MapKept.run_findKey hd k2, putO_run _ b6])
              rwa [hw] at this
            · cases k1
          · cases hv
      · cases hv
  · cases hv
theorem clear_ok (h : HS W0 O S0 m0 hp m S w) (hf : FrR w S m t a) {ty : TypeId} {x : Operand} (hv : clearV P hp ty (ev t x) = some (.val v hp')) (ho : o.op = .call { callee := .builtin .clear, args := #[x], argTypes := #[ty] }) :
    Good P W0 O S0 m0 m S w (execOp a.eval o) v hp' := by
  unfold clearV at hv
  split at hv
  · rename_i i g hx
    have hrx := ev_ok hf x
    rw [hx] at hrx
    split at hv
    · rename_i q ks b hm hgm
      obtain ⟨kt, et⟩ := q
      have hu := mapT_ok hm
      cases hro : b.ro with
      | true => rw [hro] at hv; cases hv
      | false =>
        rw [hro, cond_false] at hv
        cases hv
        obtain ⟨b1, b2, b3, e, pl, b4, b5, hxe, es, clock, b6, b7, b8, b9⟩ := getM_ok h hgm hrx
        obtain ⟨q1, q2⟩ := h.setMap (b' := { b with cells := [], keys := some [] }) b1 b2 hro b4 b5 rfl hro rfl #[] clock rfl .nil (MapKept.stamped_empty _)
        simp only [hro] at q1
        refine ⟨.value (.tuple #[]), _, m, S, builtin_run (s := Builtin.clear_ #[ty] o.type #[a.eval x]) ho (fun cs => by simp [builtin]) ?_, R.tup m [] [] rfl (fun j h => absurd h (Nat.not_lt_zero _)), q1, Ext.refl _, fun _ h => h, q2⟩
        rw [hxe]
        simp [Builtin.clear_, run_underlying hu, MapKept.run_getObj_map b6, putO_run _ b6]
    · cases hv
  · rename_i xs hx
    have hrx := ev_ok hf x
    rw [hx] at hrx
    split at hv
    · rename_i e he
      cases hv
      have he' : P.underlying ty = some (.slice e) := by
        unfold elemT at he
        split at he
        · rename_i e2 h2; cases he; exact h2
        · cases he
      refine Good.same h (builtin_run (s := Builtin.clear_ #[ty] o.type #[a.eval x]) ho (fun cs => by simp [builtin]) (u := .tuple #[]) ?_) (R.tup m [] [] rfl (fun j h => absurd h (Nat.not_lt_zero _)))
      generalize a.eval x = u at hrx
      cases hrx with
      | lst0 m ad c => cases ad <;> simp [Builtin.clear_, run_underlying he']
      | lst m n xs b o c f h0 h1 h2 h3 => simp [Builtin.clear_, run_underlying he']
    · cases hv
  · rename_i i g k n hx
    have hrx := ev_ok hf x
    rw [hx] at hrx
    split at hv
    · rename_i e he
      have he' : P.underlying ty = some (.slice e) := by
        unfold elemT at he
        split at he
        · rename_i e2 h2; cases he; exact h2
        · cases he
      split at hv
      · rename_i sz z b hsz hz hb
        cases hq : (Nat.ble 1 n && Nat.beq b.esz sz && !b.ro && Nat.beq (cellsA (abs1 z)).length sz && (cellsA (abs1 z)).all one && (!b.row || (cellsA (abs1 z)).all imm0) && Nat.ble (k + n * sz) b.cells.length) with
        | false => rw [hq] at hv; cases hv
        | true =>
          rw [hq, cond_true] at hv
          cases hv
          simp only [Bool.and_eq_true, Bool.not_eq_true'] at hq
          obtain ⟨⟨⟨⟨⟨⟨c1, c2⟩, c3⟩, c4⟩, c5⟩, c6⟩, c7⟩ := hq
          have c1' := Nat.le_of_ble_eq_true c1
          have c4' := Nat.eq_of_beq_eq_true c4
          have c7' := Nat.le_of_ble_eq_true c7
          obtain ⟨b1, b2, e', b3, b4, b5, b6⟩ := getB_ok h hb
          have hza : z.cells.size = sz := by have := (cells_abs1 (w := w) (S := S) (m := m) z).1; rw [c4'] at this; simpa using this.symm
          have hzr : RL w S m (List.replicate n (cellsA (abs1 z))).flatten (Builtin.zeroCells z.cells n).toList := by
            have h1 := rep_RL (w := w) (S := S) (m := m) (cells_abs1 z) n
            have h2 := zeros_eq z.cells n (n * sz) (by rw [hza])
            rw [← h2] at h1
            unfold Builtin.zeroCells
            rw [show n * z.cells.size = n * sz by rw [hza]]
            exact h1
          have hlen : (List.replicate n (cellsA (abs1 z))).flatten.length = n * sz := by simp [c4']
          have hone : (List.replicate n (cellsA (abs1 z))).flatten.all one = true := by
            rw [List.all_eq_true]
            intro q hq
            obtain ⟨l, hl, hql⟩ := List.mem_flatten.1 hq
            rw [(List.mem_replicate.1 hl).2] at hql
            exact List.all_eq_true.1 c5 q hql
          have himm : (!b.row || (List.replicate n (cellsA (abs1 z))).flatten.all imm0) = true := by
            cases hrow : b.row with
            | false => rfl
            | true =>
              rw [hrow] at c6
              simp only [Bool.not_true, Bool.false_or] at c6 ⊢
              rw [List.all_eq_true]
              intro q hq
              obtain ⟨l, hl, hql⟩ := List.mem_flatten.1 hq
              rw [(List.mem_replicate.1 hl).2] at hql
              exact List.all_eq_true.1 c6 q hql
          generalize hux : a.eval x = ux at hrx
          cases hrx with
          | refOld m i g k n e2 ad l c q1 q2 => rw [b3] at q1; cases q1; omega
          | refNil m i e2 ad q1 q2 => omega
          | ref m i k n e2 pl c q1 q2 q3 q4 =>
            rw [b3] at q1; cases q1
            obtain ⟨r1, r2, r3, r4, vs, r5, r6⟩ := b6 pl q2
            obtain ⟨k1, k2⟩ := h.write (k := k) b1 b3 q2 (getB_keys hb) c3 (by rw [hlen]; omega) (row_imm hzr himm)
            have hnl : (Builtin.zeroCells z.cells n).toList.length = n * sz := by rw [← hzr.1, hlen]
            refine ⟨.value (.tuple #[]), _, m, S, builtin_run (s := Builtin.clear_ #[ty] o.type #[a.eval x]) ho (fun cs => by simp [builtin]) ?_, R.tup m [] [] rfl (fun j h => absurd h (Nat.not_lt_zero _)), k1, Ext.refl _, fun _ h => h, k2⟩
            have hst := run_storeCells_cells (P := P) pl.b (pl.o + k) (Builtin.zeroCells z.cells n).toList 0 w (fun j hj => by have := (r4 (pl.o + k + j) (by omega)).1; simpa using this) (fun j hj => by have := (r4 (pl.o + k + j) (by omega)).2; simpa using this) (ones_ok hzr hone)
            simp only [Nat.add_zero] at hst
            rw [hux]
            obtain ⟨n', rfl⟩ : ∃ n', n = n' + 1 := ⟨n - 1, by omega⟩
            simp only [Builtin.clear_, List.getElem?_toArray, List.getElem?_cons_zero, Sem.run_bind, run_underlying he', Result.andThen_ok, zeroT_run hz, hst, Sem.run_pure]
      · cases hv
    · cases hv
  · cases hv
theorem mlen_ok (h : HS W0 O S0 m0 hp m S w) (hf : FrR w S m t a) {x : Operand} {ty k e : TypeId} {n : Nat} (hl : mlenV hp (ev t x) = some n) (hu : P.underlying ty = some (.map k e)) (ho : o.op = .call { callee := .builtin .len, args := #[x], argTypes := #[ty] }) :
    Good P W0 O S0 m0 m S w (execOp a.eval o) (.p (.int .i64 n)) hp := by
  unfold mlenV at hl
  split at hl
  · rename_i i g hx
    split at hl
    · rename_i ks b hgm
      cases hl
      have hrx := ev_ok hf x
      rw [hx] at hrx
      obtain ⟨b1, b2, b3, e', pl, b4, b5, hxe, es, clock, b6, b7, b8, b9⟩ := getM_ok h hgm hrx
      refine Good.same h (u := .int .i64 ks.length) ?_ (.p _ _)
      refine builtin_run (s := Builtin.len_ #[ty] o.type #[a.eval x]) ho (fun cs => by simp [builtin]) ?_
      rw [hxe]
      simp [Builtin.len_, run_underlying hu, MapKept.run_getObj_map b6, goInt, ← b7]
    · cases hl
  · cases hl

/-! ### copied -/
theorem elems_shape (h : HS W0 O S0 m0 hp m S w) {x : AV} {u : Value} {n : Nat} {xs : List AV} (hr : R w S m x u) (hx : elemsOf hp x = some (n, xs)) (hs : ∀ s, x ≠ .p (.string s)) :
    (∃ b of c news, u = .slice (some ⟨b, of, none⟩) n c ∧ w.rangeAt b of news ∧ RL w S m xs news) ∨ (∃ ad c, u = .slice ad 0 c ∧ n = 0 ∧ xs = []) := by
  have flat : ∀ {n c b of : Nat} {xs : List AV} {f : Nat → Value}, (∀ j, j < xs.length → w.cell? ⟨b, of + j, none⟩ = some (f j)) → (∀ j (h : j < xs.length), R w S noEM xs[j] (f j)) →
      (∃ b' of' c' news, Value.slice (some ⟨b, of, none⟩) n c = .slice (some ⟨b', of', none⟩) n c' ∧ w.rangeAt b' of' news ∧ RL w S m xs news) := by
    intro n c b of xs f h2 h3
    refine ⟨b, of, c, (List.range xs.length).map f, rfl, ?_, by simp, ?_⟩
    · intro j v hv
      rw [List.getElem?_map] at hv
      cases hq : (List.range xs.length)[j]? with
      | none => rw [hq] at hv; cases hv
      | some q =>
        rw [hq] at hv
        obtain ⟨hl, rfl⟩ := List.getElem?_eq_some_iff.1 hq
        simp at hl hv
        subst hv
        exact h2 j hl
    · intro j h4 h5
      simp only [List.getElem_map, List.getElem_range]
      exact (h3 j h4).mono (Keeps.refl _ _) (fun _ h => h) (Ext.no m)
  unfold elemsOf at hx
  split at hx
  · cases hx
    cases hr with
    | lst0 m a c => exact .inr ⟨a, c, rfl, rfl, rfl⟩
    | lst m n xs b of c f h0 h2 h3 h4 => exact .inl (flat h3 h4)
  · cases hx
    cases hr with
    | lit m n xs b of f h2 h3 h4 => exact .inl (flat h3 h4)
  · cases hx
    cases hr with
    | emp m a => exact .inr ⟨a, 0, rfl, rfl, rfl⟩
  · cases hx
    cases hr with
    | p m => exact .inr ⟨none, _, rfl, rfl, rfl⟩
  · split at hx
    · rename_i i g k n' x0 b hb
      split at hx
      · rename_i cs hcs
        cases hx
        obtain ⟨b1, b2, e, b3, b4, b5, b6⟩ := getB_ok h hb
        obtain ⟨rfl, hlen, _⟩ := ldN_ok hcs
        cases hr with
        | ref m i k n e' pl c q1 q2 q3 q4 =>
          rw [b3] at q1; cases q1
          obtain ⟨r1, r2, r3, r4, vs, r5, r6⟩ := b6 pl q2
          have hrl : RL w S (cond b.row noEM m) ((b.cells.drop k).take (n * b.esz)) ((vs.drop k).take (n * b.esz)) := (r6.drop k).take _
          have hrl' : RL w S m ((b.cells.drop k).take (n * b.esz)) ((vs.drop k).take (n * b.esz)) := by
            cases hrow : b.row with
            | true => rw [hrow] at hrl; exact hrl.mono (Keeps.refl _ _) (fun _ h => h) (Ext.no m)
            | false => rw [hrow] at hrl; exact hrl
          exact .inl ⟨pl.b, pl.o + k, c, _, rfl, range_sub r5, hrl'⟩
        | refNil m i e' ad q1 q2 =>
          rw [b3] at q1; cases q1
          have hc := b5 q2
          have : ((b.cells.drop 0).take (0 * b.esz)) = [] := by simp
          exact .inr ⟨ad, 0, rfl, rfl, this⟩
        | refOld m i g k n e' ad l c q1 q2 => rw [b3] at q1; cases q1; omega
      · cases hx
    · cases hx
  · rename_i s; exact absurd rfl (hs s)
  · cases hx
theorem copy_ok (h : HS W0 O S0 m0 hp m S w) (hf : FrR w S m t a) {dt st : TypeId} {x y : Operand} (hv : copyV P hp dt st (ev t x) (ev t y) = some (.val v hp')) (ho : o.op = .call { callee := .builtin .copy, args := #[x, y], argTypes := #[dt, st] }) :
    Good P W0 O S0 m0 m S w (execOp a.eval o) v hp' := by
  unfold copyV at hv
  split at hv
  · rename_i e i g k n he hx
    have he' : P.underlying dt = some (.slice e) := by
      unfold elemT at he
      split at he
      · rename_i e2 h2; cases he; exact h2
      · cases he
    split at hv
    · rename_i sz b mn xs hsz hb hel
      cases hc : (srcT P st sz (ev t y) && (elemT P st).isSome && Nat.beq b.esz sz && Nat.beq xs.length (mn * sz) && !b.ro && xs.all one && (!b.row || xs.all imm0) && Nat.ble (k + n * sz) b.cells.length) with
      | false => rw [hc] at hv; cases hv
      | true =>
        rw [hc, cond_true] at hv
        cases hv
        simp only [Bool.and_eq_true, Bool.not_eq_true'] at hc
        obtain ⟨⟨⟨⟨⟨⟨⟨c1, c2⟩, c3⟩, c4⟩, c5⟩, c6⟩, c7⟩, c8⟩ := hc
        have c3' := Nat.eq_of_beq_eq_true c3
        have c4' := Nat.eq_of_beq_eq_true c4
        have c8' := Nat.le_of_ble_eq_true c8
        obtain ⟨b1, b2, e', b3, b4, b5, b6⟩ := getB_ok h hb
        have hns : ∀ s, ev t y ≠ .p (.string s) := by
          intro s hs
          rw [hs] at c1
          unfold srcT at c1
          unfold elemT at c2
          split at c1
          · rename_i hu; rw [hu] at c2; cases c2
          · cases c1
          · cases c1
        have hrx := ev_ok hf x
        rw [hx] at hrx
        have hlen : (xs.take (Nat.min mn n * sz)).length = Nat.min mn n * sz := by
          rw [List.length_take, c4']
          exact Nat.min_eq_left (Nat.mul_le_mul_right _ (Nat.min_le_left _ _))
        have hmn : Nat.min mn n * sz ≤ n * sz := Nat.mul_le_mul_right _ (Nat.min_le_right _ _)
        have run : ∀ w', (Builtin.copy_ #[dt, st] o.type #[a.eval x, a.eval y]).run P w = .ok (.int .i64 (Nat.min mn n)) w' → (execOp a.eval o).run P w = .ok (.value (.int .i64 (Nat.min mn n))) w' :=
          fun w' hr => builtin_run (s := Builtin.copy_ #[dt, st] o.type #[a.eval x, a.eval y]) ho (fun cs => by simp [builtin]) hr
        generalize hux : a.eval x = ux at hrx
        generalize huy : a.eval y = uy at run
        have hry := ev_ok hf y
        rw [huy] at hry
        have src : ∃ news : List Value, (Builtin.firstCells sz (Nat.min mn n) uy).run P w = .ok news.toArray w ∧ RL w S m (xs.take (Nat.min mn n * sz)) news ∧ (Builtin.lenOf uy).run P w = .ok mn w := by
          rcases elems_shape h hry hel hns with ⟨bb, of, c, news, rfl, h1, h2⟩ | ⟨ad, c, rfl, rfl, rfl⟩
          · refine ⟨news.take (Nat.min mn n * sz), ?_, h2.take _, rfl⟩
            refine run_firstCells_some (P := P) w sz (Nat.min mn n) ⟨bb, of, none⟩ mn c (news.take (Nat.min mn n * sz)) ?_ (fun j v hv => ?_)
            · rw [← (h2.take (Nat.min mn n * sz)).1, hlen]
            · rw [Addr.add_mid]
              have hj : j < Nat.min mn n * sz := by have := (List.getElem?_eq_some_iff.1 hv).1; rw [List.length_take] at this; omega
              rw [List.getElem?_take_of_lt hj] at hv
              exact h1 j v hv
          · refine ⟨[], ?_, by simpa using RL.nil, rfl⟩
            have : Nat.min 0 n = 0 := Nat.min_eq_left (Nat.zero_le _)
            rw [this]
            exact first_nil sz ad c w
        obtain ⟨news, s1, s2, s3⟩ := src
        have hi64 : (goInt (Nat.min mn n) : Value) = .int .i64 ((Nat.min mn n : Nat) : Int) := rfl
        cases hrx with
        | refOld m i g k n e2 ad l c q1 q2 => rw [b3] at q1; cases q1; omega
        | refNil m i e2 ad q1 q2 =>
          rw [b3] at q1; cases q1
          have hbc := b5 q2
          have h0 : Nat.min mn 0 = 0 := Nat.min_eq_right (Nat.zero_le _)
          have hn0 : news = [] := List.eq_nil_of_length_eq_zero (by rw [← s2.1, hlen, h0]; omega)
          subst hn0
          have hsp : ({ b with cells := splice b.cells 0 (xs.take (Nat.min mn 0 * sz)) } : Blk) = b := by
            rw [h0, Nat.zero_mul]; cases b; simp only at hbc; subst hbc; rfl
          rw [hsp, set_self _ _ _ b1]
          refine Good.same h (run w ?_) (.p _ _)
          rw [hux]
          simp only [Builtin.copy_]
          simp only [List.getElem?_toArray, List.getElem?_cons_zero, List.getElem?_cons_succ, Sem.run_bind, run_underlying he', Result.andThen_ok, s3, szT_run hsz]
          rw [s1]
          cases ad <;> simp [storeCells, goInt]
        | ref m i k n e2 pl c q1 q2 q3 q4 =>
          rw [b3] at q1; cases q1
          obtain ⟨r1, r2, r3, r4, vs, r5, r6⟩ := b6 pl q2
          have hnl : news.length = Nat.min mn n * sz := by rw [← s2.1, hlen]
          have hone : (xs.take (Nat.min mn n * sz)).all one = true := List.all_eq_true.2 fun z hz => List.all_eq_true.1 c6 z (List.mem_of_mem_take hz)
          have himm : (!b.row || (xs.take (Nat.min mn n * sz)).all imm0) = true := by
            cases hrow : b.row with
            | false => rfl
            | true =>
              rw [hrow] at c7
              simp only [Bool.not_true, Bool.false_or] at c7 ⊢
              exact List.all_eq_true.2 fun z hz => List.all_eq_true.1 c7 z (List.mem_of_mem_take hz)
          obtain ⟨k1, k2⟩ := h.write (k := k) b1 b3 q2 (getB_keys hb) c5 (by rw [hlen]; omega) (row_imm s2 himm)
          refine ⟨_, _, m, S, run _ ?_, .p _ _, k1, Ext.refl _, fun _ h => h, k2⟩
          have hst := run_storeCells_cells (P := P) pl.b (pl.o + k) news 0 w (fun j hj => by have := (r4 (pl.o + k + j) (by omega)).1; simpa using this) (fun j hj => by have := (r4 (pl.o + k + j) (by omega)).2; simpa using this) (ones_ok s2 hone)
          simp only [Nat.add_zero] at hst
          rw [hux]
          simp only [Builtin.copy_, List.getElem?_toArray, List.getElem?_cons_zero, List.getElem?_cons_succ, Sem.run_bind, run_underlying he', Result.andThen_ok, s3, szT_run hsz]
          rw [s1]
          simp [hst, goInt]
    · cases hv
  · cases hv
end
end Go.Vm

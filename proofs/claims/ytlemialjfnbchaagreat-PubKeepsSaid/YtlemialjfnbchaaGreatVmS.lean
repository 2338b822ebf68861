/- Each operation of the virtual memory is the model's: append, len, slices of slices, conversions, calls. -/
import Derived.Test.YtlemialjfnbchaaGreatVmQ
import Derived.Lib.AppendZerosOnto

namespace Go.Vm
open Go

section
variable {P : Program} {W0 : World} {O S0 : Nat → Prop} {m0 : EM} {hp hp' : List Blk} {m : EM} {S : Nat → Prop} {w : World} {a : Act} {t : Tr} {o : Oper} {v : AV}

/-! ### append -/
theorem first_nil (sz : Nat) (a : Option Addr) (c : Nat) (w : World) : (Builtin.firstCells sz 0 (.slice a 0 c)).run P w = .ok #[] w := by
  cases a with
  | none => simp [Builtin.firstCells]
  | some a => simp [Builtin.firstCells, loadCells, loadCellsFrom]
theorem Src.nil' {sz : Nat} {tx e' : TypeId} (hk : P.underlying tx = some (.slice e')) (a : Option Addr) (c : Nat) (w : World) : Src P sz tx (.slice a 0 c) 0 [] w :=
  ⟨.inl ⟨e', hk⟩, fun _ => rfl, first_nil sz a c w, first_nil sz a c w.drew, by simp, fun _ h => by cases h⟩
theorem lst_src {u : Value} {n sz : Nat} {tx e' : TypeId} {xs : List AV} (hu : P.underlying tx = some (.slice e')) (hr : R w S m (.lst n xs) u) (hl : xs.length = n * sz) (h1 : xs.all one = true) :
    ∃ news, Src P sz tx u n news w ∧ RL w S m xs news := by
  cases hr with
  | lst0 m a c => exact ⟨[], Src.nil' hu a c w, .nil⟩
  | lst m n xs b of c f h0 h2 h3 h4 =>
    have hrl : RL w S m xs ((List.range xs.length).map f) := ⟨by simp, fun j h5 h6 => by
      simp only [List.getElem_map, List.getElem_range]
      exact (h4 j h5).mono (Keeps.refl _ _) (fun _ h => h) (Ext.no m)⟩
    refine ⟨_, Src.ofSlice w hu ⟨b, of, none⟩ n c ((List.range xs.length).map f) (by simp [hl]) (fun j v hv => ?_) (ones_ok hrl h1), hrl⟩
    rw [Addr.add_mid]
    rw [List.getElem?_map] at hv
    cases hq : (List.range xs.length)[j]? with
    | none => rw [hq] at hv; cases hv
    | some q =>
      rw [hq] at hv
      obtain ⟨hl', rfl⟩ := List.getElem?_eq_some_iff.1 hq
      simp at hl' hv
      subst hv
      exact h3 j hl'
theorem elems_src (h : HS W0 O S0 m0 hp m S w) {x : AV} {u : Value} {n sz : Nat} {tx : TypeId} {xs : List AV} (hr : R w S m x u) (hx : elemsOf hp x = some (n, xs)) (ht : srcT P tx sz x = true) (hl : xs.length = n * sz) (h1 : xs.all one = true) :
    ∃ news, Src P sz tx u n news w ∧ RL w S m xs news := by
  unfold srcT at ht
  split at ht
  · rename_i hu
    split at ht
    · rename_i s
      cases Nat.eq_of_beq_eq_true ht
      cases hr
      simp only [elemsOf] at hx
      cases hx
      exact ⟨byteCells s, Src.ofString w hu s, by
        unfold byteCells
        refine ⟨by simp, fun j h2 h3 => ?_⟩
        simp only [List.getElem_map]
        exact .p _ _⟩
    · cases ht
  · rename_i e' hu
    split at ht
    · cases ht
    · rename_i hns
      unfold elemsOf at hx
      split at hx
      · cases hx
        exact lst_src hu hr hl h1
      · cases hx
        exact lst_src hu (lit_lst hr) hl h1
      · cases hx; cases hr with
        | emp m a => exact ⟨[], Src.nil' hu a 0 w, .nil⟩
      · cases hx; cases hr with
        | p m => exact ⟨[], Src.nil' hu none _ w, .nil⟩
      · split at hx
        · rename_i i g k n' x0 b hb
          split at hx
          · rename_i cs hcs
            cases hx
            obtain ⟨b1, b2, e, b3, b4, b5, b6⟩ := getB_ok h hb
            obtain ⟨rfl, hlen, _⟩ := ldN_ok hcs
            cases hr with
            | ref m i k n e' pl c q1 q2 q3 q4 =>
              rw [b3] at q1; cases q1
              obtain ⟨r1, r2, r3, r4, vs, r5, r6⟩ := b6 pl q2
              have hrl : RL w S (cond b.row noEM m) ((b.cells.drop k).take (n * b.esz)) ((vs.drop k).take (n * b.esz)) := (r6.drop k).take _
              have hrl' : RL w S m ((b.cells.drop k).take (n * b.esz)) ((vs.drop k).take (n * b.esz)) := by
                cases hrow : b.row with
                | true => rw [hrow] at hrl; exact hrl.mono (Keeps.refl _ _) (fun _ h => h) (Ext.no m)
                | false => rw [hrow] at hrl; exact hrl
              refine ⟨_, Src.ofSlice w hu ⟨pl.b, pl.o + k, none⟩ n c ((vs.drop k).take (n * b.esz)) (by rw [← hrl.1, hl]) (fun j v hv => ?_) (ones_ok hrl' h1), hrl'⟩
              rw [Addr.add_mid]
              exact range_sub r5 j v hv
            | refNil m i e' ad q1 q2 =>
              rw [b3] at q1; cases q1
              have hc := b5 q2
              have : ((b.cells.drop 0).take (0 * b.esz)) = [] := by simp [hc]
              rw [this]
              exact ⟨[], Src.nil' hu ad 0 w, .nil⟩
            | refOld m i g k n e' ad l c q1 q2 => rw [b3] at q1; cases q1; omega
          · cases hx
        · cases hx
      · rename_i s; exact absurd rfl (hns s)
      · cases hx
  · cases ht

theorem size_zero (z : Array Value) (n : Nat) : (Builtin.zeroCells z n).size = n * z.size := size_zeroCells z n
/-- a grown row, as the model makes it -/
theorem grow_arr (w : World) (news : List Value) (z : Value) (need old : Nat) (e : TypeId) (sz : Nat) (hz : z.cells.size = sz) (hl : news.length = need * sz) :
    (news.toArray ++ Builtin.zeroCells z.cells (grownCap w need old e - need)).size = grownCap w need old e * sz := by
  have h2 := grownCap_ge w need old e
  rw [Array.size_append, size_zeroCells, hz, List.size_toArray, hl, ← Nat.add_mul]
  congr 1
  omega
theorem append_run (_hf : FrR w S m t a) {s x : Operand} {st xt : TypeId} {u : Value} {w' : World} (ho : o.op = .call { callee := .builtin .append, args := #[s, x], argTypes := #[st, xt] })
    (hr : (Builtin.append_ #[st, xt] o.type #[a.eval s, a.eval x]).run P w = .ok u w') : (execOp a.eval o).run P w = .ok (.value u) w' := by
  simp only [execOp, ho, resolve, Sem.run_bind, Sem.run_pure, Result.andThen_ok, invoke, builtin]
  have : (#[s, x].map a.eval) = #[a.eval s, a.eval x] := by simp
  rw [this, hr]
  rfl
theorem append_nothing {st tx ty e : TypeId} {i : TypeInfo} (ht : P.underlying st = some (.slice e)) (hi : P.info? e = some i) (ad : Option Addr) {x : Value} (hs : Src P i.size tx x 0 [] w) :
    (Builtin.append_ #[st, tx] ty #[.slice ad 0 0, x]).run P w = .ok (.slice ad 0 0) w := by
  rcases hs.kind with ⟨e', hk⟩ | hk <;> cases ad <;> simp [Builtin.append_, run_underlying ht, run_underlying hk, sizeOf, typeInfo, hi, hs.len, hs.cells, storeCells]
/-- a program of the model that makes one row -/
def rowSem (c : Array Value) (el : TypeId) (n cap : Nat) : Sem Next := .new (.cells c el) fun r => .pure (.value (.slice (some ⟨r, 0, none⟩) n cap))
theorem rowSem_run (c : Array Value) (el : TypeId) (n cap : Nat) (w : World) : (rowSem c el n cap).run P w = .ok (.value (.slice (some ⟨w.heap.size, 0, none⟩) n cap)) (w.alloc (.cells c el)) := rfl
theorem range_after {b of n : Nat} {olds news : List Value} (hr : w.rangeAt b of olds) (hn : olds.length = n) (hth : ∀ j, j < news.length → (w.cell? ⟨b, of + n + j, none⟩).isSome = true) :
    (w.setCells b (of + n) news).rangeAt b of (olds ++ news) := by
  intro j u hu
  by_cases c1 : j < n
  · rw [List.getElem?_append_left (by omega)] at hu
    rw [World.cell?_setCells_out _ _ _ _ _ (fun _ _ => .inl (by show of + j < of + n; omega))]
    exact hr j u hu
  · rw [List.getElem?_append_right (by omega), hn] at hu
    obtain ⟨hj, rfl⟩ := List.getElem?_eq_some_iff.1 hu
    have := World.cell?_setCells_in b news (of + n) w hth (j - n) hj
    rwa [show of + n + (j - n) = of + j by omega] at this
/-- a row under a new age -/
theorem Good.turn {sm : Sem Next} {w' : World} {i g n : Nat} {b b' : Blk} {pl' : Option Place} {us : Value} (h : HS W0 O S0 m0 hp m S w) (hb : hp[i]? = some b) (hg : b.gen = g) (hro' : b'.ro = false) (hgen : b'.gen = g + 1) (B : Option Nat)
    (hB : ∀ c, B = some c → ∃ e pl, b.ro = false ∧ m i = some e ∧ e.pl = some pl ∧ pl.b = c) (h1 : w'.os = w.os) (h2 : w'.tape = w.tape) (h3 : w'.output = w.output) (h4 : w.heap.size ≤ w'.heap.size)
    (hk : ∀ c, c < w.heap.size → B ≠ some c → w'.heap[c]? = w.heap[c]?) (hnil : pl' = none → b'.cells = [])
    (hpl : ∀ pl, pl' = some pl → BlkX w' S (updM m i ⟨pl', g + 1⟩) b' pl ∧ ((w.heap.size ≤ pl.b) ∨ B = some pl.b))
    (hr : sm.run P w = .ok (.value us) w') (hv : R w' S (updM m i ⟨pl', g + 1⟩) (.ref i (g + 1) 0 n) us) :
    Good P W0 O S0 m0 m S w sm (.ref i (g + 1) 0 n) (hp.set i b') := by
  have hi : i < hp.length := (List.getElem?_eq_some_iff.1 hb).1
  obtain ⟨k1, k2, k3⟩ := h.upd (w' := w') i (Nat.le_of_lt hi) b' ⟨pl', g + 1⟩ (get_set' hp i _ hi) B (fun c hc => by obtain ⟨e, pl, q1, q2, q3, q4⟩ := hB c hc; exact ⟨b, e, pl, hb, q1, q2, q3, q4⟩) h1 h2 h3 h4 hk hgen.symm hnil
    (fun e he => .inr (by have := (h.blk i b e hb he).1; show e.gen < g + 1; omega)) hro' (fun pl hq => ⟨(hpl pl hq).1, by
      rcases (hpl pl hq).2 with q | q
      · exact .inl q
      · obtain ⟨e, pl2, q1, q2, q3, q4⟩ := hB pl.b q
        exact .inr ⟨b, e, pl2, hb, q1, q2, q3, q4⟩⟩)
  exact ⟨_, w', _, S, hr, hv, k1, k2, fun _ h => h, k3⟩
/-- what an append does with what is appended -/
structure AppX (P : Program) (st tx ty e : TypeId) (i : TypeInfo) (z : Value) (x : Value) (n : Nat) (news : List Value) (w : World) : Prop where
  nothing : n = 0 → ∀ ad, (Builtin.append_ #[st, tx] ty #[.slice ad 0 0, x]).run P w = .ok (.slice ad 0 0) w
  room : ∀ b off sLen sCap, sLen + n ≤ sCap → (∀ j, j < news.length → (w.cell? ⟨b, off + sLen * i.size + j, none⟩).isSome = true) → (∀ j, j < news.length → w.frozen? ⟨b, off + sLen * i.size + j, none⟩ = false) →
    (Builtin.append_ #[st, tx] ty #[.slice (some ⟨b, off, none⟩) sLen sCap, x]).run P w = .ok (.slice (some ⟨b, off, none⟩) (sLen + n) sCap) (w.setCells b (off + sLen * i.size) news)
  grow : ∀ (base : Option Addr) (sLen sCap : Nat) (olds : List Value), 0 < n → (Builtin.firstCells i.size sLen (.slice base sLen sCap)).run P w.drew = .ok olds.toArray w.drew → sCap < sLen + n → ((sLen + n : Nat) : Int) ≤ 9223372036854775807 →
    Builtin.nextslicecap (sLen + n) sCap * i.bytes ≤ 281474976710656 →
    (Builtin.append_ #[st, tx] ty #[.slice base sLen sCap, x]).run P w = .ok (.slice (some ⟨w.heap.size, 0, none⟩) (sLen + n) (grownCap w (sLen + n) sCap e))
        (w.drew.alloc (.cells ((olds ++ news).toArray ++ Builtin.zeroCells z.cells (grownCap w (sLen + n) sCap e - (sLen + n))) e))
theorem AppX.ofSrc {st tx ty e : TypeId} {i : TypeInfo} {z : Value} {x : Value} {n : Nat} {news : List Value} (ht : P.underlying st = some (.slice e)) (hi : P.info? e = some i) (hz : i.zero = some z) (hs : Src P i.size tx x n news w) :
    AppX P st tx ty e i z x n news w where
  nothing := fun hn ad => by
    subst hn
    have : news = [] := List.eq_nil_of_length_eq_zero (by rw [hs.newsLen, Nat.zero_mul])
    subst this
    exact append_nothing ht hi ad hs
  room := fun b off sLen sCap h1 h2 h3 => run_append_room_src (P := P) w st tx ty e i ht hi b off sLen sCap x n news hs h1 h2 h3
  grow := fun base sLen sCap olds _ h1 h2 h3 h4 => run_append_grow_src (P := P) w st tx ty e i z ht hi hz base sLen sCap olds h1 x n news hs h2 h3 h4
theorem AppX.ofZeros {st tx ty e : TypeId} {i : TypeInfo} {z : Value} {kq kn : IntKind} {n : Nat} (ht : P.underlying st = some (.slice e)) (htn : P.underlying tx = some (.int kn)) (hi : P.info? e = some i) (hz : i.zero = some z) (hzs : z.cells.size = i.size) (hone : ∀ u ∈ z.cells.toList, u.oneCell' = true)
    (hs : 0 < i.size) (hb1 : 1 ≤ i.bytes) (hb : n * i.bytes ≤ 70368744177664) : AppX P st tx ty e i z (.int kq n) n (Builtin.zeroCells z.cells n).toList w := by
  have hnb : n ≤ 70368744177664 := Nat.le_trans (Nat.le_mul_of_pos_right n hb1) hb
  have hw : IntKind.i64.wrap (n : Int) = n := IntWalk.i64_in _ (by omega)
  have h48i : ¬ (281474976710656 < (n : Int) * (i.bytes : Int)) := by
    rw [← Int.natCast_mul]
    omega
  have hneg : ¬ ((n : Int) < 0) := by omega
  have hlen : (Builtin.zeroCells z.cells n).toList.length = n * i.size := by rw [Array.length_toList, size_zeroCells, hzs]
  have hzone : ∀ u ∈ (Builtin.zeroCells z.cells n).toList, u.oneCell' = true := by
    intro u hu
    unfold Builtin.zeroCells at hu
    rw [zeros_eq z.cells n _ rfl] at hu
    obtain ⟨l, hl, hul⟩ := List.mem_flatten.1 hu
    rw [(List.mem_replicate.1 hl).2] at hul
    exact hone u hul
  have app : (if n * i.size = 0 then pure #[] else (do pure (Builtin.zeroCells (← zeroValue e).cells n)) : Sem (Array Value)).run P w = .ok (Builtin.zeroCells z.cells n) w := by
    by_cases h0 : n * i.size = 0
    · rw [if_pos h0, Sem.run_pure]
      congr 1
      exact (Array.eq_empty_of_size_eq_zero (by rw [← Array.length_toList, hlen, h0])).symm
    · rw [if_neg h0]
      simp [zeroValue, typeInfo, hi, hz]
  refine ⟨fun hn ad => ?_, fun b off sLen sCap h1 h2 h3 => ?_, fun base sLen sCap olds h0 h1 h2 h3 h4 => ?_⟩
  · subst hn
    cases ad <;> simp [Builtin.append_, run_underlying ht, run_underlying htn, sizeOf, typeInfo, hi, asInt, asIntOf, storeCells, show IntKind.i64.wrap (0 : Int) = 0 from by decide]
  · have hst := run_storeCells_cells (P := P) b (off + sLen * i.size) (Builtin.zeroCells z.cells n).toList 0 w (by simpa using h2) (by simpa using h3) hzone
    simp only [Nat.add_zero] at hst
    simp [Builtin.append_, run_underlying ht, run_underlying htn, sizeOf, typeInfo, hi, asInt, asIntOf, hw, hneg, h48i, h1, Addr.add_lit]
    by_cases h0 : n * i.size = 0
    · have hn0 : (Builtin.zeroCells z.cells n) = #[] := Array.eq_empty_of_size_eq_zero (by rw [← Array.length_toList, hlen, h0])
      have hor : n = 0 ∨ i.size = 0 := Nat.mul_eq_zero.1 h0
      simp [h0,  hn0, storeCells, World.setCells]
    · have hor : ¬ (n = 0 ∨ i.size = 0) := fun h => h0 (by rcases h with h | h <;> simp [h])
      simp [h0,  zeroValue, typeInfo, hi, hz, hst]
  · have := Lib.run_append_grow_zeros (P := P) w st tx ty e i z kq kn ht htn hi hz base sLen sCap olds h1 n h0 hs h2 h3 (by omega) h4
    rw [this]
    congr 3
    apply Array.ext'
    simp
theorem append_ok (h : HS W0 O S0 m0 hp m S w) (hf : FrR w S m t a) {s x : Operand} {st xt : TypeId} (ho : o.op = .call { callee := .builtin .append, args := #[s, x], argTypes := #[st, xt] })
    (hv : appendV P hp st xt (ev t s) (ev t x) = some (.val v hp')) : Good P W0 O S0 m0 m S w (execOp a.eval o) v hp' := by
  unfold appendV at hv
  split at hv
  · cases hv
  · rename_i e he
    have he' : P.underlying st = some (.slice e) := by
      unfold elemT at he
      split at he
      · rename_i e2 h2; cases he; exact h2
      · cases he
    split at hv
    · rename_i sz by_ z mn new hsz hby hz hel
      cases hc : (Nat.ble 1 sz && Nat.ble 1 by_ && Nat.beq (cellsA (abs1 z)).length sz && Nat.beq new.length (mn * sz) && new.all one) with
      | false => rw [hc] at hv; cases hv
      | true =>
        rw [hc, cond_true] at hv
        simp only [Bool.and_eq_true] at hc
        obtain ⟨⟨⟨⟨c2, c3⟩, c4⟩, c5⟩, c7⟩ := hc
        have c2' := Nat.le_of_ble_eq_true c2
        have c3' := Nat.le_of_ble_eq_true c3
        have c4' := Nat.eq_of_beq_eq_true c4
        have c5' := Nat.eq_of_beq_eq_true c5
        obtain ⟨i, hi, hisz⟩ := szT_info hsz
        have hib : i.bytes = by_ := by obtain ⟨i2, h2, h3⟩ := bytesT_info hby; rw [hi] at h2; cases h2; exact h3
        have hiz : i.zero = some z := by unfold zeroT at hz; rw [hi] at hz; exact hz
        have hza : z.cells.size = sz := by have := (cells_abs1 (w := w) (S := S) (m := m) z).1; rw [c4'] at this; simpa using this.symm
        obtain ⟨news, hsrc', hrl⟩ : ∃ news, AppX P st xt o.type e i z (a.eval x) mn news w ∧ RL w S m new news := by
          unfold appSrc at hel
          split at hel
          · rename_i kn htn
            split at hel
            · rename_i kq n z2 by2 hx hz2 hby2
              rw [hz] at hz2; cases hz2
              rw [hby] at hby2; cases hby2
              cases hb : Nat.ble (n * by_) 70368744177664 with
              | false => rw [hb] at hel; cases hel
              | true =>
                rw [hb, cond_true] at hel
                cases hel
                have hxe : a.eval x = .int kq (mn : Int) := isP_ok (x := ev t x) (by rw [hx]; rfl) (ev_ok hf x)
                have hzr : RL w S m (List.replicate mn (cellsA (abs1 z))).flatten (Builtin.zeroCells z.cells mn).toList := by
                  have h1 := rep_RL (w := w) (S := S) (m := m) (cells_abs1 z) mn
                  rw [← zeros_eq z.cells mn (mn * z.cells.size) rfl] at h1
                  exact h1
                refine ⟨_, ?_, hzr⟩
                rw [hxe]
                by_cases hm0 : mn = 0
                · subst hm0
                  have hzn : (Builtin.zeroCells z.cells 0) = #[] := Array.eq_empty_of_size_eq_zero (by rw [size_zeroCells]; omega)
                  refine ⟨fun _ ad => ?_, fun b off sLen sCap h1 _ _ => ?_, fun base sLen sCap olds h0 _ _ _ _ => by omega⟩
                  · cases ad <;> simp [Builtin.append_, run_underlying he', run_underlying htn, sizeOf, typeInfo, hi, asInt, asIntOf, storeCells, show IntKind.i64.wrap (0 : Int) = 0 from by decide]
                  · have h1' : sLen ≤ sCap := h1
                    simp [Builtin.append_, run_underlying he', run_underlying htn, sizeOf, typeInfo, hi, asInt, asIntOf, storeCells, show IntKind.i64.wrap (0 : Int) = 0 from by decide, h1', hzn, World.setCells]
                · have hone : ∀ u ∈ z.cells.toList, u.oneCell' = true := by
                    refine ones_ok (cells_abs1 (w := w) (S := S) (m := m) z) ?_
                    obtain ⟨m', rfl⟩ : ∃ m', mn = m' + 1 := ⟨mn - 1, by omega⟩
                    rw [List.replicate_succ, List.flatten_cons, List.all_append, Bool.and_eq_true] at c7
                    exact c7.1
                  exact AppX.ofZeros he' htn hi hiz (by rw [hza, hisz]) hone (by omega) (by omega) (by rw [hib]; exact Nat.le_of_ble_eq_true hb)
            · cases hel
          · rw [hsz] at hel
            simp only at hel
            cases hs1 : srcT P xt sz (ev t x) with
            | false => rw [hs1] at hel; cases hel
            | true =>
              rw [hs1, cond_true] at hel
              obtain ⟨news, hsrc, hrl⟩ := elems_src (P := P) h (ev_ok hf x) hel hs1 c5' c7
              exact ⟨news, AppX.ofSrc he' hi hiz (by rw [hisz]; exact hsrc), hrl⟩
        have hnl : news.length = mn * sz := by rw [← hrl.1, c5']
        have hrs := ev_ok hf s
        -- a row made anew out of nothing
        have fresh : ∀ (ad : Option Addr), a.eval s = .slice ad 0 0 → 0 < mn → mn * by_ ≤ 70368744177664 →
            (execOp a.eval o).run P w = .ok (.value (.slice (some ⟨w.heap.size, 0, none⟩) mn (grownCap w mn 0 e))) (w.drew.alloc (.cells (news.toArray ++ Builtin.zeroCells z.cells (grownCap w mn 0 e - mn)) e)) := by
          intro ad hs0 hm hb
          refine append_run hf ho ?_
          have hmn : mn ≤ 70368744177664 := Nat.le_trans (Nat.le_mul_of_pos_right mn c3') hb
          have := hsrc'.grow ad 0 0 [] (by omega) (first_nil _ _ _ _) (by omega) (by omega) (by rw [hib]; simp only [Nat.zero_add]; exact growslice_fits hm (by omega))
          simp only [Nat.zero_add, List.nil_append] at this
          rw [hs0]
          exact this
        have made : ∀ (ad : Option Addr), a.eval s = .slice ad 0 0 → (!(plainZ (cellsA (abs1 z))) || new.all imm0) = true → mn * by_ ≤ 70368744177664 →
            Good P W0 O S0 m0 m S w (execOp a.eval o) (.ref hp.length 0 0 mn) (hp ++ [{ cells := new, esz := sz, gen := 0, row := plainZ (cellsA (abs1 z)), ro := false }]) := by
          intro ad hs0 c6 hb
          by_cases hm : mn = 0
          · subst hm
            have hn0 : new = [] := List.eq_nil_of_length_eq_zero (by omega)
            have hw0 : news = [] := List.eq_nil_of_length_eq_zero (by omega)
            subst hn0; subst hw0
            have hrun := append_run (u := .slice ad 0 0) hf ho (by rw [hs0]; exact hsrc'.nothing rfl ad)
            obtain ⟨k1, k2, k3⟩ := h.allocNil { cells := [], esz := sz, gen := 0, row := plainZ (cellsA (abs1 z)), ro := false } rfl rfl rfl
            exact ⟨_, w, _, S, hrun, R.refNil _ _ ⟨none, 0⟩ ad (updM_same _ _ _) rfl, k1, k2, fun _ h => h, k3⟩
          · have hrun := fresh ad hs0 (by omega) hb
            have hsz2 := grow_arr w news z mn 0 e sz hza hnl
            refine Good.drew (s' := rowSem (news.toArray ++ Builtin.zeroCells z.cells (grownCap w mn 0 e - mn)) e mn (grownCap w mn 0 e)) ?_ hrun
            exact row_ok h.drew (cs := news) (rest := (Builtin.zeroCells z.cells (grownCap w mn 0 e - mn)).toList) (by simp) (hrl.mono (show Keeps S w w.drew from fun _ _ => rfl) (fun _ h => h) (Ext.refl _)) c6 (grownCap_ge w mn 0 e) (Nat.le_of_eq hsz2.symm) (rowSem_run _ _ _ _ _)
        split at hv
        · rename_i hse
          rw [hse] at hrs
          cases hb : ((!(plainZ (cellsA (abs1 z))) || new.all imm0) && Nat.ble (mn * by_) 70368744177664) with
          | false => rw [hb] at hv; cases hv
          | true =>
            rw [hb, cond_true] at hv
            cases hv
            rw [Bool.and_eq_true] at hb
            generalize hus : a.eval s = us at hrs
            cases hrs with
            | emp m ad => exact made ad hus hb.1 (Nat.le_of_ble_eq_true hb.2)
        · rename_i hse
          rw [hse] at hrs
          cases hb : ((!(plainZ (cellsA (abs1 z))) || new.all imm0) && Nat.ble (mn * by_) 70368744177664) with
          | false => rw [hb] at hv; cases hv
          | true =>
            rw [hb, cond_true] at hv
            cases hv
            rw [Bool.and_eq_true] at hb
            generalize hus : a.eval s = us at hrs
            cases hrs with
            | p m => exact made none hus hb.1 (Nat.le_of_ble_eq_true hb.2)
        · rename_i n old hse
          rw [hse] at hrs
          generalize hus : a.eval s = us at hrs
          cases hrs with
          | lit m n xs b of f q1 q2 q3 =>
            by_cases hm : mn = 0
            · subst hm
              cases hv
              have hw0 : news = [] := List.eq_nil_of_length_eq_zero (by omega)
              subst hw0
              have hrun := append_run (u := .slice (some ⟨b, of, none⟩) n n) (w' := w) hf ho (by
                rw [hus]
                have := hsrc'.room b of n n (Nat.le_refl _) (fun j hj => absurd hj (Nat.not_lt_zero _)) (fun j hj => absurd hj (Nat.not_lt_zero _))
                exact this)
              exact Good.same h hrun (.lit _ _ _ _ _ f q1 q2 q3)
            · have hm0 : Nat.beq mn 0 = false := by cases hq : Nat.beq mn 0 with
                | false => rfl
                | true => exact absurd (Nat.eq_of_beq_eq_true hq) hm
              rw [hm0, cond_false] at hv
              cases hq : (Nat.beq old.length (n * sz) && (!(plainZ (cellsA (abs1 z))) || (old.all imm0 && new.all imm0)) && Nat.ble ((n + mn) * by_) 70368744177664) with
              | false => rw [hq] at hv; cases hv
              | true =>
                rw [hq, cond_true] at hv
                cases hv
                simp only [Bool.and_eq_true] at hq
                obtain ⟨⟨d1, d2⟩, d3⟩ := hq
                have d1' := Nat.eq_of_beq_eq_true d1
                have d3' := Nat.le_of_ble_eq_true d3
                have hrl2 : RL w S m old ((List.range old.length).map f) := ⟨by simp, fun j h5 h6 => by
                  simp only [List.getElem_map, List.getElem_range]
                  exact (q3 j h5).mono (Keeps.refl _ _) (fun _ h => h) (Ext.no m)⟩
                have hmn : n + mn ≤ 70368744177664 := Nat.le_trans (Nat.le_mul_of_pos_right (n + mn) c3') d3'
                have hfc : (Builtin.firstCells i.size n (.slice (some ⟨b, of, none⟩) n n)).run P w.drew = .ok ((List.range old.length).map f).toArray w.drew :=
                  run_firstCells_some (P := P) w.drew i.size n ⟨b, of, none⟩ n n ((List.range old.length).map f) (by rw [hisz]; simp [d1']) (fun j v hv => by
                    rw [Addr.add_mid]
                    rw [List.getElem?_map] at hv
                    cases hq : (List.range old.length)[j]? with
                    | none => rw [hq] at hv; cases hv
                    | some q =>
                      rw [hq] at hv
                      obtain ⟨hl', rfl⟩ := List.getElem?_eq_some_iff.1 hq
                      simp at hl' hv
                      subst hv
                      exact q2 j hl')
                have hrun0 := hsrc'.grow (some ⟨b, of, none⟩) n n ((List.range old.length).map f) (by omega) hfc (by omega) (by omega) (by rw [hib]; exact growslice_fits (by omega) (by omega))
                have hrun := append_run hf ho (by rw [hus]; exact hrun0)
                have hsz2 := grow_arr w ((List.range old.length).map f ++ news) z (n + mn) n e sz hza (by rw [List.length_append, hnl, Nat.add_mul]; simp [d1'])
                refine Good.drew (s' := rowSem ((((List.range old.length).map f ++ news).toArray ++ Builtin.zeroCells z.cells (grownCap w (n + mn) n e - (n + mn)))) e (n + mn) (grownCap w (n + mn) n e)) ?_ hrun
                exact row_ok h.drew (cs := (List.range old.length).map f ++ news) (rest := (Builtin.zeroCells z.cells (grownCap w (n + mn) n e - (n + mn))).toList) (by simp) ((hrl2.append hrl).mono (show Keeps S w w.drew from fun _ _ => rfl) (fun _ h => h) (Ext.refl _)) (by rw [List.all_append]; exact d2) (grownCap_ge w (n + mn) n e) (Nat.le_of_eq hsz2.symm) (rowSem_run _ _ _ _ _)
        · rename_i i' g k n hse
          rw [hse] at hrs
          split at hv
          · rename_i b hb
            cases hq : ((!b.row || new.all imm0) && !b.ro && Nat.beq b.esz sz && Nat.ble ((n + mn) * by_) 70368744177664) with
            | false => rw [hq] at hv; cases hv
            | true =>
              rw [hq, cond_true] at hv
              rw [Bool.and_eq_true, Bool.and_eq_true, Bool.and_eq_true] at hq
              obtain ⟨⟨⟨d1, d2⟩, d3⟩, d4⟩ := hq
              have d2 : b.ro = false := by simpa using d2
              have hkn := getB_keys hb
              have hnewR : RL w S (cond b.row noEM m) new news := row_imm hrl d1
              have d3' := Nat.eq_of_beq_eq_true d3
              have d4' := Nat.le_of_ble_eq_true d4
              split at hv
              · rename_i old hold
                cases hv
                obtain ⟨b1, b2, e', b3, b4, b5, b6⟩ := getB_ok h hb
                obtain ⟨hol, hlen, _⟩ := ldN_ok hold
                have hex : ∀ pl', Ext m (updM m i' ⟨pl', g + 1⟩) := fun pl' => Ext.upd (fun e2 he2 => .inr (by rw [b3] at he2; cases he2; show _ < g + 1; omega))
                generalize hus : a.eval s = us at hrs
                cases hrs with
                | refOld m i g k n e2 ad l c q1 q2 => rw [b3] at q1; cases q1; omega
                | refNil m i e2 ad q1 q2 =>
                  rw [b3] at q1; cases q1
                  have hbc := b5 q2
                  have ho0 : old = [] := by rw [hol, hbc]; simp
                  subst ho0
                  by_cases hm : mn = 0
                  · subst hm
                    have hn0 : new = [] := List.eq_nil_of_length_eq_zero (by omega)
                    have hw0 : news = [] := List.eq_nil_of_length_eq_zero (by omega)
                    subst hn0; subst hw0
                    have hrun := append_run (u := .slice ad 0 0) hf ho (by rw [hus]; exact hsrc'.nothing rfl ad)
                    exact Good.turn (pl' := none) (B := none) (b' := { b with cells := [] ++ [], gen := e'.gen + 1 }) h b1 b2 d2 rfl (fun c hc => by cases hc) rfl rfl rfl (Nat.le_refl _) (fun _ _ _ => rfl) (fun _ => rfl) (fun pl hp => by cases hp) hrun (R.refNil _ _ ⟨none, e'.gen + 1⟩ ad (updM_same _ _ _) rfl)
                  · have hrun := fresh ad hus (by omega) (by simpa using d4')
                    have hsz2 := grow_arr w news z mn 0 e sz hza hnl
                    refine Good.turn (w' := w.drew.alloc (.cells (news.toArray ++ Builtin.zeroCells z.cells (grownCap w mn 0 e - mn)) e)) (pl' := some ⟨w.heap.size, 0, (news.toArray ++ Builtin.zeroCells z.cells (grownCap w mn 0 e - mn)).size, sz⟩) (B := none) (b' := { b with cells := [] ++ new, gen := e'.gen + 1 }) h b1 b2 d2 rfl (fun c hc => by cases hc) rfl rfl rfl (by simp)
                      (fun c hc _ => heap_alloc_old w.drew _ _ hc) (fun hp => by cases hp) ?_ hrun ?_
                    · intro pl hp
                      cases hp
                      refine ⟨BlkR.x ⟨d3'.symm, by simp, ?_, there_new w.drew _ _, news, range_new w.drew _ e news (Builtin.zeroCells z.cells (grownCap w mn 0 e - mn)).toList (by simp), ?_⟩ hkn, .inl (Nat.le_refl _)⟩
                      · have h9 := grownCap_ge w mn 0 e
                        refine ⟨?_, fun _ => rfl⟩
                        show 0 + ([] ++ new).length ≤ _
                        rw [hsz2, List.nil_append, c5', Nat.zero_add]
                        exact Nat.mul_le_mul_right _ h9
                      · show RL _ S (cond b.row noEM _) _ _
                        rw [List.nil_append]
                        exact hnewR.mono (show Keeps S w (w.drew.alloc _) from fun c hc => heap_alloc_old w.drew _ _ (h.sok c hc)) (fun _ h => h) ((hex _).cond _)
                    · have := R.ref (w := w.drew.alloc (.cells (news.toArray ++ Builtin.zeroCells z.cells (grownCap w mn 0 e - mn)) e)) (S := S) (updM m i' ⟨some ⟨w.heap.size, 0, (news.toArray ++ Builtin.zeroCells z.cells (grownCap w mn 0 e - mn)).size, sz⟩, e'.gen + 1⟩) i' 0 (0 + mn) ⟨some ⟨w.heap.size, 0, (news.toArray ++ Builtin.zeroCells z.cells (grownCap w mn 0 e - mn)).size, sz⟩, e'.gen + 1⟩ ⟨w.heap.size, 0, (news.toArray ++ Builtin.zeroCells z.cells (grownCap w mn 0 e - mn)).size, sz⟩ (grownCap w mn 0 e) (updM_same _ _ _) rfl (by rw [Nat.zero_add]; exact grownCap_ge w mn 0 e) (Nat.le_of_eq (by simpa using hsz2.symm))
                      simpa using this
                | ref m i k n e2 pl c q1 q2 q3 q4 =>
                  rw [b3] at q1; cases q1
                  obtain ⟨r1, r2, r3, r4, vs, r5, r6⟩ := b6 pl q2
                  have hre : pl.e = sz := r1.trans d3'
                  rw [hre] at q4
                  have holds : RL w S (cond b.row noEM m) old ((vs.drop k).take (n * sz)) := by rw [hol]; exact (r6.drop k).take _
                  have hold2 : ((vs.drop k).take (n * sz)).length = n * sz := by rw [← holds.1, hlen]
                  have hrg : w.rangeAt pl.b (pl.o + k) ((vs.drop k).take (n * sz)) := range_sub r5
                  have hboth : (old ++ new).length = (n + mn) * sz := by rw [List.length_append, hlen, c5', Nat.add_mul]
                  by_cases hroom : n + mn ≤ c
                  · have hle : (n + mn) * sz ≤ c * sz := Nat.mul_le_mul_right _ hroom
                    rw [Nat.add_mul] at hle
                    have hpre : ∀ j, j < news.length → (w.cell? ⟨pl.b, pl.o + k + n * sz + j, none⟩).isSome = true ∧ w.frozen? ⟨pl.b, pl.o + k + n * sz + j, none⟩ = false := fun j hj => by
                      have := r4 (pl.o + k + n * sz + j) (by omega)
                      rwa [Nat.zero_add] at this
                    have hrun := append_run (u := .slice (some ⟨pl.b, pl.o + k, none⟩) (n + mn) c) (w' := w.setCells pl.b (pl.o + k + n * sz) news) hf ho (by
                      rw [hus]
                      have := hsrc'.room pl.b (pl.o + k) n c hroom (fun j hj => by rw [hisz]; exact (hpre j hj).1) (fun j hj => by rw [hisz]; exact (hpre j hj).2)
                      rwa [hisz] at this)
                    have hkp : Keeps S w (w.setCells pl.b (pl.o + k + n * sz) news) := fun c2 hc2 => World.heap_setCells_other _ _ _ _ (h.sok c2 hc2) (fun ec => ((h.ro i' b e' pl b1 b3 q2).2 d2).1 (ec ▸ hc2))
                    refine Good.turn (w' := w.setCells pl.b (pl.o + k + n * sz) news) (pl' := some ⟨pl.b, pl.o + k, pl.s, sz⟩) (B := some pl.b) (b' := { b with cells := old ++ new, gen := e'.gen + 1 }) h b1 b2 d2 rfl (fun c2 hc2 => by cases hc2; exact ⟨e', pl, d2, b3, q2, rfl⟩)
                      (World.os_setCells _ _ _ _) (tape_setCells _ _ _ _) (World.output_setCells _ _ _ _) (Nat.le_of_eq (size_setCells _ _ _ _).symm)
                      (fun c2 hc2 hne => World.heap_setCells_other _ _ _ _ hc2 (fun ec => hne (by rw [ec]))) (fun hp => by cases hp) ?_ hrun ?_
                    · intro pl2 hp2
                      cases hp2
                      refine ⟨BlkR.x ⟨d3'.symm, by rw [size_setCells]; exact r2, ?_, World.there_setCells r4 _ _ _, (vs.drop k).take (n * sz) ++ news, range_after hrg hold2 (fun j hj => (hpre j hj).1), ?_⟩ hkn, .inr rfl⟩
                      · refine ⟨?_, fun (q : b.esz = 0) => by omega⟩
                        show pl.o + k + (old ++ new).length ≤ pl.s
                        rw [hboth, Nat.add_mul]; omega
                      · show RL _ S (cond b.row noEM _) _ _
                        exact (holds.append hnewR).mono hkp (fun _ h => h) ((hex _).cond _)
                    · have := R.ref (w := w.setCells pl.b (pl.o + k + n * sz) news) (S := S) (updM m i' ⟨some ⟨pl.b, pl.o + k, pl.s, sz⟩, e'.gen + 1⟩) i' 0 (n + mn) ⟨some ⟨pl.b, pl.o + k, pl.s, sz⟩, e'.gen + 1⟩ ⟨pl.b, pl.o + k, pl.s, sz⟩ c (updM_same _ _ _) rfl hroom (by show pl.o + k + 0 + c * sz ≤ pl.s; omega)
                      simpa using this
                  · have hmn : n + mn ≤ 70368744177664 := Nat.le_trans (Nat.le_mul_of_pos_right (n + mn) c3') d4'
                    have hfc : (Builtin.firstCells i.size n (.slice (some ⟨pl.b, pl.o + k, none⟩) n c)).run P w.drew = .ok ((vs.drop k).take (n * sz)).toArray w.drew :=
                      run_firstCells_some (P := P) w.drew i.size n ⟨pl.b, pl.o + k, none⟩ n c ((vs.drop k).take (n * sz)) (by rw [hisz]; exact hold2) (fun j v hv => by rw [Addr.add_mid]; exact hrg j v hv)
                    have hrun0 := hsrc'.grow (some ⟨pl.b, pl.o + k, none⟩) n c ((vs.drop k).take (n * sz)) (by omega) hfc (by omega) (by omega) (by rw [hib]; exact growslice_fits (by omega) (by omega))
                    have hrun := append_run hf ho (by rw [hus]; exact hrun0)
                    have hsz2 := grow_arr w ((vs.drop k).take (n * sz) ++ news) z (n + mn) c e sz hza (by rw [List.length_append, hold2, hnl, Nat.add_mul])
                    generalize harr : (((vs.drop k).take (n * sz) ++ news).toArray ++ Builtin.zeroCells z.cells (grownCap w (n + mn) c e - (n + mn))) = arr at hrun hsz2
                    have harrL : arr.toList = ((vs.drop k).take (n * sz) ++ news) ++ (Builtin.zeroCells z.cells (grownCap w (n + mn) c e - (n + mn))).toList := by rw [← harr]; simp
                    refine Good.turn (w' := w.drew.alloc (.cells arr e)) (pl' := some ⟨w.heap.size, 0, arr.size, sz⟩) (B := none) (b' := { b with cells := old ++ new, gen := e'.gen + 1 }) h b1 b2 d2 rfl (fun c hc => by cases hc) rfl rfl rfl (by simp)
                      (fun c hc _ => heap_alloc_old w.drew _ _ hc) (fun hp => by cases hp) ?_ hrun ?_
                    · intro pl2 hp2
                      cases hp2
                      refine ⟨BlkR.x ⟨d3'.symm, by simp, ?_, there_new w.drew _ _, (vs.drop k).take (n * sz) ++ news, range_new w.drew _ e _ _ harrL, ?_⟩ hkn, .inl (Nat.le_refl _)⟩
                      · have h9 := grownCap_ge w (n + mn) c e
                        refine ⟨?_, fun _ => rfl⟩
                        show 0 + (old ++ new).length ≤ arr.size
                        rw [hboth, hsz2, Nat.zero_add]
                        exact Nat.mul_le_mul_right _ h9
                      · show RL _ S (cond b.row noEM _) _ _
                        exact (holds.append hnewR).mono (show Keeps S w (w.drew.alloc _) from fun c hc => heap_alloc_old w.drew _ _ (h.sok c hc)) (fun _ h => h) ((hex _).cond _)
                    · have := R.ref (w := w.drew.alloc (.cells arr e)) (S := S) (updM m i' ⟨some ⟨w.heap.size, 0, arr.size, sz⟩, e'.gen + 1⟩) i' 0 (n + mn) ⟨some ⟨w.heap.size, 0, arr.size, sz⟩, e'.gen + 1⟩ ⟨w.heap.size, 0, arr.size, sz⟩ (grownCap w (n + mn) c e) (updM_same _ _ _) rfl (grownCap_ge w (n + mn) c e) (by show 0 + 0 + _ * sz ≤ arr.size; rw [hsz2]; omega)
                      simpa using this
              · cases hv
          · cases hv
        · cases hv
    · cases hv
end
end Go.Vm

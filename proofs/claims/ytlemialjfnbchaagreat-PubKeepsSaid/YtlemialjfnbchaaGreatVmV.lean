/- Each operation of the virtual memory is the model's: len, slices of slices, conversions, calls; all together. -/
import Derived.Test.YtlemialjfnbchaaGreatVmT

namespace Go.Vm
open Go

section
variable {P : Program} {W0 : World} {O S0 : Nat → Prop} {m0 : EM} {hp hp' : List Blk} {m : EM} {S : Nat → Prop} {w : World} {a : Act} {t : Tr} {o : Oper} {v : AV}

theorem lenV_ok (h : HS W0 O S0 m0 hp m S w) {x : AV} {u : Value} {n : Nat} (hl : lenV hp x = some n) (hr : R w S m x u) : ∃ ad c, u = .slice ad n c ∧ n ≤ c := by
  unfold lenV at hl
  split at hl
  · cases hl
    cases hr with
    | lst0 m a c => exact ⟨a, c, rfl, Nat.zero_le _⟩
    | lst m n xs b of c f h0 h1 h2 h3 => exact ⟨_, c, rfl, h0⟩
  · cases hl
    cases hr with
    | lit m n xs b of f h1 h2 h3 => exact ⟨_, n, rfl, Nat.le_refl _⟩
  · split at hl
    · rename_i i g k n' x0 b hb
      cases hl
      obtain ⟨b1, b2, e, b3, b4, b5, b6⟩ := getB_ok h hb
      cases hr with
      | ref m i k n e' pl c q1 q2 q3 q4 => exact ⟨_, c, rfl, q3⟩
      | refNil m i e' ad q1 q2 => exact ⟨ad, 0, rfl, Nat.le_refl _⟩
      | refOld m i g k n e' ad l c q1 q2 => rw [b3] at q1; cases q1; omega
    · cases hl
  · cases hl
    cases hr with
    | emp m a => exact ⟨a, 0, rfl, Nat.le_refl _⟩
  · cases hl
theorem len_ok (h : HS W0 O S0 m0 hp m S w) (hf : FrR w S m t a) {x : Operand} {ty e : TypeId} {n : Nat} (hl : lenV hp (ev t x) = some n) (hu : P.underlying ty = some (.slice e)) (ho : o.op = .call { callee := .builtin .len, args := #[x], argTypes := #[ty] }) :
    Good P W0 O S0 m0 m S w (execOp a.eval o) (.p (.int .i64 n)) hp := by
  obtain ⟨ad, c, hx, _⟩ := lenV_ok h hl (ev_ok hf x)
  refine Good.same h (u := .int .i64 n) ?_ (.p _ _)
  refine builtin_run (s := Builtin.len_ #[ty] o.type #[a.eval x]) ho (fun cs => by simp [builtin]) ?_
  simp [Builtin.len_, run_underlying hu, hx, goInt]

/-! ### a slice of a slice -/
theorem bound_run {x : Value} {k n : Nat} {kd : IntKind} {code : BoundsCode} (hx : x = .int kd (n : Int)) (hn : n ≤ k) : (Instr.sliceBound x k code).run P w = .ok n w := by
  subst hx
  unfold Instr.sliceBound
  simp only [asIntOf, Sem.run_bind, Sem.run_pure, Result.andThen_ok]
  rw [if_pos ⟨Int.natCast_nonneg n, by omega⟩]
  simp
/-- low and high, as the model has them -/
theorem bounds_run {n c l hi : Nat} {lo hx : Option Value} (hlo : (lo = none ∧ l = 0) ∨ ∃ kd, lo = some (.int kd (l : Int))) (hhi : (hx = none ∧ hi = n) ∨ ∃ kd, hx = some (.int kd (hi : Int))) (h1 : l ≤ hi) (h2 : hi ≤ n) (h3 : n ≤ c) :
    (Instr.sliceBounds true n c lo hx none).run P w = .ok (l, hi, c) w := by
  have g1 : ∀ kd code, (Instr.sliceBound (.int kd (hi : Int)) c code).run P w = .ok hi w := fun kd code => bound_run rfl (Nat.le_trans h2 h3)
  have g2 : ∀ kd code, (Instr.sliceBound (.int kd (l : Int)) hi code).run P w = .ok l w := fun kd code => bound_run rfl h1
  rcases hhi with ⟨rfl, rfl⟩ | ⟨kd, rfl⟩ <;> rcases hlo with ⟨rfl, rfl⟩ | ⟨kd2, rfl⟩ <;> simp [Instr.sliceBounds, g1, g2]
theorem bounds3_run {n c l : Nat} {lo : Option Value} {hx mx : Value} (hlo : (lo = none ∧ l = 0) ∨ ∃ kd, lo = some (.int kd (l : Int))) (hhi : ∃ kd, hx = .int kd (l : Int)) (hmx : ∃ kd, mx = .int kd (l : Int)) (h3 : l ≤ c) :
    (Instr.sliceBounds true n c lo (some hx) (some mx)).run P w = .ok (l, l, l) w := by
  obtain ⟨k1, rfl⟩ := hhi
  obtain ⟨k2, rfl⟩ := hmx
  have g1 : ∀ kd code, (Instr.sliceBound (.int kd (l : Int)) c code).run P w = .ok l w := fun kd code => bound_run rfl h3
  have g2 : ∀ kd code, (Instr.sliceBound (.int kd (l : Int)) l code).run P w = .ok l w := fun kd code => bound_run rfl (Nat.le_refl l)
  rcases hlo with ⟨rfl, rfl⟩ | ⟨kd2, rfl⟩
  · have g3 : ∀ kd code, (Instr.sliceBound (.int kd 0) c code).run P w = .ok 0 w := g1
    have g4 : ∀ kd code, (Instr.sliceBound (.int kd 0) 0 code).run P w = .ok 0 w := g2
    simp [Instr.sliceBounds, g3, g4]
  · simp [Instr.sliceBounds, g1, g2]
theorem slice_run {ty e : TypeId} {sz n c l hi m' : Nat} {ad : Option Addr} {lo hx mx : Option Value} (hu : P.underlying ty = some (.slice e)) (hsz : szT P e = some sz) (hb : (Instr.sliceBounds true n c lo hx mx).run P w = .ok (l, hi, m') w) :
    (Instr.sliceAt ty (.slice ad n c) lo hx mx).run P w = .ok (.slice (if m' = l then ad else ad.map (·.add (l * sz))) (hi - l) (m' - l)) w := by
  unfold Instr.sliceAt
  simp only [Sem.run_bind, run_underlying hu, Result.andThen_ok]
  unfold Instr.slice
  simp only [Sem.run_bind, run_underlying hu, Result.andThen_ok, hb, szT_run hsz, Sem.run_pure]
theorem optNat {x : Option Operand} {l d : Nat} (hf : FrR w S m t a) (h : (match x.map (ev t) with | none => some d | some v => natOf v) = some l) : (x.map a.eval = none ∧ l = d) ∨ ∃ kd, x.map a.eval = some (.int kd (l : Int)) := by
  cases x with
  | none => simp at h; exact .inl ⟨rfl, h.symm⟩
  | some x =>
    obtain ⟨kd, hk⟩ := natOf_ok (show natOf (ev t x) = some l from h) (ev_ok hf x)
    exact .inr ⟨kd, by simp [hk]⟩
theorem slice_ok (h : HS W0 O S0 m0 hp m S w) (hf : FrR w S m t a) {ty : TypeId} {x : Operand} {lo hi mx : Option Operand} (hv : sliceV P hp ty (ev t x) (lo.map (ev t)) (hi.map (ev t)) (mx.map (ev t)) = some (.val v hp')) (ho : o.op = .slice ty x lo hi mx) :
    Good P W0 O S0 m0 m S w (execOp a.eval o) v hp' := by
  unfold sliceV at hv
  split at hv
  · cases hv
  · rename_i e he
    have he' : P.underlying ty = some (.slice e) := by
      unfold elemT at he
      split at he
      · rename_i e2 h2; cases he; exact h2
      · cases he
    split at hv
    · cases hv
    · rename_i sz hsz
      split at hv
      · cases hv
      · rename_i n hn
        split at hv
        · rename_i l hh hl0 hh0
          cases hc : (Nat.ble l hh && Nat.ble hh n) with
          | false => rw [hc] at hv; cases hv
          | true =>
            rw [hc, cond_true] at hv
            rw [Bool.and_eq_true] at hc
            have c1 := Nat.le_of_ble_eq_true hc.1
            have c2 := Nat.le_of_ble_eq_true hc.2
            have hlo := optNat hf hl0
            have hhi := optNat hf hh0
            have hrx := ev_ok hf x
            obtain ⟨ad, c, hux, hnc⟩ := lenV_ok h hn hrx
            have run : ∀ u, (Instr.sliceAt ty (a.eval x) (lo.map a.eval) (hi.map a.eval) (mx.map a.eval)).run P w = .ok u w → (execOp a.eval o).run P w = .ok (.value u) w := by
              intro u hu
              simp only [execOp, ho, Sem.run_bind, hu, Result.andThen_ok, Sem.run_pure]
            split at hv
            · rename_i mv hmv
              split at hv
              · rename_i mn hmn
                cases hq : ((hi.map (ev t)).isSome && Nat.beq mn l && Nat.beq hh l) with
                | false => rw [hq] at hv; cases hv
                | true =>
                  rw [hq, cond_true] at hv
                  cases hv
                  simp only [Bool.and_eq_true] at hq
                  have e1 := Nat.eq_of_beq_eq_true hq.1.2
                  have e2 := Nat.eq_of_beq_eq_true hq.2
                  subst e1; subst e2
                  cases mx with
                  | none => cases hmv
                  | some mo =>
                    cases hmv
                    obtain ⟨kd, hk⟩ := natOf_ok hmn (ev_ok hf mo)
                    rcases hhi with ⟨hi1, hi2⟩ | ⟨kd2, hi1⟩
                    · cases hi with
                      | none => simp at hq
                      | some q => cases hi1
                    · have hb := bounds3_run (P := P) (w := w) (n := n) (c := c) (l := hh) hlo ⟨kd2, rfl⟩ ⟨kd, rfl⟩ (by omega)
                      have hrun := run _ (by rw [hux, hi1]; simp only [Option.map_some, hk]; exact slice_run (ad := ad) he' hsz hb)
                      simp only [if_true, Nat.sub_self] at hrun
                      exact Good.same h hrun (.emp _ _)
              · cases hv
            · rename_i hmv
              have hmx : mx = none := by cases mx with
                | none => rfl
                | some q => cases hmv
              subst hmx
              have hb := bounds_run (P := P) (w := w) hlo hhi c1 c2 hnc
              have hrun := run _ (by rw [hux]; exact slice_run (ad := ad) he' hsz hb)
              rw [hux] at hrx
              split at hv
              · rename_i n' xs hxe
                split at hv
                · rename_i ys hys
                  cases hv
                  refine Good.same h hrun ?_
                  rw [hxe] at hrx hn
                  simp only [lenV] at hn
                  cases hn
                  obtain ⟨rfl, hyl, _⟩ := ldN_ok hys
                  by_cases hlt : l < hh
                  · rw [if_neg (by omega)]
                    cases hrx with
                    | lst0 m a c => omega
                    | lst m n xs b of c f h0 h1 h2 h3 =>
                      simp only [Option.map_some, Addr.add_mid]
                      refine .lst m (hh - l) _ b (of + l * sz) (c - l) (fun j => f (l * sz + j)) (by omega) h1 ?_ ?_
                      · intro j hj
                        simp only [List.length_take, List.length_drop] at hj
                        rw [Nat.add_assoc]
                        exact h2 _ (by omega)
                      · intro j hj
                        simp only [List.getElem_take, List.getElem_drop]
                        exact h3 _ _
                  · have e0 : hh - l = 0 := by omega
                    rw [e0]
                    have : (xs.drop (l * sz)).take (0 * sz) = [] := by simp
                    rw [this]
                    exact .lst0 _ _ _
                · cases hv
              · rename_i n' xs hxe
                rw [hxe] at hrx
                have hrx := lit_lst hrx
                split at hv
                · rename_i ys hys
                  cases hv
                  refine Good.same h hrun ?_
                  rw [hxe] at hn
                  simp only [lenV] at hn
                  cases hn
                  obtain ⟨rfl, hyl, _⟩ := ldN_ok hys
                  by_cases hlt : l < hh
                  · rw [if_neg (by omega)]
                    cases hrx with
                    | lst0 m a c => omega
                    | lst m n xs b of c f h0 h1 h2 h3 =>
                      simp only [Option.map_some, Addr.add_mid]
                      refine .lst m (hh - l) _ b (of + l * sz) (c - l) (fun j => f (l * sz + j)) (by omega) h1 ?_ ?_
                      · intro j hj
                        simp only [List.length_take, List.length_drop] at hj
                        rw [Nat.add_assoc]
                        exact h2 _ (by omega)
                      · intro j hj
                        simp only [List.getElem_take, List.getElem_drop]
                        exact h3 _ _
                  · have e0 : hh - l = 0 := by omega
                    rw [e0]
                    have : (xs.drop (l * sz)).take (0 * sz) = [] := by simp
                    rw [this]
                    exact .lst0 _ _ _
                · cases hv
              · rename_i i g k n' hxe
                split at hv
                · rename_i b hb2
                  cases hq : Nat.beq b.esz sz with
                  | false => rw [hq] at hv; cases hv
                  | true =>
                    rw [hq, cond_true] at hv
                    have hes := Nat.eq_of_beq_eq_true hq
                    rw [hxe] at hrx hn
                    obtain ⟨b1, b2, e2, b3, b4, b5, b6⟩ := getB_ok h hb2
                    cases hrx with
                    | refOld m i g k n e' ad l c q1 q2 => rw [b3] at q1; cases q1; omega
                    | refNil m i e' ad q1 q2 =>
                      have el : l = 0 := by omega
                      have eh : hh = 0 := by omega
                      subst el; subst eh
                      cases hv
                      refine Good.same h hrun ?_
                      simp only [Nat.sub_self, if_true]
                      exact .refNil _ _ _ _ q1 q2
                    | ref m i k n e' pl c q1 q2 q3 q4 =>
                      rw [b3] at q1; cases q1
                      obtain ⟨r1, r2, r3, r4, _⟩ := b6 pl q2
                      have hre : pl.e = sz := r1.trans hes
                      by_cases l0 : l = 0
                      · subst l0
                        cases hv
                        refine Good.same h hrun ?_
                        have hp0 : (if c = 0 then some (⟨pl.b, pl.o + k, none⟩ : Addr) else (some (⟨pl.b, pl.o + k, none⟩ : Addr)).map (·.add (0 * sz))) = some ⟨pl.b, pl.o + k, none⟩ := by
                          split
                          · rfl
                          · simp [Addr.add]
                        rw [hp0, Nat.sub_zero, Nat.sub_zero]
                        exact .ref _ _ _ _ _ _ _ b3 q2 (by omega) q4
                      · have : Nat.beq l 0 = false := by cases hz : Nat.beq l 0 with
                          | false => rfl
                          | true => exact absurd (Nat.eq_of_beq_eq_true hz) l0
                        rw [this, cond_false] at hv
                        cases hlh : Nat.beq l hh with
                        | true =>
                          rw [hlh, cond_true] at hv
                          cases hv
                          have := Nat.eq_of_beq_eq_true hlh
                          subst this
                          refine Good.same h hrun ?_
                          rw [Nat.sub_self]
                          exact .lst0 _ _ _
                        | false =>
                          rw [hlh, cond_false] at hv
                          cases hv
                          have hne : l ≠ hh := fun e => by subst e; rw [Nat.beq_refl] at hlh; cases hlh
                          refine Good.same h hrun ?_
                          rw [if_neg (by omega)]
                          simp only [Option.map_some, Addr.add_mid, Nat.add_assoc]
                          refine .ref _ _ _ _ _ _ _ b3 q2 (by omega) ?_
                          rw [hre] at q4 ⊢
                          have : l * sz + (c - l) * sz = c * sz := by rw [← Nat.add_mul]; congr 1; omega
                          omega
                · cases hv
              · rename_i hxe
                cases hv
                rw [hxe] at hrx hn
                cases hn
                cases hrx with
                | emp m ad =>
                  have el : l = 0 := by omega
                  have eh : hh = 0 := by omega
                  subst el; subst eh
                  refine Good.same h hrun ?_
                  simp only [Nat.sub_self, if_true]
                  exact .emp _ _
              · cases hv
        · cases hv

/-! ### conversions -/
theorem strOf_ok : ∀ {xs : List AV} {l : List UInt8} {us : List Value}, strOf xs = some l → RL w S m xs us → us = l.map fun c => Value.int .u8 (c.toNat : Int)
  | [], l, us, h, hr => by
    simp [strOf] at h
    subst h
    rcases hr.cases with ⟨_, rfl⟩ | ⟨_, _, _, _, e, _⟩
    · rfl
    · cases e
  | x :: xs, l, us, h, hr => by
    rcases hr.cases with ⟨e, _⟩ | ⟨_, _, u, us', e, rfl, h1, h2⟩
    · cases e
    · cases e
      unfold strOf at h
      split at h
      · rename_i e; cases e
      · rename_i n r e
        cases e
        cases hb : Nat.blt n 256 with
        | false => rw [hb] at h; cases h
        | true =>
          rw [hb, cond_true] at h
          split at h
          · rename_i l' hl
            cases h
            cases h1
            have hn : n < 256 := by
              have := Nat.le_of_ble_eq_true (show Nat.ble (n + 1) 256 = true from hb)
              omega
            rw [List.map_cons, strOf_ok hl h2]
            congr 2
            simp [Nat.mod_eq_of_lt hn]
          · cases h
      · cases h
theorem bytes_fold : ∀ (l : List UInt8) (s : ByteArray), (l.map fun c => (c.toNat : Int)).foldl (fun r n => r.push (UInt8.ofNat n.toNat)) s = ⟨s.data ++ l.toArray⟩
  | [], s => by cases s; simp
  | c :: l, s => by
    rw [List.map_cons, List.foldl_cons, bytes_fold l]
    cases s
    simp [ByteArray.push]
theorem toStr_run {l : List UInt8} {ad : Option Addr} {n c : Nat} {_tx _e : TypeId} {news : List Value} (hs : (Builtin.firstCells 1 n (.slice ad n c)).run P w = .ok news.toArray w) (hl : news = l.map fun c => Value.int .u8 (c.toNat : Int)) :
    (Conv.bytesToString (.slice ad n c)).run P w = .ok (.string ⟨l.toArray⟩) w := by
  cases ad with
  | none =>
    have : news.toArray = #[] := by
      simp only [Builtin.firstCells, Sem.run_pure] at hs
      cases hs; rfl
    have hn : l = [] := by
      have h0 : news = [] := by simpa using this
      rw [hl] at h0; simpa using h0
    subst hn
    simp [Conv.bytesToString]
    rfl
  | some ad =>
    have h2 : (loadCells ad n).run P w = .ok ((l.map fun c => (c.toNat : Int)).map (Value.int .u8)).toArray w := by
      simp only [Builtin.firstCells, Nat.mul_one] at hs
      rw [hs, hl, List.map_map]
      rfl
    rw [run_bytesToString w ad n c _ h2, bytes_fold]
    simp [ByteArray.empty, ByteArray.emptyWithCapacity]
    rfl
theorem toStr_ok (h : HS W0 O S0 m0 hp m S w) (hf : FrR w S m t a) {src dst e : TypeId} {x : Operand} {n : Nat} {xs : List AV} {l : List UInt8} (hs : P.underlying src = some (.slice e)) (hd : P.underlying dst = some .string) (he : P.underlying e = some (.int .u8))
    (hx : elemsOf hp (ev t x) = some (n, xs)) (hns : ∀ s, ev t x ≠ .p (.string s)) (hl : strOf xs = some l) (hxn : xs.length = n) (ho : o.op = .convert src dst x) :
    Good P W0 O S0 m0 m S w (execOp a.eval o) (.p (.string ⟨l.toArray⟩)) hp := by
  have h1 : xs.all one = true := by
    clear hx hxn
    induction xs generalizing l with
    | nil => rfl
    | cons y ys ih =>
      unfold strOf at hl
      split at hl
      · rename_i e; cases e
      · rename_i k r e
        cases e
        cases hb : Nat.blt k 256 with
        | false => rw [hb] at hl; cases hl
        | true =>
          rw [hb, cond_true] at hl
          split at hl
          · rename_i l' hl'
            rw [List.all_cons, ih hl']
            rfl
          · cases hl
      · cases hl
  have ht : srcT P src 1 (ev t x) = true := by
    have key : ∀ y : AV, (∀ s, y ≠ .p (.string s)) → srcT P src 1 y = true := by
      intro y hy
      unfold srcT
      rw [hs]
      cases y with
      | p v => cases v <;> first | rfl | exact absurd rfl (hy _)
      | _ => rfl
    exact key _ hns
  obtain ⟨news, hsrc, hrl⟩ := elems_src (P := P) h (ev_ok hf x) hx ht (by rw [hxn, Nat.mul_one]) h1
  have hnews := strOf_ok hl hrl
  have hslice : ∃ ad c, a.eval x = .slice ad n c := by
    have hr := ev_ok hf x
    generalize a.eval x = u at hr
    unfold elemsOf at hx
    split at hx
    · rename_i k ys hxe
      cases hx
      rw [hxe] at hr
      cases hr with
      | lst0 m a c => exact ⟨_, _, rfl⟩
      | lst m n xs b of c f h0 h1 h2 h3 => exact ⟨_, _, rfl⟩
    · rename_i k ys hxe
      cases hx
      rw [hxe] at hr
      cases hr with
      | lit m n xs b of f h1 h2 h3 => exact ⟨_, _, rfl⟩
    · rename_i hxe; cases hx; rw [hxe] at hr; cases hr; exact ⟨_, _, rfl⟩
    · rename_i k hxe; cases hx; rw [hxe] at hr; cases hr; exact ⟨_, _, rfl⟩
    · rename_i i g k n' hxe
      split at hx
      · rename_i b hb
        split at hx
        · cases hx
          rw [hxe] at hr
          obtain ⟨b1, b2, e2, b3, b4, b5, b6⟩ := getB_ok h hb
          cases hr with
          | ref m i k n e' pl c q1 q2 q3 q4 => exact ⟨_, _, rfl⟩
          | refNil m i e' ad q1 q2 => exact ⟨_, _, rfl⟩
          | refOld m i g k n e' ad l c q1 q2 => rw [b3] at q1; cases q1; omega
        · cases hx
      · cases hx
    · rename_i s hxe; exact absurd hxe (hns s)
    · cases hx
  obtain ⟨ad, c, hu⟩ := hslice
  refine Good.same h (u := .string ⟨l.toArray⟩) ?_ (.p _ _)
  have hc := hsrc.cells
  rw [hu] at hc
  have := toStr_run (P := P) (w := w) (_tx := src) (_e := e) hc hnews
  simp only [execOp, ho, Sem.run_bind, hu, run_convert_bytes_string w src dst e ad n c hs he hd, this, Result.andThen_ok, Sem.run_pure]

/-! ### calls -/
theorem callFunc_run {g : FuncId} {args : Array Value} (hc : callee P g = true) (w : World) : (callFunc g args).run P w = .ok (.enter g args) w := by
  unfold callee at hc
  split at hc
  · rename_i fn hfn
    rw [Bool.and_eq_true] at hc
    have h1 : (fn.name == "runtime.NumGoroutine") = false := by simpa using hc.2
    have h2 : fn.body.isNone = false := by cases hb : fn.body <;> simp_all
    unfold callFunc
    simp only [Sem.run_bind, run_program, Result.andThen_ok, hfn, h1, Bool.false_eq_true, if_false, h2, Sem.run_pure]
  · cases hc
theorem call_ok (hf : FrR w S m t a) {f : Operand} {cargs : Array Operand} {ts : Array TypeId} {g : FuncId} {fa fb : Array Value} {xa xb : List AV} (hx : a.eval f = .func (.func g) fa fb) (ha : RL w S m xa fa.toList) (hb : RL w S m xb fb.toList)
    (hc : callee P g = true) (ho : o.op = .call { callee := .value f, args := cargs, argTypes := ts }) :
    ∃ args' : List Value, (execOp a.eval o).run P w = .ok (.enter g args'.toArray) w ∧ RL w S m (xa ++ cargs.toList.map (ev t) ++ xb) args' := by
  refine ⟨(fa ++ cargs.map a.eval ++ fb).toList, ?_, ?_⟩
  · simp only [execOp, ho, resolve, hx, Deferred.ofValue, Sem.run_bind, Sem.run_pure, Result.andThen_ok, invoke, callFunc_run hc]
  · have := (ha.append (evL_ok hf cargs.toList)).append hb
    simpa using this

theorem sliceV_val (hp : List Blk) (ty : TypeId) (x : AV) (lo hi mx : Option AV) (f : FuncId) (args : List AV) : sliceV P hp ty x lo hi mx ≠ some (.call f args) := by
  intro h
  unfold sliceV at h
  (repeat' split at h) <;> first | (cases h; done) | (simp only [cond_eq_ite] at h; (repeat' split at h) <;> first | (cases h; done) | (simp at h; done))
theorem appendV_val (hp : List Blk) (st xt : TypeId) (s x : AV) (f : FuncId) (args : List AV) : appendV P hp st xt s x ≠ some (.call f args) := by
  intro h
  unfold appendV at h
  (repeat' split at h) <;> first | (cases h; done) | (simp only [cond_eq_ite] at h; (repeat' split at h) <;> first | (cases h; done) | (simp at h; done))
theorem lookupV_val (hp : List Blk) (ty : TypeId) (x k : AV) (ok : Bool) (f : FuncId) (args : List AV) : lookupV P hp ty x k ok ≠ some (.call f args) := by
  intro h
  unfold lookupV at h
  (repeat' split at h) <;> first | (cases h; done) | (simp only [cond_eq_ite] at h; (repeat' split at h) <;> first | (cases h; done) | (simp at h; done))
theorem updateV_val (hp : List Blk) (ty : TypeId) (x k v : AV) (f : FuncId) (args : List AV) : updateV P hp ty x k v ≠ some (.call f args) := by
  intro h
  unfold updateV at h
  (repeat' split at h) <;> first | (cases h; done) | (simp only [cond_eq_ite] at h; (repeat' split at h) <;> first | (cases h; done) | (simp at h; done))
theorem deleteV_val (hp : List Blk) (ty : TypeId) (x k : AV) (f : FuncId) (args : List AV) : deleteV P hp ty x k ≠ some (.call f args) := by
  intro h
  unfold deleteV at h
  (repeat' split at h) <;> first | (cases h; done) | (simp only [cond_eq_ite] at h; (repeat' split at h) <;> first | (cases h; done) | (simp at h; done))
theorem clearV_val (hp : List Blk) (ty : TypeId) (x : AV) (f : FuncId) (args : List AV) : clearV P hp ty x ≠ some (.call f args) := by
  intro h
  unfold clearV at h
  (repeat' split at h) <;> first | (cases h; done) | (simp only [cond_eq_ite] at h; (repeat' split at h) <;> first | (cases h; done) | (simp at h; done))
theorem copyV_val (hp : List Blk) (dt st : TypeId) (x y : AV) (f : FuncId) (args : List AV) : copyV P hp dt st x y ≠ some (.call f args) := by
  intro h
  unfold copyV at h
  (repeat' split at h) <;> first | (cases h; done) | (simp only [cond_eq_ite] at h; (repeat' split at h) <;> first | (cases h; done) | (simp at h; done))
theorem vop_ok (h : HS W0 O S0 m0 hp m S w) (hf : FrR w S m t a) {out : Out} (hv : vop P o t hp = some out) :
    (∀ v hp', out = .val v hp' → Good P W0 O S0 m0 m S w (execOp a.eval o) v hp') ∧
    (∀ f args, out = .call f args → ∃ args' : List Value, (execOp a.eval o).run P w = .ok (.enter f args'.toArray) w ∧ RL w S m args args') := by
  have viaPure : pure1 P t hp o = some out → (∀ v hp', out = .val v hp' → Good P W0 O S0 m0 m S w (execOp a.eval o) v hp') ∧
      (∀ f args, out = .call f args → ∃ args' : List Value, (execOp a.eval o).run P w = .ok (.enter f args'.toArray) w ∧ RL w S m args args') := by
    intro hp1
    refine ⟨fun v hp' e => pure1_val h hf (e ▸ hp1), fun f args e => ?_⟩
    rcases pure1_run hf hp1 with ⟨u, e2, _⟩ | ⟨g, gs, e2, hr⟩
    · rw [e] at e2; cases e2
    · rw [e] at e2; cases e2
      refine ⟨gs.toList, by simpa using hr, ?_⟩
      refine ⟨by simp, fun j h1 h2 => ?_⟩
      simp only [List.getElem_map]
      exact abs1_ok _ _ _ _
  have good : ∀ {v' : AV} {hp'' : List Blk}, out = .val v' hp'' → Good P W0 O S0 m0 m S w (execOp a.eval o) v' hp'' → (∀ v hp', out = .val v hp' → Good P W0 O S0 m0 m S w (execOp a.eval o) v hp') ∧
      (∀ f args, out = .call f args → ∃ args' : List Value, (execOp a.eval o).run P w = .ok (.enter f args'.toArray) w ∧ RL w S m args args') := by
    intro v' hp'' e hg
    refine ⟨fun v hp' e2 => ?_, fun f args e2 => ?_⟩
    · rw [e] at e2; cases e2; exact hg
    · rw [e] at e2; cases e2
  unfold vop at hv
  split at hv
  · rename_i x ho; cases hv; exact good rfl (move_ok h hf (.inl ho))
  · rename_i x ho; cases hv; exact good rfl (move_ok h hf (.inr ho))
  · rename_i c x y ho
    split at hv
    · rename_i q hq; cases hv; exact good rfl (pick_ok h hf hq ho)
    · cases hv
  · rename_i e ho
    split at hv
    · rename_i z hz; cases hv; exact good rfl (alloc_ok h hz ho)
    · cases hv
  · rename_i e x ho
    cases hq : (cellsA (ev t x)).all one with
    | false => rw [hq] at hv; cases hv
    | true => rw [hq, cond_true] at hv; cases hv; exact good rfl (box_ok h hf hq ho)
  · rename_i ty parts ho
    split at hv
    · rename_i z fields hz hu
      split at hv
      · rename_i cs hcs
        cases hq : (fields.toList.all fun (f : Field) => (szT P f.type).isSome) with
        | false => rw [hq] at hv; cases hv
        | true => rw [hq, cond_true] at hv; cases hv; exact good rfl (build_struct_ok h hf hz hu hcs hq ho)
      · cases hv
    · rename_i z n e hz hu
      split at hv
      · rename_i sz hsz
        split at hv
        · rename_i cs hcs; cases hv; exact good rfl (build_array_ok h hf hz hu hsz hcs ho)
        · cases hv
      · cases hv
    · cases hv
  · rename_i ty n parts ho
    split at hv
    · rename_i e he
      split at hv
      · rename_i sz z vs hp1 hsz hz hfr
        split at hv
        · rename_i cs hcs
          cases hq : (Nat.ble (n * sz) 16777216 && Nat.ble 1 sz && Nat.beq (cellsA (abs1 z)).length sz && Nat.beq cs.length (n * sz) && cs.all imm0 && cs.all one) with
          | false => rw [hq] at hv; cases hv
          | true =>
            rw [hq, cond_true] at hv
            simp only [Bool.and_eq_true] at hq
            obtain ⟨⟨⟨⟨⟨q1, q2⟩, q3⟩, q4⟩, q5⟩, q6⟩ := hq
            have he' : P.underlying ty = some (.slice e) := by
              unfold elemT at he
              split at he
              · rename_i e2 h2; cases he; exact h2
              · cases he
            have hg := buildSlice_ok h hf he' hsz hz hfr hcs (Nat.le_of_ble_eq_true q1) (Nat.le_of_ble_eq_true q2) (Nat.eq_of_beq_eq_true q3) (Nat.eq_of_beq_eq_true q4) q5 ho
            cases hn0 : Nat.beq n 0 with
            | true => rw [hn0] at hv hg; cases hv; exact good rfl hg
            | false => rw [hn0] at hv hg; cases hv; exact good rfl hg
        · cases hv
      · cases hv
    · cases hv
  · rename_i ty x ho
    split at hv
    · rename_i xs k hx
      split at hv
      · rename_i v hl; cases hv; exact good rfl (load_ok h hf hx hl ho)
      · cases hv
    · cases hv
  · rename_i ty x y ho
    split at hv
    · rename_i i g k n v hp1 he hn hfz
      cases hq : Nat.beq (cellsA v).length n with
      | false => rw [hq] at hv; cases hv
      | true =>
        rw [hq, cond_true] at hv
        split at hv
        · rename_i hp2 hst
          cases hv
          rw [he] at hfz
          exact good rfl (store_ok h hf he hn hfz (Nat.eq_of_beq_eq_true hq) hst ho)
        · cases hv
    · cases hv
  · rename_i x ho
    split at hv
    · rename_i i g k hx; cases hv; exact good rfl (hx ▸ nilCheck_ok h hf (.inl ⟨i, g, k, hx⟩) ho)
    · rename_i xs k hx; cases hv; exact good rfl (hx ▸ nilCheck_ok h hf (.inr (.inl ⟨xs, k, hx⟩)) ho)
    · rename_i f b c hx; cases hv; exact good rfl (hx ▸ nilCheck_ok h hf (.inr (.inr (.inl ⟨f, b, c, hx⟩))) ho)
    · rename_i ty y hx; cases hv; exact good rfl (hx ▸ nilCheck_ok h hf (.inr (.inr (.inr ⟨ty, y, hx⟩))) ho)
    · exact viaPure hv
  · rename_i ty x y z ho
    split at hv
    · rename_i q hq; cases hv; exact good rfl (eql_ok h hf hq ho)
    · exact viaPure hv
  · rename_i ty x y z ho
    split at hv
    · rename_i q hq; cases hv; exact good rfl (neq_ok h hf hq ho)
    · exact viaPure hv
  · rename_i f x y ho; cases hv; exact good rfl (makeFunc_ok h hf ho)
  · rename_i ty x ho
    split at hv
    · cases hv
    · rename_i d hn hd; cases hv; exact good rfl (makeInterface_ok h hf hd (fun ms e => hn ms e) ho)
    · cases hv
  · rename_i st x f ho
    split at hv
    · rename_i fields hs
      split at hv
      · rename_i fd hfd
        split at hv
        · rename_i n hn
          cases hq : Nat.beq n 0 with
          | true => rw [hq] at hv; cases hv
          | false =>
            rw [hq, cond_false] at hv
            have hn0 : n ≠ 0 := fun e => by subst e; cases hq
            split at hv
            · rename_i i g k hx; cases hv; exact good rfl (fieldAddr_ok h hf hs hfd hn hn0 (.inl ⟨i, g, k, hx, rfl⟩) ho)
            · rename_i xs k hx; cases hv; exact good rfl (fieldAddr_ok h hf hs hfd hn hn0 (.inr ⟨xs, k, hx, rfl⟩) ho)
            · cases hv
        · cases hv
      · cases hv
    · cases hv
  · rename_i st x f ho
    split at hv
    · rename_i xs fields hx hs
      split at hv
      · rename_i fd hfd
        split at hv
        · rename_i v hl; cases hv; exact good rfl (field_ok h hf hx hs hfd hl ho)
        · cases hv
      · cases hv
    · exact viaPure hv
  · rename_i ty x ix ho
    split at hv
    · rename_i i e hi hu
      split at hv
      · rename_i sz n xs hsz hx
        cases hq : Nat.blt i n with
        | false => rw [hq] at hv; cases hv
        | true =>
          rw [hq, cond_true] at hv
          cases hv
          exact good rfl (indexAddr_slice_ok h hf hi hu hsz (.inl ⟨n, xs, .inl hx, Nat.le_of_ble_eq_true hq, rfl⟩) ho)
      · rename_i sz n xs hsz hx
        cases hq : Nat.blt i n with
        | false => rw [hq] at hv; cases hv
        | true =>
          rw [hq, cond_true] at hv
          cases hv
          exact good rfl (indexAddr_slice_ok h hf hi hu hsz (.inl ⟨n, xs, .inr hx, Nat.le_of_ble_eq_true hq, rfl⟩) ho)
      · rename_i sz b g k n hsz hx
        split at hv
        · rename_i bl hb
          cases hq : (Nat.blt i n && Nat.beq bl.esz sz && Nat.ble ((i + 1) * sz + k) bl.cells.length) with
          | false => rw [hq] at hv; cases hv
          | true =>
            rw [hq, cond_true] at hv
            cases hv
            simp only [Bool.and_eq_true] at hq
            exact good rfl (indexAddr_slice_ok h hf hi hu hsz (.inr ⟨b, g, k, n, bl, hx, hb, Nat.le_of_ble_eq_true hq.1.1, rfl⟩) ho)
        · cases hv
      · cases hv
    · rename_i i n e hi hu
      split at hv
      · rename_i sz b g k hsz hx
        cases hq : Nat.blt i n with
        | false => rw [hq] at hv; cases hv
        | true =>
          rw [hq, cond_true] at hv
          cases hv
          exact good rfl (indexAddr_array_ok h hf hi hu hsz (Nat.le_of_ble_eq_true hq) (.inl ⟨b, g, k, hx, rfl⟩) ho)
      · rename_i sz xs k hsz hx
        cases hq : Nat.blt i n with
        | false => rw [hq] at hv; cases hv
        | true =>
          rw [hq, cond_true] at hv
          cases hv
          exact good rfl (indexAddr_array_ok h hf hi hu hsz (Nat.le_of_ble_eq_true hq) (.inr ⟨xs, k, hx, rfl⟩) ho)
      · cases hv
    · cases hv
  · rename_i ty ln cp ho
    split at hv
    · rename_i e n c he hn hc
      split at hv
      · rename_i sz by_ z hsz hby hz
        cases hq : (Nat.ble n c && Nat.ble (by_ * c) 70368744177664 && Nat.ble 1 sz && Nat.ble 1 by_ && Nat.beq (cellsA (abs1 z)).length sz && Nat.beq n c && ((List.replicate c (cellsA (abs1 z))).flatten).all imm0) with
        | false => rw [hq] at hv; cases hv
        | true =>
          rw [hq, cond_true] at hv
          cases hv
          simp only [Bool.and_eq_true] at hq
          obtain ⟨⟨⟨⟨⟨⟨q1, q2⟩, q3⟩, q4⟩, q5⟩, q6⟩, q7⟩ := hq
          cases Nat.eq_of_beq_eq_true q6
          have he' : P.underlying ty = some (.slice e) := by
            unfold elemT at he
            split at he
            · rename_i e2 h2; cases he; exact h2
            · cases he
          exact good rfl (makeSlice_ok h hf he' hn hc hsz hby hz (Nat.le_of_ble_eq_true q2) (Nat.le_of_ble_eq_true q3) (Nat.le_of_ble_eq_true q4) (Nat.eq_of_beq_eq_true q5) q7 ho)
      · cases hv
    · cases hv
  · rename_i ty r ho
    split at hv
    · rename_i q hm hr
      cases hv
      refine good rfl (makeMap_ok h hm (.inl ?_) ho)
      cases r with
      | none => rfl
      | some r => cases hr
    · rename_i q k n hm hr
      cases hv
      refine good rfl (makeMap_ok h hm (.inr ?_) ho)
      cases r with
      | none => cases hr
      | some r =>
        have hr' : ev t r = .p (.int k n) := by simpa using hr
        exact ⟨k, n, by rw [Option.map_some, isP_ok (x := ev t r) (by rw [hr']; rfl) (ev_ok hf r)]⟩
    · cases hv
  · rename_i ty x k ok ho
    split at hv
    · exact viaPure hv
    · cases out with
      | val v hp' => exact good rfl (lookup_ok h hf hv ho)
      | call f args => exact absurd hv (fun hh => lookupV_val (P := P) _ _ _ _ _ _ _ hh)
  · rename_i ty x k y ho
    cases out with
    | val v hp' => exact good rfl (update_ok h hf hv ho)
    | call f args => exact absurd hv (fun hh => updateV_val (P := P) _ _ _ _ _ _ _ hh)
  · rename_i ty x lo hi mx ho
    split at hv
    · exact viaPure hv
    · cases out with
      | val v hp' => exact good rfl (slice_ok h hf hv ho)
      | call f args => exact absurd hv (fun hh => sliceV_val (P := P) _ _ _ _ _ _ _ _ hh)
  · rename_i x i ho
    split at hv
    · rename_i v hx; cases hv; exact good rfl (extract_ok h hf hx ho)
    · cases hv
  · rename_i src dst x ho
    split at hv
    · rename_i e hs hd
      split at hv
      · rename_i n xs he hx
        split at hv
        · cases hv
        · rename_i hns
          cases hq : Nat.beq xs.length n with
          | false => rw [hq] at hv; cases hv
          | true =>
            rw [hq, cond_true] at hv
            split at hv
            · rename_i l hl
              cases hv
              exact good rfl (toStr_ok h hf hs hd he hx (fun s e => hns s e) hl (Nat.eq_of_beq_eq_true hq) ho)
            · cases hv
      · cases hv
    · exact viaPure hv
  · rename_i c ho
    obtain ⟨callee', cargs, ts⟩ := c
    simp only at hv
    split at hv
    · split at hv
      · rename_i s x st xt e1 e2
        have e1' : cargs = #[s, x] := Array.ext' (by simpa using e1)
        have e2' : ts = #[st, xt] := Array.ext' (by simpa using e2)
        subst e1'; subst e2'
        cases out with
        | val v hp' => exact good rfl (append_ok h hf ho hv)
        | call f args => exact absurd hv (fun hh => appendV_val (P := P) _ _ _ _ _ _ _ hh)
      · cases hv
    · split at hv
      · rename_i x k ty kt2 e1 e2
        have e1' : cargs = #[x, k] := Array.ext' (by simpa using e1)
        have e2' : ts = #[ty, kt2] := Array.ext' (by simpa using e2)
        subst e1'; subst e2'
        cases out with
        | val v hp' => exact good rfl (delete_ok h hf hv ho)
        | call f args => exact absurd hv (fun hh => deleteV_val (P := P) _ _ _ _ _ _ hh)
      · cases hv
    · split at hv
      · rename_i x ty e1 e2
        have e1' : cargs = #[x] := Array.ext' (by simpa using e1)
        have e2' : ts = #[ty] := Array.ext' (by simpa using e2)
        subst e1'; subst e2'
        cases out with
        | val v hp' => exact good rfl (clear_ok h hf hv ho)
        | call f args => exact absurd hv (fun hh => clearV_val (P := P) _ _ _ _ _ hh)
      · cases hv
    · split at hv
      · rename_i x y dt st e1 e2
        have e1' : cargs = #[x, y] := Array.ext' (by simpa using e1)
        have e2' : ts = #[dt, st] := Array.ext' (by simpa using e2)
        subst e1'; subst e2'
        cases out with
        | val v hp' => exact good rfl (copy_ok h hf hv ho)
        | call f args => exact absurd hv (fun hh => copyV_val (P := P) _ _ _ _ _ _ _ hh)
      · cases hv
    · split at hv
      · rename_i x ty e1 e2
        have e1' : cargs = #[x] := Array.ext' (by simpa using e1)
        have e2' : ts = #[ty] := Array.ext' (by simpa using e2)
        subst e1'; subst e2'
        split at hv
        · rename_i n hn
          split at hv
          · rename_i e hu; cases hv; exact good rfl (len_ok h hf hn hu ho)
          · cases hv
        · split at hv
          · rename_i n hn
            split at hv
            · rename_i k e hu; cases hv; exact good rfl (mlen_ok h hf hn hu ho)
            · cases hv
          · exact viaPure hv
      · exact viaPure hv
    · exact viaPure hv
    · rename_i f
      split at hv
      · rename_i g fa fb hx
        cases hq : (callee P g && Nat.beq fa.size 0 && Nat.beq fb.size 0) with
        | false => rw [hq, cond_false] at hv; exact viaPure hv
        | true =>
          rw [hq, cond_true] at hv
          cases hv
          simp only [Bool.and_eq_true] at hq
          have ha : fa = #[] := Array.eq_empty_of_size_eq_zero (Nat.eq_of_beq_eq_true hq.1.2)
          have hb : fb = #[] := Array.eq_empty_of_size_eq_zero (Nat.eq_of_beq_eq_true hq.2)
          subst ha; subst hb
          have hxe : a.eval f = .func (.func g) #[] #[] := isP_ok (x := ev t f) (by rw [hx]; rfl) (ev_ok hf f)
          refine ⟨fun v hp' e => by (cases e), fun f' args e => ?_⟩
          cases e
          obtain ⟨args', h1, h2⟩ := call_ok (P := P) (xa := []) (xb := []) hf hxe .nil .nil hq.1.1 ho
          exact ⟨args', h1, by simpa using h2⟩
      · rename_i g xa xb hx
        cases hq : callee P g with
        | false => rw [hq] at hv; cases hv
        | true =>
          rw [hq, cond_true] at hv
          cases hv
          have hr := ev_ok hf f
          rw [hx] at hr
          refine ⟨fun v hp' e => by (cases e), fun f' args e => ?_⟩
          cases e
          generalize hu : a.eval f = u at hr
          cases hr with
          | fn m f xs us ys vs h1 h2 h3 h4 => exact call_ok (P := P) hf hu (by exact ⟨by simpa using h1, fun j a b => by simpa using h2 j a (by simpa using b)⟩) (by exact ⟨by simpa using h3, fun j a b => by simpa using h4 j a (by simpa using b)⟩) hq ho
      · cases hv
    · cases hv
  · exact viaPure hv
end
end Go.Vm

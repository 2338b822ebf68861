/- From the virtual memory to a row's words. -/
import Derived.Test.YtlemialjfnbchaaGreatVmW
import Derived.Below
import Derived.Carry
import Derived.ProofKit
import Derived.Test.YtlemialjfnbchaaGreatVmK
import Derived.ChangeSlices
import Derived.Deep.Grids

namespace Go.Vm
open Go Go.RowKit Go.ChangeShapes

section
variable {P : Program}

/-- nothing is virtual at the start: all that is there is seen, and stays -/
theorem HS.start (w : World) : HS w (own0 [] noEM) (fun b => b < w.heap.size) noEM [] noEM (fun b => b < w.heap.size) w where
  dom := fun i => by simp [noEM]
  blk := fun i b e h => by simp at h
  inj := fun i j e e' p q h => by simp [noEM] at h
  sok := fun b h => h
  ro := fun i b e pl h => by simp at h
  org := fun i e pl h => by simp [noEM] at h
  os := rfl
  tape := rfl
  out := rfl
  size := Nat.le_refl _
  frame := fun _ _ _ => rfl
  snew := fun b h => .inl h
  smono := fun b h => h

/-- a run that gives 'true' without virtual memory at its start is a call that returns true and leaves all that was there -/
theorem calls_true {f : FuncId} {args : List AV} {hp' : List Blk} {w : World} {args' : List Value} (h : FnOk P f args [] (.p (.bool true)) hp') (hr : RL w (fun b => b < w.heap.size) noEM args args') :
    Calls P f args'.toArray w fun e w' => e = .returned (.bool true) ∧ Below w.heap.size w w' := by
  refine (h noEM _ w args' (HS.start w) hr).mono ?_
  rintro e w' ⟨v', m', S', rfl, h1, h2, h3, h4, h5⟩
  refine ⟨?_, h1.os, h1.tape, h1.out, h1.size, fun k hk => h1.frame k hk ?_⟩
  · cases h5; rfl
  · rintro ⟨i, blk, e, pl, k1, _⟩
    simp at k1

theorem trodAll_stays {H : Type} {enc : TypeId × Value → H} (hl : laidOutB P = true) {W W' : World} {sp : Nat → Bool} : ∀ (ts : List TypeId) (vs : List Value) (ds : List (DataW H)) (ps : List MemPlace), (ts.all fun t => P.readableRec t && decide (t < P.types.size)) = true →
    DataW.TrodAll enc P W 0 (fun _ => true) true ts vs ds ps → (∀ p ∈ ps, W.sameAt W' p) → (∀ p ∈ ps, sp p.block = true) → DataW.TrodAll enc P W' 0 sp true ts vs ds ps
  | [], [], [], _, _, h, _, _ => h
  | t :: ts, v :: vs, d :: ds, ps, ht, h, h1, h2 => by
    obtain ⟨p, q, k1, k2, rfl⟩ := h
    rw [List.all_cons, Bool.and_eq_true, Bool.and_eq_true] at ht
    exact ⟨p, q, WideElems.Trod_stays hl ht.1.1 (of_decide_eq_true ht.1.2) k1 (fun x hx => h1 x (List.mem_append_left _ hx)) (fun x hx => h2 x (List.mem_append_left _ hx)),
      trodAll_stays hl ts vs ds q ht.2 k2 (fun x hx => h1 x (List.mem_append_right _ hx)) (fun x hx => h2 x (List.mem_append_right _ hx)), rfl⟩
  | [], _ :: _, _, _, _, h, _, _ => h.elim
  | [], [], _ :: _, _, _, h, _, _ => h.elim
  | _ :: _, [], _, _, _, h, _, _ => h.elim
  | _ :: _, _ :: _, [], _, _, h, _, _ => h.elim

/-- the row's end: it returned true, and what was there is there -/
theorem post_true {H : Type} {enc : TypeId × Value → H} {f : Func} {s : ChangeSpec} {apart : Bool} {W W' : World} {args : Array Value} {ds gs : List (DataW H)} {before : List MemPlace} {tb : TypeId} (hl : laidOutB P = true)
    (hW : DataW.Whole enc P f.params.toList s.vars apart W args.toList ds gs before) (hb : Below W.heap.size W W') (hts : (f.params.toList.all fun t => P.readableRec t && decide (t < P.types.size)) = true)
    (hv : s.vars = []) (hr : f.resultTypes = #[tb]) (htb : P.underlying tb = some .bool) (hs : (s.fn H (ds ++ gs)) = { results := [.lit (.bool true)], args := ds }) :
    s.post enc P f apart true false false W args (.bool true) W' := by
  have hW' := hW
  obtain ⟨p, q, hA, hV, rfl, hz, hn⟩ := hW
  rw [hv] at hV
  have hlt : ∀ x ∈ p ++ q, x.block < W.heap.size := fun x hx => hW'.lt x hx
  refine ⟨ds, gs, p ++ q, [], p, [], hW', ?_, ?_, ?_, hb.frame _, fun h => by cases h⟩
  · rw [hs, hr]
    exact trodAll_mk1 (shut_bool htb true)
  · rw [hs]
    exact trodAll_stays hl _ _ _ _ hts hA (fun x hx => hb.same (hlt x (List.mem_append_left _ hx))) (fun x hx => by simpa using hlt x (List.mem_append_left _ hx))
  · rw [hv, hs]
    rfl
end
end Go.Vm

namespace Go.Vm
open Go Go.ChangeShapes Go.WideShapes

theorem spot_none {w : World} {a : Addr} {v : Value} (h : w.cell? a = some v) : a.spot = none ∧ a.block < w.heap.size := by
  unfold World.cell? at h
  split at h
  · rename_i c x y hb
    refine ⟨?_, (Array.getElem?_eq_some_iff.1 hb).1⟩
    cases hs : a.spot with
    | none => rfl
    | some q => rw [hs] at h; simp at h
  · cases h
theorem row_of {W : World} {a : Addr} {len cap : Nat} {xs : List Value} (hl : len ≤ cap) (hx : xs.length = len) (h : ∀ i (h : i < xs.length), W.cell? (a.add i) = some xs[i]) :
    R W (fun b => b < W.heap.size) noEM (.lst xs.length (xs.map .p)) (.slice (some a) len cap) := by
  subst hx
  cases hxs : xs with
  | nil => exact .lst0 _ _ _
  | cons x r =>
    rw [← hxs]
    have h0 := h 0 (by rw [hxs]; simp)
    have e0 : a.add 0 = a := by simp [Addr.add]
    rw [e0] at h0
    obtain ⟨hs, hb⟩ := spot_none h0
    have ea : a = ⟨a.block, a.off, none⟩ := by cases a; simp at hs; simp [hs]
    have hadd : ∀ i, a.add i = ⟨a.block, a.off + i, none⟩ := by
      intro i
      unfold Addr.add
      split
      · rename_i hi; subst hi; exact ea
      · rfl
    have hc : ∀ j (hj : j < (xs.map AV.p).length), W.cell? ⟨a.block, a.off + j, none⟩ = some (xs.getD j undef) := by
      intro j hj
      rw [List.length_map] at hj
      rw [← hadd j, h j hj]
      simp [List.getD, hj]
    rw [ea]
    refine R.lst _ _ _ _ _ _ (fun j => xs.getD j undef) hl hb hc ?_
    intro j hj
    rw [List.length_map] at hj
    have e1 : (xs.map AV.p)[j]'(by simpa using hj) = AV.p (xs.getD j undef) := by simp [List.getD, hj]
    rw [e1]
    exact .p _ _

section
variable {P : Program} {H : Type} {enc : TypeId × Value → H} {W : World}
theorem row_ints {r : Reach} {b0 : Nat} {t e : TypeId} {k : IntKind} {v : Value} {d : DataW H} {ps : List MemPlace} (ht : P.underlying t = some (.slice e)) (he : P.underlying e = some (.int k)) (hc : P.cellsOf e = 1)
    (hval : Value.okWide P W r b0 t v) (hd : DataW.Trod enc P W 0 (fun _ => true) true t v d ps) :
    ∃ zs : List Int, zs.length ≤ maxLen ∧ (∀ z ∈ zs, (Lit.int k z).wf = true) ∧ R W (fun b => b < W.heap.size) noEM (.lst zs.length (zs.map fun z => .p (.int k z))) v := by
  obtain ⟨a0, len, cap, rfl⟩ := okWide_slice ht hval
  obtain ⟨fuel, hf⟩ := hd
  rcases open_ints ht he hc hf with ⟨hcs, _⟩ | ⟨a, len', cap', zs, hcs, _, hl, hm, hz, _, hcell, hwz⟩
  · simp [Value.cells] at hcs
    obtain ⟨rfl, rfl, rfl⟩ := hcs
    exact ⟨[], by simp, by simp, .lst0 _ _ _⟩
  · simp [Value.cells] at hcs
    obtain ⟨rfl, rfl, rfl⟩ := hcs
    simp only [if_true] at hz
    refine ⟨zs.take len, by rw [List.length_take]; omega, fun z hz => hwz z (List.mem_of_mem_take hz), ?_⟩
    have hlen : ((zs.take len).map fun z => Value.int k z).length = len := by rw [List.length_map, List.length_take]; omega
    have := row_of (W := W) (a := a) (len := len) (cap := cap) (xs := (zs.take len).map fun z => Value.int k z) hl hlen ?_
    · rw [List.map_map] at this
      rw [List.length_map] at this
      exact this
    · intro i hi
      rw [hlen] at hi
      rw [hcell i (by omega)]
      simp [List.getD, show i < zs.length by omega]
theorem row_bools {r : Reach} {b0 : Nat} {t e : TypeId} {v : Value} {d : DataW H} {ps : List MemPlace} (ht : P.underlying t = some (.slice e)) (he : P.underlying e = some .bool) (hc : P.cellsOf e = 1)
    (hval : Value.okWide P W r b0 t v) (hd : DataW.Trod enc P W 0 (fun _ => true) true t v d ps) :
    ∃ zs : List Bool, zs.length ≤ maxLen ∧ R W (fun b => b < W.heap.size) noEM (.lst zs.length (zs.map fun z => .p (.bool z))) v := by
  obtain ⟨a0, len, cap, rfl⟩ := okWide_slice ht hval
  obtain ⟨fuel, hf⟩ := hd
  rcases Go.Deep.open_bools ht he hc hf with ⟨hcs, _⟩ | ⟨a, len', cap', B, hcs, _, hl, hm, _, hcell⟩
  · simp [Value.cells] at hcs
    obtain ⟨rfl, rfl, rfl⟩ := hcs
    exact ⟨[], by simp, .lst0 _ _ _⟩
  · simp [Value.cells] at hcs
    obtain ⟨rfl, rfl, rfl⟩ := hcs
    refine ⟨(List.range len).map B, by simp; omega, ?_⟩
    have hlen : (((List.range len).map B).map fun z => Value.bool z).length = len := by simp
    have := row_of (W := W) (a := a) (len := len) (cap := cap) (xs := ((List.range len).map B).map fun z => Value.bool z) hl hlen ?_
    · simp only [List.length_map, List.map_map] at this ⊢
      exact this
    · intro i hi
      rw [hlen] at hi
      rw [hcell i (by omega)]
      simp
end
end Go.Vm
namespace Go.Vm
open Go
/-- what an index into an open row gives, and what lies there -/
def ixO (i n : Nat) (xs : List AV) (k : Nat) (hp : List Blk) : AV := outAV (cond (Nat.blt i n) (some (.val (.ip xs k) hp)) none)
def ldO (P : Program) (t : TypeId) (xs : List AV) (k : Nat) (hp : List Blk) : AV := outAV (match ld P t xs k with | some v => some (.val v hp) | none => none)
theorem ixO_eq {i n k : Nat} {xs : List AV} {hp : List Blk} (h : i < n) : ixO i n xs k hp = .ip xs k := by
  unfold ixO
  have : Nat.blt i n = true := by simp [Nat.blt_eq]; exact h
  rw [this]; rfl
theorem ldO_eq {P : Program} {t : TypeId} {k : Nat} {xs : List AV} {hp : List Blk} {v : AV} (ht : isAggT P t = some false) (h : xs[k]? = some v) : ldO P t xs k hp = v := by
  unfold ldO ld
  rw [ht]; simp only [h]; rfl
theorem hold_nil : Hold [] := fun c h => by simp at h
theorem hold_eq {x y : AV} {cs : List (AV × AV)} (h : x = y) (k : Hold cs) : Hold ((x, y) :: cs) := by
  intro c hc
  rcases List.mem_cons.1 hc with rfl | hc
  · exact h
  · exact k c hc
theorem hold_T {p : Prop} [Decidable p] {cs : List (AV × AV)} (h : p) (k : Hold cs) : Hold ((.p (.bool (decide p)), .p (.bool true)) :: cs) := hold_eq (by simp [h]) k
theorem hold_F {p : Prop} [Decidable p] {cs : List (AV × AV)} (h : ¬ p) (k : Hold cs) : Hold ((.p (.bool (decide p)), .p (.bool false)) :: cs) := hold_eq (by simp [h]) k
theorem hold_b {b u : Bool} {cs : List (AV × AV)} (h : b = u) (k : Hold cs) : Hold ((.p (.bool b), .p (.bool u)) :: cs) := hold_eq (by rw [h]) k
theorem wrap_in {x : Int} (h1 : -9223372036854775808 ≤ x) (h2 : x < 9223372036854775808) : IntKind.wrap .i64 x = x := by
  show (if (true && decide (x % 18446744073709551616 ≥ 9223372036854775808)) = true then x % 18446744073709551616 - 18446744073709551616 else x % 18446744073709551616) = x
  simp only [Bool.true_and, decide_eq_true_eq]
  split <;> omega
theorem ov_cond {f k : FuncId} {F G : List AV → List Blk → Option (AV × List Blk)} {o : Option (List AV → List Blk → Option (AV × List Blk))} (h : cond (Nat.beq f k) (some F) o = some G) : (f = k ∧ F = G) ∨ o = some G := by
  cases hb : Nat.beq f k with
  | true => rw [hb] at h; cases h; exact .inl ⟨Nat.eq_of_beq_eq_true hb, rfl⟩
  | false => rw [hb] at h; exact .inr h
theorem sup_eq {x y : AV} {cs : List (AV × AV)} (h : x = y) (k : Hold cs) : Hold ((x, y) :: cs) := hold_eq h k
end Go.Vm
namespace Go.Vm
open Go Go.ChangeShapes
section
variable {H : Type} {enc : TypeId × Value → H} {P : Program} {w : World} {base : Nat} {spare : Nat → Bool} {held : Bool}
theorem trodAll_five {t t' t'' t3 t4 : TypeId} {args : Array Value} {ds : List (DataW H)} {ps : List MemPlace} (h : DataW.TrodAll enc P w base spare held [t, t', t'', t3, t4] args.toList ds ps) :
    ∃ v v' v'' v3 v4 d d' d'' d3 d4 p p' p'' p3 p4, args = #[v, v', v'', v3, v4] ∧ ds = [d, d', d'', d3, d4] ∧ ps = p ++ p' ++ p'' ++ p3 ++ p4 ∧ DataW.Trod enc P w base spare held t v d p ∧ DataW.Trod enc P w base spare held t' v' d' p' ∧ DataW.Trod enc P w base spare held t'' v'' d'' p'' ∧
      DataW.Trod enc P w base spare held t3 v3 d3 p3 ∧ DataW.Trod enc P w base spare held t4 v4 d4 p4 := by
  obtain ⟨v, vs, d, ds', p, q, hargs, rfl, rfl, hd, hrest⟩ := trodAll_cons h
  obtain ⟨v', vs', d', ds'', p', q', rfl, rfl, rfl, hd', hrest'⟩ := trodAll_cons hrest
  obtain ⟨v'', vs'', d'', ds''', p'', q'', rfl, rfl, rfl, hd'', hrest''⟩ := trodAll_cons hrest'
  obtain ⟨v3, vs3, d3, ds3, p3, q3, rfl, rfl, rfl, hd3, hrest3⟩ := trodAll_cons hrest''
  obtain ⟨v4, vs4, d4, ds4, p4, q4, rfl, rfl, rfl, hd4, hrest4⟩ := trodAll_cons hrest3
  obtain ⟨rfl, rfl, rfl⟩ := trodAll_nil hrest4
  exact ⟨v, v', v'', v3, v4, d, d', d'', d3, d4, p, p', p'', p3, p4, by cases args; simp_all, rfl, by simp, hd, hd', hd'', hd3, hd4⟩
end
theorem wf_in {k : IntKind} {a : Int} (h : (Lit.int k a).wf = true) : k.min ≤ a ∧ a ≤ k.max := by
  have h' : decide (k.min ≤ a ∧ a ≤ k.max) = true := by simpa [Lit.wf] using h
  exact of_decide_eq_true h'
theorem rl_nil {w : World} {S : Nat → Prop} {m : EM} : RL w S m [] [] := .nil
theorem rl_p {w : World} {S : Nat → Prop} {m : EM} {v : Value} {xs : List AV} {vs : List Value} (h : RL w S m xs vs) : RL w S m (.p v :: xs) (v :: vs) := .cons (.p _ _) h
theorem rl_c {w : World} {S : Nat → Prop} {m : EM} {x : AV} {v : Value} {xs : List AV} {vs : List Value} (k : R w S m x v) (h : RL w S m xs vs) : RL w S m (x :: xs) (v :: vs) := .cons k h
end Go.Vm

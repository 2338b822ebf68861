/- From the virtual memory to a row's words. -/
import Derived.Test.YtlemialjfnbchaaVmW
import Derived.Below
import Derived.Carry
import Derived.ProofKit
namespace Go.Vm
open Go Go.RowKit Go.ChangeShapes

section
variable {P : Program}

/-- nothing is virtual at the start: all that is there is seen, and stays -/
theorem HS.start (w : World) : HS w (own0 [] noEM) (fun b => b < w.heap.size) noEM [] noEM (fun b => b < w.heap.size) w where
  dom := fun i => by simp [noEM]
  blk := fun i b e h => by simp at h
  inj := fun i j e e' p q h => by simp [noEM] at h
  sok := fun b h => h
  ro := fun i b e pl h => by simp at h
  org := fun i e pl h => by simp [noEM] at h
  os := rfl
  tape := rfl
  out := rfl
  size := Nat.le_refl _
  frame := fun _ _ _ => rfl
  snew := fun b h => .inl h
  smono := fun b h => h

/-- a run that gives 'true' without virtual memory at its start is a call that returns true and leaves all that was there -/
theorem calls_true {f : FuncId} {args : List AV} {hp' : List Blk} {w : World} {args' : List Value} (h : FnOk P f args [] (.p (.bool true)) hp') (hr : RL w (fun b => b < w.heap.size) noEM args args') :
    Calls P f args'.toArray w fun e w' => e = .returned (.bool true) ∧ Below w.heap.size w w' := by
  refine (h noEM _ w args' (HS.start w) hr).mono ?_
  rintro e w' ⟨v', m', S', rfl, h1, h2, h3, h4, h5⟩
  refine ⟨?_, h1.os, h1.tape, h1.out, h1.size, fun k hk => h1.frame k hk ?_⟩
  · cases h5; rfl
  · rintro ⟨i, blk, e, pl, k1, _⟩
    simp at k1

theorem trodAll_stays {H : Type} {enc : TypeId × Value → H} (hl : laidOutB P = true) {W W' : World} {sp : Nat → Bool} : ∀ (ts : List TypeId) (vs : List Value) (ds : List (DataW H)) (ps : List MemPlace), (ts.all fun t => P.readableRec t && decide (t < P.types.size)) = true →
    DataW.TrodAll enc P W 0 (fun _ => true) true ts vs ds ps → (∀ p ∈ ps, W.sameAt W' p) → (∀ p ∈ ps, sp p.block = true) → DataW.TrodAll enc P W' 0 sp true ts vs ds ps
  | [], [], [], _, _, h, _, _ => h
  | t :: ts, v :: vs, d :: ds, ps, ht, h, h1, h2 => by
    obtain ⟨p, q, k1, k2, rfl⟩ := h
    rw [List.all_cons, Bool.and_eq_true, Bool.and_eq_true] at ht
    exact ⟨p, q, WideElems.Trod_stays hl ht.1.1 (of_decide_eq_true ht.1.2) k1 (fun x hx => h1 x (List.mem_append_left _ hx)) (fun x hx => h2 x (List.mem_append_left _ hx)),
      trodAll_stays hl ts vs ds q ht.2 k2 (fun x hx => h1 x (List.mem_append_right _ hx)) (fun x hx => h2 x (List.mem_append_right _ hx)), rfl⟩
  | [], _ :: _, _, _, _, h, _, _ => h.elim
  | [], [], _ :: _, _, _, h, _, _ => h.elim
  | _ :: _, [], _, _, _, h, _, _ => h.elim
  | _ :: _, _ :: _, [], _, _, h, _, _ => h.elim

/-- the row's end: it returned true, and what was there is there -/
theorem post_true {H : Type} {enc : TypeId × Value → H} {f : Func} {s : ChangeSpec} {apart : Bool} {W W' : World} {args : Array Value} {ds gs : List (DataW H)} {before : List MemPlace} {tb : TypeId} (hl : laidOutB P = true)
    (hW : DataW.Whole enc P f.params.toList s.vars apart W args.toList ds gs before) (hb : Below W.heap.size W W') (hts : (f.params.toList.all fun t => P.readableRec t && decide (t < P.types.size)) = true)
    (hv : s.vars = []) (hr : f.resultTypes = #[tb]) (htb : P.underlying tb = some .bool) (hs : (s.fn H (ds ++ gs)) = { results := [.lit (.bool true)], args := ds }) :
    s.post enc P f apart true false false W args (.bool true) W' := by
  have hW' := hW
  obtain ⟨p, q, hA, hV, rfl, hz, hn⟩ := hW
  rw [hv] at hV
  have hlt : ∀ x ∈ p ++ q, x.block < W.heap.size := fun x hx => hW'.lt x hx
  refine ⟨ds, gs, p ++ q, [], p, [], hW', ?_, ?_, ?_, hb.frame _, fun h => by cases h⟩
  · rw [hs, hr]
    exact trodAll_mk1 (shut_bool htb true)
  · rw [hs]
    exact trodAll_stays hl _ _ _ _ hts hA (fun x hx => hb.same (hlt x (List.mem_append_left _ hx))) (fun x hx => by simpa using hlt x (List.mem_append_left _ hx))
  · rw [hv, hs]
    rfl
end
end Go.Vm

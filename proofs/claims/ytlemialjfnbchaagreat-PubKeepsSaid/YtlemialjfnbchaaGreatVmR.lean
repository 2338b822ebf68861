/- How virtual values stand for the model's. -/
import Derived.Test.YtlemialjfnbchaaGreatVmB
import Derived.Laws.AppendOwn
import Derived.Below

namespace Go.Vm
open Go

/-- where a virtual block lies: block, first cell, the block's cells, cells of an element -/
structure Place where
  b : Nat
  o : Nat
  s : Nat
  e : Nat
structure Emb where
  pl : Option Place
  gen : Nat
abbrev EM := Nat → Option Emb
def noEM : EM := fun _ => none

/-- a virtual value stands for a value of the model in a world; what lies in blocks of S stays as it is -/
inductive R (w : World) (S : Nat → Prop) : EM → AV → Value → Prop
  | p (m v) : R w S m (.p v) v
  | top (m v) : R w S m .top v
  | emp (m a) : R w S m .emp (.slice a 0 0)
  | lst0 (m a c) : R w S m (.lst 0 []) (.slice a 0 c)
  | lst (m n xs b o c) (f : Nat → Value) : n ≤ c → S b → (∀ j, j < xs.length → w.cell? ⟨b, o + j, none⟩ = some (f j)) →
      (∀ j (h : j < xs.length), R w S noEM xs[j] (f j)) → R w S m (.lst n xs) (.slice (some ⟨b, o, none⟩) n c)
  | lit (m n xs b o) (f : Nat → Value) : S b → (∀ j, j < xs.length → w.cell? ⟨b, o + j, none⟩ = some (f j)) →
      (∀ j (h : j < xs.length), R w S noEM xs[j] (f j)) → R w S m (.lit n xs) (.slice (some ⟨b, o, none⟩) n n)
  | ip (m xs k b o) (f : Nat → Value) : S b → (∀ j, j < xs.length → w.cell? ⟨b, o + j, none⟩ = some (f j)) →
      (∀ j (h : j < xs.length), R w S noEM xs[j] (f j)) → R w S m (.ip xs k) (.pointer (some ⟨b, o + k, none⟩))
  | ptr (m i k e pl) : m i = some e → e.pl = some pl → R w S m (.ptr i e.gen k) (.pointer (some ⟨pl.b, pl.o + k, none⟩))
  | ptrOld (m i g k e a) : m i = some e → g < e.gen → R w S m (.ptr i g k) (.pointer (some a))
  | map (m i e pl) : m i = some e → e.pl = some pl → R w S m (.mp i e.gen) (.map (some pl.b))
  | mapOld (m i g e b) : m i = some e → g < e.gen → R w S m (.mp i g) (.map (some b))
  | ref (m i k n e pl c) : m i = some e → e.pl = some pl → n ≤ c → pl.o + k + c * pl.e ≤ pl.s →
      R w S m (.ref i e.gen k n) (.slice (some ⟨pl.b, pl.o + k, none⟩) n c)
  | refNil (m i e a) : m i = some e → e.pl = none → R w S m (.ref i e.gen 0 0) (.slice a 0 0)
  | refOld (m i g k n e a l c) : m i = some e → g < e.gen → (1 ≤ n → a.isSome = true) → R w S m (.ref i g k n) (.slice a l c)
  | agg (m) (xs : List AV) (ys : List Value) : xs.length = ys.length → (∀ j (h : j < xs.length) (h' : j < ys.length), R w S m xs[j] ys[j]) → R w S m (.agg xs) (.agg ys.toArray)
  | tup (m) (xs : List AV) (ys : List Value) : xs.length = ys.length → (∀ j (h : j < xs.length) (h' : j < ys.length), R w S m xs[j] ys[j]) → R w S m (.tup xs) (.tuple ys.toArray)
  | fn (m f) (xs us : List AV) (ys vs : List Value) : xs.length = ys.length → (∀ j (h : j < xs.length) (h' : j < ys.length), R w S m xs[j] ys[j]) →
      us.length = vs.length → (∀ j (h : j < us.length) (h' : j < vs.length), R w S m us[j] vs[j]) → R w S m (.fn f xs us) (.func f ys.toArray vs.toArray)
  | ifc (m t x v) : R w S m x v → R w S m (.ifc t x) (.iface t v)

/-- the map of blocks goes on: each stays, or is another one of a later age -/
def Ext (m m' : EM) : Prop := ∀ i e, m i = some e → ∃ e', m' i = some e' ∧ (e' = e ∨ e.gen < e'.gen)
theorem Ext.refl (m : EM) : Ext m m := fun _ e h => ⟨e, h, .inl rfl⟩
theorem Ext.trans {a b c : EM} (h : Ext a b) (k : Ext b c) : Ext a c := by
  intro i e he
  obtain ⟨e', h1, h2⟩ := h i e he
  obtain ⟨e'', h3, h4⟩ := k i e' h1
  refine ⟨e'', h3, ?_⟩
  rcases h2 with rfl | h2 <;> rcases h4 with rfl | h4
  · exact .inl rfl
  · exact .inr h4
  · exact .inr h2
  · exact .inr (by omega)
theorem Ext.no (m : EM) : Ext noEM m := fun i e h => by simp [noEM] at h

/-- what lies in S is as it was -/
def Keeps (S : Nat → Prop) (w w' : World) : Prop := ∀ b, S b → w'.heap[b]? = w.heap[b]?
theorem Keeps.refl (S : Nat → Prop) (w : World) : Keeps S w w := fun _ _ => rfl
theorem Keeps.cell {S : Nat → Prop} {w w' : World} (h : Keeps S w w') {b o : Nat} (hb : S b) : w'.cell? ⟨b, o, none⟩ = w.cell? ⟨b, o, none⟩ := by
  simp only [World.cell?, h b hb]

theorem R.monoC {w w' : World} {S S' : Nat → Prop} (hk : ∀ b o, S b → w'.cell? ⟨b, o, none⟩ = w.cell? ⟨b, o, none⟩) (hs : ∀ b, S b → S' b) {m : EM} {x : AV} {v : Value} (h : R w S m x v) :
    ∀ {m' : EM}, Ext m m' → R w' S' m' x v := by
  induction h with
  | p m v => intro m' _; exact .p m' v
  | top m v => intro m' _; exact .top m' v
  | emp m a => intro m' _; exact .emp m' a
  | lst0 m a c => intro m' _; exact .lst0 m' a c
  | lst m n xs b o c f hn hb hc hx ih =>
    intro m' _
    exact .lst m' n xs b o c f hn (hs b hb) (fun j hj => (hk b _ hb).trans (hc j hj)) (fun j hj => ih j hj (Ext.refl _))
  | lit m n xs b o f hb hc hx ih =>
    intro m' _
    exact .lit m' n xs b o f (hs b hb) (fun j hj => (hk b _ hb).trans (hc j hj)) (fun j hj => ih j hj (Ext.refl _))
  | ip m xs k b o f hb hc hx ih =>
    intro m' _
    exact .ip m' xs k b o f (hs b hb) (fun j hj => (hk b _ hb).trans (hc j hj)) (fun j hj => ih j hj (Ext.refl _))
  | ptr m i k e pl h1 h2 =>
    intro m' hm
    obtain ⟨e', h3, h4⟩ := hm i e h1
    rcases h4 with rfl | h4
    · exact .ptr m' i k e' pl h3 h2
    · exact .ptrOld m' i e.gen k e' _ h3 h4
  | ptrOld m i g k e a h1 h2 =>
    intro m' hm
    obtain ⟨e', h3, h4⟩ := hm i e h1
    exact .ptrOld m' i g k e' a h3 (by rcases h4 with rfl | h4 <;> omega)
  | map m i e pl h1 h2 =>
    intro m' hm
    obtain ⟨e', h3, h4⟩ := hm i e h1
    rcases h4 with rfl | h4
    · exact .map m' i e' pl h3 h2
    · exact .mapOld m' i e.gen e' _ h3 h4
  | mapOld m i g e b h1 h2 =>
    intro m' hm
    obtain ⟨e', h3, h4⟩ := hm i e h1
    exact .mapOld m' i g e' b h3 (by rcases h4 with rfl | h4 <;> omega)
  | ref m i k n e pl c h1 h2 h5 h6 =>
    intro m' hm
    obtain ⟨e', h3, h4⟩ := hm i e h1
    rcases h4 with rfl | h4
    · exact .ref m' i k n e' pl c h3 h2 h5 h6
    · exact .refOld m' i e.gen k n e' _ _ _ h3 h4 (fun _ => rfl)
  | refNil m i e a h1 h2 =>
    intro m' hm
    obtain ⟨e', h3, h4⟩ := hm i e h1
    rcases h4 with rfl | h4
    · exact .refNil m' i e' a h3 h2
    · exact .refOld m' i e.gen 0 0 e' _ _ _ h3 h4 (fun h => by omega)
  | refOld m i g k n e a l c h1 h2 hn =>
    intro m' hm
    obtain ⟨e', h3, h4⟩ := hm i e h1
    exact .refOld m' i g k n e' a l c h3 (by rcases h4 with rfl | h4 <;> omega) hn
  | agg m xs ys hl hx ih => intro m' hm; exact .agg m' xs ys hl fun j h h' => ih j h h' hm
  | tup m xs ys hl hx ih => intro m' hm; exact .tup m' xs ys hl fun j h h' => ih j h h' hm
  | fn m f xs us ys vs hl hx hl2 hx2 ih ih2 => intro m' hm; exact .fn m' f xs us ys vs hl (fun j h h' => ih j h h' hm) hl2 (fun j h h' => ih2 j h h' hm)
  | ifc m t x v hx ih => intro m' hm; exact .ifc m' t x v (ih hm)
theorem R.mono {w w' : World} {S S' : Nat → Prop} (hk : Keeps S w w') (hs : ∀ b, S b → S' b) {m : EM} {x : AV} {v : Value} (h : R w S m x v) :
    ∀ {m' : EM}, Ext m m' → R w' S' m' x v := h.monoC (fun _ _ hb => hk.cell hb) hs

/-! ### lists of values -/
def RL (w : World) (S : Nat → Prop) (m : EM) (xs : List AV) (ys : List Value) : Prop :=
  xs.length = ys.length ∧ ∀ j (h : j < xs.length) (h' : j < ys.length), R w S m xs[j] ys[j]
theorem RL.nil {w : World} {S : Nat → Prop} {m : EM} : RL w S m [] [] := ⟨rfl, fun _j h => absurd h (Nat.not_lt_zero _)⟩
theorem RL.cons {w : World} {S : Nat → Prop} {m : EM} {x : AV} {y : Value} {xs : List AV} {ys : List Value} (h : R w S m x y) (hs : RL w S m xs ys) : RL w S m (x :: xs) (y :: ys) := by
  refine ⟨by simp [hs.1], fun j h1 h2 => ?_⟩
  cases j with
  | zero => exact h
  | succ j => exact hs.2 j (by simpa using h1) (by simpa using h2)
theorem RL.cases {w : World} {S : Nat → Prop} {m : EM} {xs : List AV} {ys : List Value} (h : RL w S m xs ys) :
    (xs = [] ∧ ys = []) ∨ ∃ x xs' y ys', xs = x :: xs' ∧ ys = y :: ys' ∧ R w S m x y ∧ RL w S m xs' ys' := by
  cases xs with
  | nil => cases ys with
    | nil => exact .inl ⟨rfl, rfl⟩
    | cons y ys => have := h.1; simp at this
  | cons x xs => cases ys with
    | nil => have := h.1; simp at this
    | cons y ys =>
      refine .inr ⟨x, xs, y, ys, rfl, rfl, h.2 0 (by simp) (by simp), ⟨by simpa using h.1, fun j h1 h2 => ?_⟩⟩
      exact h.2 (j + 1) (by simpa using h1) (by simpa using h2)
theorem RL.append {w : World} {S : Nat → Prop} {m : EM} {xs : List AV} {ys : List Value} {us : List AV} {vs : List Value} (h : RL w S m xs ys) (k : RL w S m us vs) : RL w S m (xs ++ us) (ys ++ vs) := by
  induction xs generalizing ys with
  | nil => rcases h.cases with ⟨_, rfl⟩ | ⟨_, _, _, _, e, _⟩; · exact k
           · cases e
  | cons x xs ih => rcases h.cases with ⟨e, _⟩ | ⟨_, _, y, ys', e, rfl, h1, h2⟩; · cases e
                    · cases e; exact (ih h2).cons h1 |> fun q => q
theorem RL.mono {w w' : World} {S S' : Nat → Prop} (hk : Keeps S w w') (hs : ∀ b, S b → S' b) {m m' : EM} (hm : Ext m m') {xs : List AV} {ys : List Value} (h : RL w S m xs ys) : RL w' S' m' xs ys :=
  ⟨h.1, fun j h1 h2 => (h.2 j h1 h2).mono hk hs hm⟩
theorem RL.take {w : World} {S : Nat → Prop} {m : EM} {xs : List AV} {ys : List Value} (h : RL w S m xs ys) (n : Nat) : RL w S m (xs.take n) (ys.take n) :=
  ⟨by simp [h.1], fun j h1 h2 => by simp only [List.getElem_take]; exact h.2 j _ _⟩
theorem RL.drop {w : World} {S : Nat → Prop} {m : EM} {xs : List AV} {ys : List Value} (h : RL w S m xs ys) (n : Nat) : RL w S m (xs.drop n) (ys.drop n) :=
  ⟨by simp [h.1], fun j h1 h2 => by simp only [List.getElem_drop]; exact h.2 _ _ _⟩
theorem RL.get {w : World} {S : Nat → Prop} {m : EM} {xs : List AV} {ys : List Value} (h : RL w S m xs ys) {j : Nat} {x : AV} (hj : xs[j]? = some x) : ∃ y, ys[j]? = some y ∧ R w S m x y := by
  obtain ⟨hl, rfl⟩ := List.getElem?_eq_some_iff.1 hj
  have hl' : j < ys.length := h.1 ▸ hl
  exact ⟨ys[j], List.getElem?_eq_getElem hl', h.2 j hl hl'⟩
theorem RL.map {w w' : World} {S S' : Nat → Prop} {m m' : EM} {xs : List AV} {ys : List Value} {r : AV → AV} (h : RL w S m xs ys) (hr : ∀ x y, R w S m x y → R w' S' m' (r x) y) : RL w' S' m' (xs.map r) ys :=
  ⟨by simp [h.1], fun j h1 h2 => by simp only [List.getElem_map]; exact hr _ _ (h.2 j (by simpa using h1) h2)⟩
theorem RL.pmap (w : World) (S : Nat → Prop) (m : EM) (ys : List Value) : RL w S m (ys.map .p) ys :=
  ⟨by simp, fun j h1 h2 => by simp only [List.getElem_map]; exact .p _ _⟩

/-! ### the values that are the model's own -/
theorem isP_ok {w : World} {S : Nat → Prop} {m : EM} {x : AV} {u v : Value} (hx : isP x = some u) (h : R w S m x v) : v = u := by
  cases x <;> simp [isP] at hx
  subst hx
  cases h
  rfl
theorem concL_ok {w : World} {S : Nat → Prop} {m : EM} : ∀ {xs : List AV} {us vs : List Value}, concL xs = some us → RL w S m xs vs → vs = us
  | [], us, vs, hx, h => by
    simp [concL] at hx
    rcases h.cases with ⟨_, rfl⟩ | ⟨_, _, _, _, e, _⟩
    · exact hx.symm ▸ rfl
    · cases e
  | x :: xs, us, vs, hx, h => by
    rcases h.cases with ⟨e, _⟩ | ⟨_, _, y, ys, e, rfl, h1, h2⟩
    · cases e
    · cases e
      simp only [concL] at hx
      split at hx
      · rename_i v l hv hl
        cases hx
        rw [isP_ok hv h1, concL_ok hl h2]
      · cases hx
theorem conc_ok {w : World} {S : Nat → Prop} {m : EM} {x : AV} {u v : Value} (hx : conc x = some u) (h : R w S m x v) : v = u := by
  cases x with
  | p a => simp [conc] at hx; subst hx; cases h; rfl
  | agg xs =>
    simp only [conc] at hx
    split at hx
    · rename_i l hl
      cases hx
      cases h with
      | agg m xs ys h1 h2 => rw [concL_ok hl ⟨h1, h2⟩]
    · cases hx
  | ifc t y =>
    cases y <;> simp [conc] at hx
    subst hx
    cases h with
    | ifc m t x v h => cases h; rfl
  | _ => simp [conc] at hx
theorem abs1_ok (w : World) (S : Nat → Prop) (m : EM) (v : Value) : R w S m (abs1 v) v := by
  cases v with
  | agg cs => exact .agg m _ cs.toList (by simp) (fun j h h' => by simp only [List.getElem_map]; exact .p _ _)
  | _ => exact .p _ _
theorem abs_ok (w : World) (S : Nat → Prop) (m : EM) (v : Value) : R w S m (abs v) v := by
  cases v with
  | agg cs => exact .agg m _ cs.toList (by simp) (fun j h h' => by simp only [List.getElem_map]; exact .p _ _)
  | tuple cs => exact .tup m _ cs.toList (by simp) (fun j h h' => by simp only [List.getElem_map]; exact abs1_ok _ _ _ _)
  | _ => exact .p _ _

/-! ### renaming -/
def Ren (ρ : Nat → Option Nat) (m m' : EM) : Prop := ∀ i j e, ρ i = some j → m i = some e → m' j = some e
theorem ren_leaf {w : World} {S : Nat → Prop} {ρ : Nat → Option Nat} {m m' : EM} (hr : Ren ρ m m') :
    (∀ i g k n v, R w S m (.ref i g k n) v → R w S m' (match ρ i with | some j => .ref j g k n | none => .top) v) ∧
    (∀ i g k v, R w S m (.ptr i g k) v → R w S m' (match ρ i with | some j => .ptr j g k | none => .top) v) ∧
    (∀ i g v, R w S m (.mp i g) v → R w S m' (match ρ i with | some j => .mp j g | none => .top) v) := by
  refine ⟨?_, ?_, ?_⟩
  · intro i g k n v h
    cases hj : ρ i with
    | none => exact .top _ _
    | some j =>
      cases h with
      | ref m i k n e pl c h1 h2 h3 h4 => exact .ref _ _ _ _ _ _ _ (hr i j e hj h1) h2 h3 h4
      | refNil m i e a h1 h2 => exact .refNil _ _ _ _ (hr i j e hj h1) h2
      | refOld m i g k n e a l c h1 h2 hn => exact .refOld _ _ _ _ _ _ _ _ _ (hr i j e hj h1) h2 hn
  · intro i g k v h
    cases hj : ρ i with
    | none => exact .top _ _
    | some j =>
      cases h with
      | ptr m i k e pl h1 h2 => exact .ptr _ _ _ _ _ (hr i j e hj h1) h2
      | ptrOld m i g k e a h1 h2 => exact .ptrOld _ _ _ _ _ _ (hr i j e hj h1) h2
  · intro i g v h
    cases hj : ρ i with
    | none => exact .top _ _
    | some j =>
      cases h with
      | map m i e pl h1 h2 => exact .map _ _ _ _ (hr i j e hj h1) h2
      | mapOld m i g e b h1 h2 => exact .mapOld _ _ _ _ _ (hr i j e hj h1) h2
/-- a value without a virtual block -/
def noBlk : AV → Bool
  | .ref _ _ _ _ | .ptr _ _ _ | .mp _ _ | .agg _ | .tup _ | .fn _ _ _ | .ifc _ _ => false
  | _ => true
theorem R.noBlk {w : World} {S : Nat → Prop} {m : EM} (m' : EM) {x : AV} {v : Value} (hx : Vm.noBlk x = true) (h : R w S m x v) : R w S m' x v := by
  cases h with
  | p m v => exact .p _ _
  | top m v => exact .top _ _
  | emp m a => exact .emp _ _
  | lst0 m a c => exact .lst0 _ _ _
  | lst m n xs b o c f h0 h1 h2 h3 => exact .lst _ _ _ _ _ _ f h0 h1 h2 h3
  | lit m n xs b o f h1 h2 h3 => exact .lit _ _ _ _ _ f h1 h2 h3
  | ip m xs k b o f h1 h2 h3 => exact .ip _ _ _ _ _ f h1 h2 h3
  | _ => simp [Vm.noBlk] at hx
theorem ren0_ok {w : World} {S : Nat → Prop} {ρ : Nat → Option Nat} {m m' : EM} (hr : Ren ρ m m') (x : AV) (v : Value) (h : R w S m x v) : R w S m' (ren0 ρ x) v := by
  cases x with
  | ref i g k n => exact (ren_leaf hr).1 _ _ _ _ _ h
  | ptr i g k => exact (ren_leaf hr).2.1 _ _ _ _ h
  | mp i g => exact (ren_leaf hr).2.2 _ _ _ h
  | agg _ => exact .top _ _
  | tup _ => exact .top _ _
  | fn _ _ _ => exact .top _ _
  | ifc _ _ => exact .top _ _
  | _ => exact h.noBlk m' rfl
theorem renUp_ok {w : World} {S : Nat → Prop} {ρ : Nat → Option Nat} {m m' : EM} (hr : Ren ρ m m') {r : AV → AV} (h0 : ∀ x v, R w S m x v → R w S m' (r x) v) (x : AV) (v : Value) (h : R w S m x v) :
    R w S m' (renUp r ρ x) v := by
  cases x with
  | ref i g k n => exact (ren_leaf hr).1 _ _ _ _ _ h
  | ptr i g k => exact (ren_leaf hr).2.1 _ _ _ _ h
  | mp i g => exact (ren_leaf hr).2.2 _ _ _ h
  | agg xs => cases h with
    | agg m xs ys h1 h2 => have := RL.map (r := r) ⟨h1, h2⟩ h0; exact .agg _ _ _ this.1 this.2
  | tup xs => cases h with
    | tup m xs ys h1 h2 => have := RL.map (r := r) ⟨h1, h2⟩ h0; exact .tup _ _ _ this.1 this.2
  | fn f xs us => cases h with
    | fn m f xs us ys vs h1 h2 h3 h4 =>
      have a := RL.map (r := r) ⟨h1, h2⟩ h0
      have b := RL.map (r := r) ⟨h3, h4⟩ h0
      exact .fn _ _ _ _ _ _ a.1 a.2 b.1 b.2
  | ifc t y => cases h with
    | ifc m t x v h => exact .ifc _ _ _ _ (h0 _ _ h)
  | _ => exact h.noBlk m' rfl
theorem ren_ok {w : World} {S : Nat → Prop} {ρ : Nat → Option Nat} {m m' : EM} (hr : Ren ρ m m') (x : AV) (v : Value) (h : R w S m x v) : R w S m' (ren ρ x) v :=
  renUp_ok hr (renUp_ok hr (ren0_ok hr)) x v h
end Go.Vm

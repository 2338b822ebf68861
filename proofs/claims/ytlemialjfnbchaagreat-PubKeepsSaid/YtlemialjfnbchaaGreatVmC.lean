/- Calls in the virtual memory. -/
import Derived.Test.YtlemialjfnbchaaGreatVmV

namespace Go.Vm
open Go

def own0 (hp : List Blk) (m : EM) (b : Nat) : Prop := ∃ i blk e pl, hp[i]? = some blk ∧ blk.ro = false ∧ m i = some e ∧ e.pl = some pl ∧ pl.b = b
/-- behind a call -/
def After (W0 : World) (O S0 : Nat → Prop) (m0 : EM) (hp' : List Blk) (m : EM) (S : Nat → Prop) (w : World) (r : AV) (e : Ending) (w' : World) : Prop :=
  ∃ v' m' S', e = .returned v' ∧ HS W0 O S0 m0 hp' m' S' w' ∧ Ext m m' ∧ (∀ b, S b → S' b) ∧ Keeps S w w' ∧ R w' S' m' r v'
/-- a call of a function at virtual arguments gives a virtual result -/
def FnOk (P : Program) (f : FuncId) (args : List AV) (hp : List Blk) (r : AV) (hp' : List Blk) : Prop :=
  ∀ (m : EM) (S : Nat → Prop) (w : World) (args' : List Value), HS w (own0 hp m) S m hp m S w → RL w S m args args' →
    Calls P f args'.toArray w (After w (own0 hp m) S m hp' m S w r)
def RunOk (P : Program) (run : FuncId → List AV → List Blk → Option (AV × List Blk)) : Prop := ∀ f args hp r hp', run f args hp = some (r, hp') → FnOk P f args hp r hp'

/-! ### which blocks -/
theorem memB_ok (i : Nat) : ∀ l : List Nat, memB i l = true ↔ i ∈ l
  | [] => by simp [memB]
  | j :: l => by
    simp only [memB, Bool.or_eq_true, List.mem_cons, memB_ok i l]
    constructor
    · rintro (h | h)
      · exact .inl (Nat.eq_of_beq_eq_true h)
      · exact .inr h
    · rintro (h | h)
      · exact .inl (by subst h; exact Nat.beq_refl _)
      · exact .inr h
theorem reach_ok (hp : List Blk) : ∀ (n : Nat) (todo acc : List Nat), acc.Nodup → (∀ i ∈ acc, i < hp.length) → (reach hp n todo acc).Nodup ∧ ∀ i ∈ reach hp n todo acc, i < hp.length
  | 0, todo, acc, h1, h2 => ⟨h1, h2⟩
  | n + 1, [], acc, h1, h2 => ⟨h1, h2⟩
  | n + 1, i :: todo, acc, h1, h2 => by
    unfold reach
    cases hm : memB i acc with
    | true => rw [cond_true]; exact reach_ok hp n todo acc h1 h2
    | false =>
      rw [cond_false]
      have hn : i ∉ acc := fun h => by rw [(memB_ok i acc).2 h] at hm; cases hm
      split
      · rename_i b hb
        refine reach_ok hp n _ _ ?_ ?_
        · rw [List.nodup_append]
          exact ⟨h1, by simp, fun x hx y hy e => by simp at hy; subst hy; subst e; exact hn hx⟩
        · intro j hj
          rcases List.mem_append.1 hj with hj | hj
          · exact h2 j hj
          · simp at hj; subst hj; exact (List.getElem?_eq_some_iff.1 hb).1
      · exact reach_ok hp n todo acc h1 h2
theorem isSome_get {α : Type} (l : List α) (i : Nat) : (l[i]?).isSome = true ↔ i < l.length := by
  rw [Option.isSome_iff_exists]
  constructor
  · rintro ⟨x, hx⟩; exact (List.getElem?_eq_some_iff.1 hx).1
  · intro h; exact ⟨_, List.getElem?_eq_getElem h⟩
theorem posOf_some : ∀ {l : List Nat} {i j : Nat}, posOf l i = some j → l[j]? = some i
  | [], i, j, h => by simp [posOf] at h
  | a :: l, i, j, h => by
    unfold posOf at h
    cases hb : Nat.beq i a with
    | true =>
      rw [hb, cond_true] at h
      cases h
      rw [Nat.eq_of_beq_eq_true hb]; rfl
    | false =>
      rw [hb, cond_false] at h
      split at h
      · rename_i k hk; cases h; rw [List.getElem?_cons_succ]; exact posOf_some hk
      · cases h
theorem posOf_none : ∀ {l : List Nat} {i : Nat}, posOf l i = none → i ∉ l
  | [], i, h => by simp
  | a :: l, i, h => by
    unfold posOf at h
    cases hb : Nat.beq i a with
    | true => rw [hb, cond_true] at h; cases h
    | false =>
      rw [hb, cond_false] at h
      split at h
      · cases h
      · rename_i hk
        intro hm
        rcases List.mem_cons.1 hm with e | e
        · subst e; rw [Nat.beq_refl] at hb; cases hb
        · exact posOf_none hk e
theorem posOf_get {l : List Nat} (hn : l.Nodup) {i j : Nat} (h : l[j]? = some i) : posOf l i = some j := by
  cases hp : posOf l i with
  | none => exact absurd (List.mem_of_getElem? h) (posOf_none hp)
  | some k =>
    have := posOf_some hp
    congr 1
    obtain ⟨h1, h2⟩ := List.getElem?_eq_some_iff.1 h
    obtain ⟨h3, h4⟩ := List.getElem?_eq_some_iff.1 this
    exact (List.getElem_inj hn).1 (h4.trans h2.symm)
theorem pickB_ok {hp : List Blk} {ρ : Nat → Option Nat} : ∀ {js : List Nat} {sub : List Blk}, pickB hp ρ js = some sub → sub.length = js.length ∧ ∀ (j i : Nat), js[j]? = some i → ∃ b, hp[i]? = some b ∧ sub[j]? = some (renB ρ b)
  | [], sub, h => by simp [pickB] at h; subst h; exact ⟨rfl, fun j i h => by simp at h⟩
  | i :: js, sub, h => by
    unfold pickB at h
    split at h
    · rename_i b l hb hl
      cases h
      obtain ⟨h1, h2⟩ := pickB_ok hl
      refine ⟨by simp [h1], fun j k hj => ?_⟩
      cases j with
      | zero => simp at hj; subst hj; exact ⟨b, hb, rfl⟩
      | succ j => exact h2 j k (by simpa using hj)
    · cases h
theorem backB_len (hp : List Blk) (ρ : Nat → Option Nat) : ∀ (js : List Nat) (bs : List Blk), (backB hp ρ js bs).length = hp.length
  | [], bs => rfl
  | i :: js, [] => rfl
  | i :: js, b :: bs => by unfold backB; rw [List.length_set, backB_len]
theorem backB_get (hp : List Blk) (ρ : Nat → Option Nat) : ∀ (js : List Nat) (bs : List Blk), js.Nodup → (∀ i ∈ js, i < hp.length) → js.length ≤ bs.length →
    ∀ i, (backB hp ρ js bs)[i]? = match posOf js i with | some j => (bs[j]?).map (renB ρ) | none => hp[i]?
  | [], bs, hn, hi, hl, i => rfl
  | k :: js, [], hn, hi, hl, i => by simp at hl
  | k :: js, b :: bs, hn, hi, hl, i => by
    rw [List.nodup_cons] at hn
    have ih := backB_get hp ρ js bs hn.2 (fun i h => hi i (by simp [h])) (by simpa using hl) i
    unfold backB posOf
    cases hb : Nat.beq i k with
    | true =>
      have := Nat.eq_of_beq_eq_true hb
      subst this
      rw [cond_true, List.getElem?_set_self (by rw [backB_len]; exact hi i (by simp))]
      rfl
    | false =>
      have hne : k ≠ i := fun e => by subst e; rw [Nat.beq_refl] at hb; cases hb
      rw [cond_false, List.getElem?_set_ne hne, ih]
      cases hp : posOf js i <;> rfl

theorem renB_row (ρ : Nat → Option Nat) (b : Blk) : (renB ρ b).row = b.row ∧ (renB ρ b).ro = b.ro ∧ (renB ρ b).gen = b.gen ∧ (renB ρ b).esz = b.esz ∧ (renB ρ b).cells.length = b.cells.length ∧ (b.cells = [] → (renB ρ b).cells = []) := by
  unfold renB
  cases hr : b.row <;> simp [hr]
theorem BlkR.ren {w : World} {S : Nat → Prop} {m m' : EM} {b : Blk} {pl : Place} {ρ : Nat → Option Nat} (h : BlkR w S m b pl) (hr : Ren ρ m m') : BlkR w S m' (renB ρ b) pl := by
  obtain ⟨h1, h2, h3, h4, cs, h5, h6⟩ := h
  obtain ⟨q1, q2, q3, q4, q5, _⟩ := renB_row ρ b
  refine ⟨h1.trans q4.symm, h2, by rw [q5, q4]; exact h3, h4, cs, h5, ?_⟩
  rw [q1]
  unfold renB
  cases hrow : b.row with
  | true => rw [hrow] at h6; simpa [hrow] using h6
  | false =>
    rw [hrow, cond_false] at h6
    simp only [cond_false]
    exact h6.map (fun x y hxy => ren_ok hr x y hxy)

theorem renB_keys (ρ : Nat → Option Nat) (b : Blk) : (renB ρ b).keys = b.keys := by
  unfold renB
  cases hr : b.row <;> simp
theorem MapR.ren {w : World} {S : Nat → Prop} {m m' : EM} {b : Blk} {ks : List Value} {pl : Place} {ρ : Nat → Option Nat} (h : MapR w S m b ks pl) (hr : Ren ρ m m') : MapR w S m' (renB ρ b) ks pl := by
  obtain ⟨h1, es, c, h2, h3, h4, h5⟩ := h
  refine ⟨h1, es, c, h2, h3, ?_, h5⟩
  rw [(renB_row ρ b).1]
  unfold renB
  cases hrow : b.row with
  | true => rw [hrow] at h4; simpa [hrow] using h4
  | false =>
    rw [hrow, cond_false] at h4
    simp only [cond_false]
    exact h4.map (fun x y hxy => ren_ok hr x y hxy)
theorem BlkX.ren {w : World} {S : Nat → Prop} {m m' : EM} {b : Blk} {pl : Place} {ρ : Nat → Option Nat} (h : BlkX w S m b pl) (hr : Ren ρ m m') : BlkX w S m' (renB ρ b) pl :=
  ⟨h.lt, fun hk => (h.row (by rw [renB_keys] at hk; exact hk)).ren hr, fun ks hk => (h.map ks (by rw [renB_keys] at hk; exact hk)).ren hr⟩

section
variable {P : Program} {W0 : World} {O S0 : Nat → Prop} {m0 : EM} {hp hp' : List Blk} {m : EM} {S : Nat → Prop} {w : World}

/-- the part of the memory that a call comes to -/
theorem HS.sub (h : HS W0 O S0 m0 hp m S w) {js : List Nat} (hn : js.Nodup) (hi : ∀ i ∈ js, i < hp.length) {sub : List Blk} (hs : pickB hp (posOf js) js = some sub) :
    let ms : EM := fun j => match js[j]? with | some i => m i | none => none
    HS w (own0 sub ms) S ms sub ms S w ∧ Ren (posOf js) m ms ∧ (∀ b, own0 sub ms b → ∃ i blk e pl, i ∈ js ∧ hp[i]? = some blk ∧ blk.ro = false ∧ m i = some e ∧ e.pl = some pl ∧ pl.b = b) := by
  intro ms
  obtain ⟨hl, hg⟩ := pickB_ok hs
  have hren : Ren (posOf js) m ms := by
    intro i j e h1 h2
    show (match js[j]? with | some i => m i | none => none) = some e
    rw [posOf_some h1]; exact h2
  have hms : ∀ j e, ms j = some e → ∃ i, js[j]? = some i ∧ m i = some e := by
    intro j e he
    cases hj : js[j]? with
    | none => simp only [ms, hj] at he; cases he
    | some i => simp only [ms, hj] at he; exact ⟨i, rfl, he⟩
  have hown : ∀ b, own0 sub ms b → ∃ i blk e pl, i ∈ js ∧ hp[i]? = some blk ∧ blk.ro = false ∧ m i = some e ∧ e.pl = some pl ∧ pl.b = b := by
    rintro b ⟨j, blk, e, pl, h1, h2, h3, h4, h5⟩
    obtain ⟨i, hji, hme⟩ := hms j e h3
    obtain ⟨b0, hb0, hsb⟩ := hg j i hji
    rw [hsb] at h1; cases h1
    exact ⟨i, b0, e, pl, List.mem_of_getElem? hji, hb0, by rw [← (renB_row _ b0).2.1]; exact h2, hme, h4, h5⟩
  refine ⟨⟨?_, ?_, ?_, h.sok, ?_, ?_, rfl, rfl, rfl, Nat.le_refl _, fun _ _ _ => rfl, fun b hb => .inl hb, fun _ hb => hb⟩, hren, hown⟩
  · intro j
    rw [hl]
    constructor
    · intro hj
      have hji := List.getElem?_eq_getElem hj
      show (match js[j]? with | some i => m i | none => none).isSome = true
      rw [hji]
      exact (h.dom _).1 (hi _ (List.getElem_mem hj))
    · intro hj
      obtain ⟨e, he⟩ := Option.isSome_iff_exists.1 hj
      obtain ⟨i, hji, _⟩ := hms j e he
      exact (List.getElem?_eq_some_iff.1 hji).1
  · intro j b e hb he
    obtain ⟨i, hji, hme⟩ := hms j e he
    obtain ⟨b0, hb0, hsb⟩ := hg j i hji
    rw [hsb] at hb; cases hb
    obtain ⟨k1, k2, k3⟩ := h.blk i b0 e hb0 hme
    obtain ⟨q1, q2, q3, q4, q5, q6⟩ := renB_row (posOf js) b0
    exact ⟨k1.trans q3.symm, fun hn => q6 (k2 hn), fun pl hpl => (k3 pl hpl).ren hren⟩
  · intro i j e e' p q h1 h2 h3 h4 h5
    obtain ⟨i1, hi1, hm1⟩ := hms i e h1
    obtain ⟨j1, hj1, hm2⟩ := hms j e' h2
    have := h.inj i1 j1 e e' p q hm1 hm2 h3 h4 h5
    subst this
    have a1 := posOf_get hn hi1
    have a2 := posOf_get hn hj1
    rw [a1] at a2; cases a2; rfl
  · intro j b e pl hb he hpl
    obtain ⟨i, hji, hme⟩ := hms j e he
    obtain ⟨b0, hb0, hsb⟩ := hg j i hji
    have hb' := hb
    rw [hsb] at hb; cases hb
    obtain ⟨k1, k2⟩ := h.ro i b0 e pl hb0 hme hpl
    have q2 := (renB_row (posOf js) b0).2.1
    rw [q2]
    exact ⟨k1, fun hf => ⟨(k2 hf).1, .inl ⟨j, _, e, pl, hb', by rw [q2]; exact hf, he, hpl, rfl⟩⟩⟩
  · intro j e pl he hpl
    exact .inr ⟨j, e, pl, he, hpl, rfl⟩

/-- what the caller knows of blocks behind a call -/
def backM (m m2 : EM) (js : List Nat) (L : Nat) : EM := fun i =>
  match posOf js i with
  | some j => m2 j
  | none => if i < L then m i else m2 (i - L + js.length)

theorem HS.back (h : HS W0 O S0 m0 hp m S w) {js : List Nat} (hn : js.Nodup) (hi : ∀ i ∈ js, i < hp.length) {sub : List Blk} {ms : EM} (hms : ms = fun j => match js[j]? with | some i => m i | none => none) (_hsub : sub.length = js.length)
    (hown : ∀ b, own0 sub ms b → ∃ i blk e pl, i ∈ js ∧ hp[i]? = some blk ∧ blk.ro = false ∧ m i = some e ∧ e.pl = some pl ∧ pl.b = b)
    {hp2 : List Blk} {m2 : EM} {S2 : Nat → Prop} {w' : World} (h2 : HS w (own0 sub ms) S ms hp2 m2 S2 w') (hext : Ext ms m2) :
    HS W0 O S0 m0 (backB hp (backMap js hp.length) js hp2 ++ (hp2.drop js.length).map (renB (backMap js hp.length))) (backM m m2 js hp.length) S2 w' ∧ Ext m (backM m m2 js hp.length) ∧ Keeps S w w' ∧ Ren (backMap js hp.length) m2 (backM m m2 js hp.length) := by
  have hmsj : ∀ j i, js[j]? = some i → ms j = m i := by intro j i hj; rw [hms]; simp only [hj]
  have hlen2 : js.length ≤ hp2.length := by
    rcases Nat.lt_or_ge hp2.length js.length with hlt | hge
    · exfalso
      have hj := List.getElem?_eq_getElem hlt
      have hlt2 := hi _ (List.getElem_mem hlt)
      obtain ⟨e, he⟩ := Option.isSome_iff_exists.1 ((h.dom _).1 hlt2)
      obtain ⟨e', he', _⟩ := hext hp2.length e (by rw [hmsj _ _ hj]; exact he)
      have := (h2.dom hp2.length).2 (by rw [he']; rfl)
      omega
    · exact hge
  -- where each block comes from
  have hget : ∀ i, (backB hp (backMap js hp.length) js hp2 ++ (hp2.drop js.length).map (renB (backMap js hp.length)))[i]? =
      match posOf js i with | some j => (hp2[j]?).map (renB (backMap js hp.length)) | none => if i < hp.length then hp[i]? else (hp2[i - hp.length + js.length]?).map (renB (backMap js hp.length)) := by
    intro i
    by_cases hlt : i < hp.length
    · rw [List.getElem?_append_left (by rw [backB_len]; exact hlt), backB_get hp _ js hp2 hn hi hlen2 i]
      cases posOf js i with
      | none => simp [hlt]
      | some j => rfl
    · rw [List.getElem?_append_right (by rw [backB_len]; omega), backB_len, List.getElem?_map, List.getElem?_drop]
      cases hp1 : posOf js i with
      | none => simp only; rw [if_neg hlt]; congr 2; omega
      | some j => exact absurd (hi i (List.mem_of_getElem? (posOf_some hp1))) hlt
  -- a block of ours is one of the callee's, or one that it did not see
  have hcase : ∀ i e, backM m m2 js hp.length i = some e → (∃ j, m2 j = some e ∧ (backB hp (backMap js hp.length) js hp2 ++ (hp2.drop js.length).map (renB (backMap js hp.length)))[i]? = (hp2[j]?).map (renB (backMap js hp.length)) ∧ ((posOf js i = some j) ∨ (posOf js i = none ∧ hp.length ≤ i ∧ j = i - hp.length + js.length))) ∨
      (i ∉ js ∧ i < hp.length ∧ m i = some e ∧ (backB hp (backMap js hp.length) js hp2 ++ (hp2.drop js.length).map (renB (backMap js hp.length)))[i]? = hp[i]?) := by
    intro i e he
    unfold backM at he
    rw [hget]
    cases hp1 : posOf js i with
    | some j => rw [hp1] at he; exact .inl ⟨j, he, rfl, .inl rfl⟩
    | none =>
      rw [hp1] at he
      simp only at he ⊢
      by_cases hlt : i < hp.length
      · rw [if_pos hlt] at he ⊢
        exact .inr ⟨posOf_none hp1, hlt, he, by first | rfl | trivial⟩
      · rw [if_neg hlt] at he ⊢
        exact .inl ⟨_, he, rfl, .inr ⟨by first | rfl | trivial, by omega, rfl⟩⟩
  have hren : Ren (backMap js hp.length) m2 (backM m m2 js hp.length) := by
    intro j i e hj he
    unfold backMap at hj
    split at hj
    · rename_i i' hji
      cases hj
      unfold backM
      rw [posOf_get hn hji]
      exact he
    · rename_i hji
      cases hj
      have hge : js.length ≤ j := by simpa using hji
      unfold backM
      cases hp1 : posOf js (hp.length + (j - js.length)) with
      | some k => exact absurd (hi _ (List.mem_of_getElem? (posOf_some hp1))) (by omega)
      | none =>
        simp only
        rw [if_neg (by omega)]
        have : hp.length + (j - js.length) - hp.length + js.length = j := by omega
        rw [this]; exact he
  have hkeep : Keeps S w w' := by
    intro b hb
    refine h2.frame b (h.sok b hb) (fun ho => ?_)
    obtain ⟨i, blk, e, pl, _, g1, g2, g3, g4, g5⟩ := hown b ho
    exact ((h.ro i blk e pl g1 g3 g4).2 g2).1 (g5 ▸ hb)
  have hext' : Ext m (backM m m2 js hp.length) := by
    intro i e he
    have hlt := (h.dom i).2 (by rw [he]; rfl)
    unfold backM
    cases hp1 : posOf js i with
    | some j => exact hext j e (by rw [hmsj j i (posOf_some hp1)]; exact he)
    | none => simp only; rw [if_pos hlt]; exact ⟨e, he, .inl rfl⟩
  have hother : ∀ i e pl, i ∉ js → m i = some e → e.pl = some pl → ¬ own0 sub ms pl.b := by
    intro i e pl hni he hpl ho
    obtain ⟨i', blk, e', pl', g0, g1, g2, g3, g4, g5⟩ := hown _ ho
    have := h.inj i' i e' e pl' pl g3 he g4 hpl g5
    subst this
    exact hni g0
  have hlt : ∀ i e pl, m i = some e → e.pl = some pl → pl.b < w.heap.size := by
    intro i e pl he hpl
    obtain ⟨b, hb⟩ := h.has he
    exact ((h.blk i b e hb he).2.2 pl hpl).lt
  have hOw : ∀ b, own0 sub ms b → O b ∨ W0.heap.size ≤ b := by
    intro b ho
    obtain ⟨i', blk, e', pl', g0, g1, g2, g3, g4, g5⟩ := hown _ ho
    rw [← g5]
    exact ((h.ro i' blk e' pl' g1 g3 g4).2 g2).2
  -- a block of the callee's is none that it did not see
  have hsep : ∀ j e pl i e' q, m2 j = some e → e.pl = some pl → i ∉ js → m i = some e' → e'.pl = some q → pl.b ≠ q.b := by
    intro j e pl i e' q h3 h4 h5 h6 h7 heq
    rcases h2.org j e pl h3 h4 with k | ⟨j', e2, pl2, k1, k2, k3⟩
    · have := hlt i e' q h6 h7; omega
    · have : ∃ i', js[j']? = some i' ∧ m i' = some e2 := by
        cases hj : js[j']? with
        | none => rw [hms] at k1; simp only [hj] at k1; cases k1
        | some i' => exact ⟨i', rfl, by rw [← hmsj j' i' hj]; exact k1⟩
      obtain ⟨i', hj, hm⟩ := this
      have := h.inj i' i e2 e' pl2 q hm h6 k2 h7 (k3.trans heq)
      subst this
      exact h5 (List.mem_of_getElem? hj)
  refine ⟨⟨?_, ?_, ?_, h2.sok, ?_, ?_, h2.os.trans h.os, h2.tape.trans h.tape, h2.out.trans h.out, Nat.le_trans h.size h2.size, ?_, ?_, ?_⟩, hext', hkeep, hren⟩
  · intro i
    have : i < (backB hp (backMap js hp.length) js hp2 ++ (hp2.drop js.length).map (renB (backMap js hp.length))).length ↔ ((backB hp (backMap js hp.length) js hp2 ++ (hp2.drop js.length).map (renB (backMap js hp.length)))[i]?).isSome = true := by
      rw [isSome_get]
    rw [this, hget]
    unfold backM
    cases hp1 : posOf js i with
    | some j => simp only [Option.isSome_map]; rw [← h2.dom j, isSome_get]
    | none =>
      simp only
      by_cases hl : i < hp.length
      · rw [if_pos hl, if_pos hl, ← h.dom i, isSome_get]
      · rw [if_neg hl, if_neg hl, Option.isSome_map, ← h2.dom, isSome_get]
  · intro i b e hb he
    rcases hcase i e he with ⟨j, hj, hg, _⟩ | ⟨hni, hl, hm, hg⟩
    · rw [hg] at hb
      cases hbj : hp2[j]? with
      | none => rw [hbj] at hb; cases hb
      | some b2 =>
        rw [hbj] at hb
        cases hb
        obtain ⟨k1, k2, k3⟩ := h2.blk j b2 e hbj hj
        obtain ⟨q1, q2, q3, q4, q5, q6⟩ := renB_row (backMap js hp.length) b2
        exact ⟨k1.trans q3.symm, fun hn => q6 (k2 hn), fun pl hpl => (k3 pl hpl).ren hren⟩
    · rw [hg] at hb
      obtain ⟨k1, k2, k3⟩ := h.blk i b e hb hm
      exact ⟨k1, k2, fun pl hpl => (k3 pl hpl).mono (h2.frame _ (k3 pl hpl).lt (hother i e pl hni hm hpl)) h2.size hkeep h2.smono hext'⟩
  · intro i j e e' p q h3 h4 h5 h6 h7
    rcases hcase i e h3 with ⟨ji, hji, _, hpi⟩ | ⟨hni, hl, hm, _⟩ <;> rcases hcase j e' h4 with ⟨jj, hjj, _, hpj⟩ | ⟨hnj, hl', hm', _⟩
    · have := h2.inj ji jj e e' p q hji hjj h5 h6 h7
      subst this
      rcases hpi with hpi | ⟨hpi, hpi1, hpi2⟩ <;> rcases hpj with hpj | ⟨hpj, hpj1, hpj2⟩
      · have a := posOf_some hpi
        have b := posOf_some hpj
        rw [a] at b; cases b; rfl
      · have := (List.getElem?_eq_some_iff.1 (posOf_some hpi)).1; omega
      · have := (List.getElem?_eq_some_iff.1 (posOf_some hpj)).1; omega
      · omega
    · exact absurd h7 (hsep ji e p j e' q hji h5 hnj hm' h6)
    · exact absurd h7.symm (hsep jj e' q i e p hjj h6 hni hm h5)
    · exact h.inj i j e e' p q hm hm' h5 h6 h7
  · intro i b e pl hb he hpl
    rcases hcase i e he with ⟨j, hj, hg, _⟩ | ⟨hni, hl, hm, hg⟩
    · rw [hg] at hb
      cases hbj : hp2[j]? with
      | none => rw [hbj] at hb; cases hb
      | some b2 =>
        rw [hbj] at hb
        cases hb
        rw [(renB_row (backMap js hp.length) b2).2.1]
        obtain ⟨k1, k2⟩ := h2.ro j b2 e pl hbj hj hpl
        refine ⟨k1, fun hf => ⟨(k2 hf).1, ?_⟩⟩
        rcases (k2 hf).2 with q | q
        · exact hOw _ q
        · exact .inr (Nat.le_trans h.size q)
    · rw [hg] at hb
      obtain ⟨k1, k2⟩ := h.ro i b e pl hb hm hpl
      refine ⟨fun hf => h2.smono _ (k1 hf), fun hf => ⟨fun hs => ?_, (k2 hf).2⟩⟩
      rcases h2.snew _ hs with q | q | q
      · exact (k2 hf).1 q
      · exact hother i e pl hni hm hpl q
      · have := hlt i e pl hm hpl; omega
  · intro i e pl he hpl
    rcases hcase i e he with ⟨j, hj, _, _⟩ | ⟨hni, hl, hm, _⟩
    · rcases h2.org j e pl hj hpl with k | ⟨j', e2, pl2, k1, k2, k3⟩
      · exact .inl (Nat.le_trans h.size k)
      · cases hj' : js[j']? with
        | none => rw [hms] at k1; simp only [hj'] at k1; cases k1
        | some i' =>
          rw [hmsj j' i' hj'] at k1
          rw [← k3]
          exact h.org i' e2 pl2 k1 k2
    · exact h.org i e pl hm hpl
  · intro b hb ho
    rw [← h.frame b hb ho]
    refine h2.frame b (Nat.lt_of_lt_of_le hb h.size) (fun ho' => ?_)
    rcases hOw b ho' with k | k
    · exact ho k
    · omega
  · intro b hb
    rcases h2.snew b hb with k | k | k
    · exact h.snew b k
    · exact .inr (hOw b k)
    · exact .inr (.inr (Nat.le_trans h.size k))
  · intro b hb
    exact h2.smono b (h.smono b hb)

theorem RL.arr {w : World} {S : Nat → Prop} {m : EM} {xs : List AV} {us : List Value} (_h : RL w S m xs us) : us.toArray.toList = us := rfl

/-- THE CALL -/
theorem callV_ok {run : FuncId → List AV → List Blk → Option (AV × List Blk)} {M : Mode} {f : FuncId} {args : List AV} {args' : List Value} {r : AV} (hrun : RunOk P run) (h : HS W0 O S0 m0 hp m S w) (ha : RL w S m args args')
    (hc : callV run M f args hp = some (r, hp')) : Calls P f args'.toArray w (After W0 O S0 m0 hp' m S w r) := by
  unfold callV at hc
  split at hc
  · cases hc
  · rename_i args1 hp1 hfz
    have hf : ∃ S1, HS W0 O S0 m0 hp1 m S1 w ∧ (∀ c, S c → S1 c) ∧ RL w S1 m args1 args' := by
      cases hb : M.byref f with
      | true => rw [hb] at hfz; cases hfz; exact ⟨S, h, fun _ h => h, ha⟩
      | false => rw [hb] at hfz; exact frzAll_ok _ h hfz ha
    obtain ⟨S1, h1, hs1, ha1⟩ := hf
    simp only at hc
    split at hc
    · cases hc
    · rename_i sub hsub
      split at hc
      · rename_i r2 hp2 hr
        cases hc
        obtain ⟨hn, hi⟩ := reach_ok hp1 1000 (args1.flatMap ids) [] (by simp) (by simp)
        generalize hjs : reach hp1 1000 (args1.flatMap ids) [] = js at *
        obtain ⟨g1, g2, g3⟩ := h1.sub hn hi hsub
        obtain ⟨hl, _⟩ := pickB_ok hsub
        refine (hrun f _ sub r2 hp2 hr _ S1 w args' g1 (ha1.map (fun x v hx => ren_ok g2 x v hx))).mono ?_
        rintro e w' ⟨v', m2, S2, rfl, k1, k2, k3, k4, k5⟩
        obtain ⟨q1, q2, q3, q4⟩ := h1.back hn hi rfl hl g3 k1 k2
        exact ⟨v', _, S2, rfl, q1, q2, fun b hb => k3 b (hs1 b hb), fun b hb => q3 b (hs1 b hb), ren_ok q4 r2 v' k5⟩
      · cases hc
end
end Go.Vm

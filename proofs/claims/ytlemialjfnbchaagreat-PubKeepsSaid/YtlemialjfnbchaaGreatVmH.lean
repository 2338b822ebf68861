/- The state of the virtual memory against a world. -/
import Derived.Test.YtlemialjfnbchaaGreatVmR
import Derived.Deep.MidRow
import Derived.Deep.AppendSrc
import Derived.Deep.Upon
import Derived.MapKept

namespace Go.Vm
open Go

structure BlkR (w : World) (S : Nat → Prop) (m : EM) (blk : Blk) (pl : Place) : Prop where
  esz : pl.e = blk.esz
  lt : pl.b < w.heap.size
  fit : pl.o + blk.cells.length ≤ pl.s ∧ (blk.esz = 0 → pl.o = 0)
  room : w.there pl.b 0 pl.s
  cells : ∃ cs, w.rangeAt pl.b pl.o cs ∧ RL w S (cond blk.row noEM m) blk.cells cs

def putO (w : World) (r : Nat) (o : Obj) : World := { w with heap := w.heap.setIfInBounds r o }
structure MapR (w : World) (S : Nat → Prop) (m : EM) (blk : Blk) (ks : List Value) (pl : Place) : Prop where
  row : True
  obj : ∃ es clock, w.heap[pl.b]? = some (.map es clock) ∧ es.toList.map (·.key) = ks ∧ RL w S (cond blk.row noEM m) blk.cells (es.toList.map (·.val)) ∧ MapKept.Stamped es clock
structure BlkX (w : World) (S : Nat → Prop) (m : EM) (blk : Blk) (pl : Place) : Prop where
  lt : pl.b < w.heap.size
  row : blk.keys = none → BlkR w S m blk pl
  map : ∀ ks, blk.keys = some ks → MapR w S m blk ks pl
theorem BlkR.x {w : World} {S : Nat → Prop} {m : EM} {blk : Blk} {pl : Place} (h : BlkR w S m blk pl) (hk : blk.keys = none) : BlkX w S m blk pl :=
  ⟨h.lt, fun _ => h, fun ks e => by rw [hk] at e; cases e⟩
theorem noKeys_ok {b : Blk} (h : noKeys b = true) : b.keys = none := by
  unfold noKeys at h
  split at h
  · assumption
  · cases h

structure HS (W0 : World) (O S0 : Nat → Prop) (m0 : EM) (hp : List Blk) (m : EM) (S : Nat → Prop) (w : World) : Prop where
  dom : ∀ i, i < hp.length ↔ (m i).isSome = true
  blk : ∀ i b e, hp[i]? = some b → m i = some e → e.gen = b.gen ∧ (e.pl = none → b.cells = []) ∧ ∀ pl, e.pl = some pl → BlkX w S m b pl
  inj : ∀ i j e e' p q, m i = some e → m j = some e' → e.pl = some p → e'.pl = some q → p.b = q.b → i = j
  sok : ∀ b, S b → b < w.heap.size
  ro : ∀ i b e pl, hp[i]? = some b → m i = some e → e.pl = some pl → (b.ro = true → S pl.b) ∧ (b.ro = false → ¬ S pl.b ∧ (O pl.b ∨ W0.heap.size ≤ pl.b))
  org : ∀ i e pl, m i = some e → e.pl = some pl → W0.heap.size ≤ pl.b ∨ ∃ i' e' pl', m0 i' = some e' ∧ e'.pl = some pl' ∧ pl'.b = pl.b
  os : w.os = W0.os
  tape : w.tape = W0.tape
  out : w.output = W0.output
  size : W0.heap.size ≤ w.heap.size
  frame : ∀ b, b < W0.heap.size → ¬ O b → w.heap[b]? = W0.heap[b]?
  snew : ∀ b, S b → S0 b ∨ O b ∨ W0.heap.size ≤ b
  smono : ∀ b, S0 b → S b

def updM (m : EM) (i : Nat) (e : Emb) : EM := fun j => if j = i then some e else m j
theorem updM_same (m : EM) (i : Nat) (e : Emb) : updM m i e i = some e := by simp [updM]
theorem updM_ne (m : EM) (e : Emb) {i j : Nat} (h : j ≠ i) : updM m i e j = m j := by simp [updM, h]
theorem Ext.upd {m : EM} {i : Nat} {e' : Emb} (h : ∀ e, m i = some e → e' = e ∨ e.gen < e'.gen) : Ext m (updM m i e') := by
  intro j e hj
  by_cases hji : j = i
  · subst hji; exact ⟨e', updM_same _ _ _, h e hj⟩
  · exact ⟨e, by rw [updM_ne _ _ hji]; exact hj, .inl rfl⟩

theorem cell_of_heap {w w' : World} {b o : Nat} (h : w'.heap[b]? = w.heap[b]?) : w'.cell? ⟨b, o, none⟩ = w.cell? ⟨b, o, none⟩ := by simp only [World.cell?, h]
theorem frozen_of_heap {w w' : World} {b o : Nat} (h : w'.heap[b]? = w.heap[b]?) : w'.frozen? ⟨b, o, none⟩ = w.frozen? ⟨b, o, none⟩ := by simp only [World.frozen?, h]
theorem rangeAt_of_heap {w w' : World} {b o : Nat} {cs : List Value} (h : w'.heap[b]? = w.heap[b]?) (k : w.rangeAt b o cs) : w'.rangeAt b o cs :=
  fun j v hv => (cell_of_heap h).trans (k j v hv)
theorem there_of_heap {w w' : World} {b o n : Nat} (h : w'.heap[b]? = w.heap[b]?) (k : w.there b o n) : w'.there b o n :=
  fun j hj => ⟨by rw [cell_of_heap h]; exact (k j hj).1, by rw [frozen_of_heap h]; exact (k j hj).2⟩
theorem Ext.cond {m m' : EM} (h : Ext m m') (b : Bool) : Ext (cond b noEM m) (cond b noEM m') := by cases b; exact h; exact Ext.refl _
theorem BlkR.mono {w w' : World} {S S' : Nat → Prop} {m m' : EM} {blk : Blk} {pl : Place} (h : BlkR w S m blk pl) (hb : w'.heap[pl.b]? = w.heap[pl.b]?) (hz : w.heap.size ≤ w'.heap.size)
    (hk : Keeps S w w') (hs : ∀ b, S b → S' b) (hm : Ext m m') : BlkR w' S' m' blk pl := by
  obtain ⟨h1, h2, h3, h4, cs, h5, h6⟩ := h
  exact ⟨h1, Nat.lt_of_lt_of_le h2 hz, h3, there_of_heap hb h4, cs, rangeAt_of_heap hb h5, h6.mono hk hs (hm.cond _)⟩
theorem MapR.mono {w w' : World} {S S' : Nat → Prop} {m m' : EM} {blk : Blk} {ks : List Value} {pl : Place} (h : MapR w S m blk ks pl) (hb : w'.heap[pl.b]? = w.heap[pl.b]?)
    (hk : Keeps S w w') (hs : ∀ b, S b → S' b) (hm : Ext m m') : MapR w' S' m' blk ks pl := by
  obtain ⟨h1, es, c, h2, h3, h4, h5⟩ := h
  exact ⟨h1, es, c, by rw [hb]; exact h2, h3, h4.mono hk hs (hm.cond _), h5⟩
theorem BlkX.mono {w w' : World} {S S' : Nat → Prop} {m m' : EM} {blk : Blk} {pl : Place} (h : BlkX w S m blk pl) (hb : w'.heap[pl.b]? = w.heap[pl.b]?) (hz : w.heap.size ≤ w'.heap.size)
    (hk : Keeps S w w') (hs : ∀ b, S b → S' b) (hm : Ext m m') : BlkX w' S' m' blk pl :=
  ⟨Nat.lt_of_lt_of_le h.lt hz, fun e => (h.row e).mono hb hz hk hs hm, fun ks e => (h.map ks e).mono hb hk hs hm⟩

section
variable {W0 : World} {O S0 : Nat → Prop} {m0 : EM} {hp hp' : List Blk} {m : EM} {S : Nat → Prop} {w w' : World}

theorem HS.att (h : HS W0 O S0 m0 hp m S w) {i : Nat} {b : Blk} (hi : hp[i]? = some b) : ∃ e, m i = some e ∧ e.gen = b.gen ∧ (e.pl = none → b.cells = []) ∧ ∀ pl, e.pl = some pl → BlkX w S m b pl := by
  have hlt : i < hp.length := (List.getElem?_eq_some_iff.1 hi).1
  obtain ⟨e, he⟩ := Option.isSome_iff_exists.1 ((h.dom i).1 hlt)
  exact ⟨e, he, h.blk i b e hi he⟩
theorem HS.has (h : HS W0 O S0 m0 hp m S w) {i : Nat} {e : Emb} (hi : m i = some e) : ∃ b, hp[i]? = some b := by
  have := (h.dom i).2 (by simp [hi])
  exact ⟨hp[i], List.getElem?_eq_getElem this⟩

/-- a world of the same memory -/
theorem HS.same (h : HS W0 O S0 m0 hp m S w) (hh : w'.heap = w.heap) (h1 : w'.os = w.os) (h2 : w'.tape = w.tape) (h3 : w'.output = w.output) : HS W0 O S0 m0 hp m S w' where
  dom := h.dom
  blk i b e hb he := ⟨(h.blk i b e hb he).1, (h.blk i b e hb he).2.1, fun pl hpl => ((h.blk i b e hb he).2.2 pl hpl).mono (by rw [hh]) (by rw [hh]; exact Nat.le_refl _) (fun b _ => by rw [hh]) (fun _ h => h) (Ext.refl _)⟩
  inj := h.inj
  sok b hb := by rw [hh]; exact h.sok b hb
  ro := h.ro
  org := h.org
  os := h1.trans h.os
  tape := h2.trans h.tape
  out := h3.trans h.out
  size := by rw [hh]; exact h.size
  frame b hb ho := by rw [hh]; exact h.frame b hb ho
  snew := h.snew
  smono := h.smono
theorem HS.drew (h : HS W0 O S0 m0 hp m S w) : HS W0 O S0 m0 hp m S w.drew := h.same rfl rfl rfl rfl

/-- one block is made, or turned -/
theorem HS.upd (h : HS W0 O S0 m0 hp m S w) (i : Nat) (hi : i ≤ hp.length) (blk' : Blk) (e' : Emb) (hh : ∀ j, hp'[j]? = if j = i then some blk' else hp[j]?) (B : Option Nat)
    (hB : ∀ b, B = some b → ∃ bk e pl, hp[i]? = some bk ∧ bk.ro = false ∧ m i = some e ∧ e.pl = some pl ∧ pl.b = b)
    (h1 : w'.os = w.os) (h2 : w'.tape = w.tape) (h3 : w'.output = w.output) (h4 : w.heap.size ≤ w'.heap.size)
    (hk : ∀ b, b < w.heap.size → B ≠ some b → w'.heap[b]? = w.heap[b]?)
    (hgen : e'.gen = blk'.gen) (hnil : e'.pl = none → blk'.cells = []) (hold : ∀ e, m i = some e → e' = e ∨ e.gen < e'.gen) (hro : blk'.ro = false)
    (hpl : ∀ pl', e'.pl = some pl' → BlkX w' S (updM m i e') blk' pl' ∧ ((w.heap.size ≤ pl'.b) ∨ ∃ bk e pl, hp[i]? = some bk ∧ bk.ro = false ∧ m i = some e ∧ e.pl = some pl ∧ pl.b = pl'.b)) :
    HS W0 O S0 m0 hp' (updM m i e') S w' ∧ Ext m (updM m i e') ∧ Keeps S w w' := by
  have hext : Ext m (updM m i e') := Ext.upd hold
  have hkeep : Keeps S w w' := by
    intro b hb
    refine hk b (h.sok b hb) (fun hBb => ?_)
    obtain ⟨bk, e, pl, g1, g2, g3, g4, g5⟩ := hB b hBb
    exact ((h.ro i bk e pl g1 g3 g4).2 g2).1 (g5 ▸ hb)
  have hinj : ∀ j e pl q, j ≠ i → m j = some e → e.pl = some pl → e'.pl = some q → pl.b ≠ q.b := by
    intro j e pl q hj he hp1 hq heq
    rcases (hpl q hq).2 with hf | ⟨bk, e2, pl2, g1, g2, g3, g4, g5⟩
    · obtain ⟨b, hb⟩ := h.has he
      have := ((h.blk j b e hb he).2.2 pl hp1).lt
      omega
    · exact hj (h.inj j i e e2 pl pl2 he g3 hp1 g4 (heq.trans g5.symm))
  refine ⟨⟨?_, ?_, ?_, ?_, ?_, ?_, h1.trans h.os, h2.trans h.tape, h3.trans h.out, Nat.le_trans h.size h4, ?_, h.snew, h.smono⟩, hext, hkeep⟩
  · intro j
    have hj : j < hp'.length ↔ (hp'[j]?).isSome = true := by simp
    rw [hj, hh j]
    by_cases e : j = i
    · simp [e, updM_same]
    · rw [if_neg e, updM_ne _ _ e, ← h.dom j]; simp
  · intro j b e hb he
    rw [hh j] at hb
    by_cases ej : j = i
    · subst ej
      rw [if_pos rfl] at hb
      rw [updM_same] at he
      cases hb; cases he
      exact ⟨hgen, hnil, fun pl hq => (hpl pl hq).1⟩
    · rw [if_neg ej] at hb
      rw [updM_ne _ _ ej] at he
      obtain ⟨g1, g2, g3⟩ := h.blk j b e hb he
      refine ⟨g1, g2, fun pl hq => (g3 pl hq).mono ?_ h4 hkeep (fun _ h => h) hext⟩
      refine hk _ (g3 pl hq).lt (fun hBb => ?_)
      obtain ⟨bk, e2, pl2, k1, k2, k3, k4, k5⟩ := hB _ hBb
      exact ej (h.inj j i e e2 pl pl2 he k3 hq k4 k5.symm)
  · intro j k e1 e2 p q hj hk1 hp1 hq1 hb
    by_cases ej : j = i <;> by_cases ek : k = i
    · omega
    · subst ej
      rw [updM_same] at hj; cases hj
      rw [updM_ne _ _ ek] at hk1
      exact absurd hb.symm (hinj k e2 q p ek hk1 hq1 hp1)
    · subst ek
      rw [updM_same] at hk1; cases hk1
      rw [updM_ne _ _ ej] at hj
      exact absurd hb (hinj j e1 p q ej hj hp1 hq1)
    · rw [updM_ne _ _ ej] at hj
      rw [updM_ne _ _ ek] at hk1
      exact h.inj j k e1 e2 p q hj hk1 hp1 hq1 hb
  · intro b hb
    exact Nat.lt_of_lt_of_le (h.sok b hb) h4
  · intro j b e pl hb he hq
    rw [hh j] at hb
    by_cases ej : j = i
    · subst ej
      rw [if_pos rfl] at hb
      rw [updM_same] at he
      cases hb; cases he
      refine ⟨(fun k => absurd (hro.symm.trans k) (by decide)), fun _ => ?_⟩
      rcases (hpl pl hq).2 with hf | ⟨bk, e2, pl2, g1, g2, g3, g4, g5⟩
      · exact ⟨fun hs => by have := h.sok _ hs; omega, .inr (Nat.le_trans h.size hf)⟩
      · rw [← g5]; exact (h.ro j bk e2 pl2 g1 g3 g4).2 g2
    · rw [if_neg ej] at hb
      rw [updM_ne _ _ ej] at he
      exact h.ro j b e pl hb he hq
  · intro j e pl he hq
    by_cases ej : j = i
    · subst ej
      rw [updM_same] at he; cases he
      rcases (hpl pl hq).2 with hf | ⟨bk, e2, pl2, g1, g2, g3, g4, g5⟩
      · exact .inl (Nat.le_trans h.size hf)
      · rw [← g5]; exact h.org j e2 pl2 g3 g4
    · rw [updM_ne _ _ ej] at he
      exact h.org j e pl he hq
  · intro b hb ho
    rw [← h.frame b hb ho]
    refine hk b (Nat.lt_of_lt_of_le hb h.size) (fun hBb => ?_)
    obtain ⟨bk, e2, pl2, g1, g2, g3, g4, g5⟩ := hB b hBb
    rcases ((h.ro i bk e2 pl2 g1 g3 g4).2 g2).2 with k | k
    · exact ho (g5 ▸ k)
    · omega

theorem get_push (hp : List Blk) (b : Blk) (j : Nat) : (hp ++ [b])[j]? = if j = hp.length then some b else hp[j]? := by
  by_cases h : j = hp.length
  · subst h; simp
  · rw [if_neg h]
    by_cases hl : j < hp.length
    · rw [List.getElem?_append_left hl]
    · have h2 : (hp ++ [b]).length = hp.length + 1 := by simp
      rw [List.getElem?_eq_none (by omega), List.getElem?_eq_none (by omega)]
theorem get_set' (hp : List Blk) (i : Nat) (b : Blk) (hi : i < hp.length) (j : Nat) : (hp.set i b)[j]? = if j = i then some b else hp[j]? := by
  by_cases h : j = i
  · subst h; simp [hi]
  · rw [if_neg h, List.getElem?_set_ne (fun e => h e.symm)]

theorem there_new (w : World) (c : Array Value) (el : TypeId) : (w.alloc (.cells c el)).there w.heap.size 0 c.size := by
  intro j hj
  simp only [Nat.zero_add]
  refine ⟨?_, ?_⟩
  · rw [World.cell?_alloc_new]; simp [hj]
  · exact World.frozen?_alloc_new _ _ _ _
theorem range_new (w : World) (c : Array Value) (el : TypeId) (cs rest : List Value) (h : c.toList = cs ++ rest) : (w.alloc (.cells c el)).rangeAt w.heap.size 0 cs := by
  intro j v hv
  have : c[j]? = some v := by
    rw [← Array.getElem?_toList, h, List.getElem?_append_left (List.getElem?_eq_some_iff.1 hv).1, hv]
  rw [World.cell?_alloc_new, Nat.zero_add, this]

/-- a new block -/
theorem HS.alloc (h : HS W0 O S0 m0 hp m S w) (c : Array Value) (el : TypeId) (cs rest : List Value) (hc : c.toList = cs ++ rest) (blk : Blk) (hg : blk.gen = 0) (hro : blk.ro = false)
    (hx : RL w S (cond blk.row noEM m) blk.cells cs) (hk : blk.keys = none := by rfl) :
    let e : Emb := ⟨some ⟨w.heap.size, 0, c.size, blk.esz⟩, 0⟩
    HS W0 O S0 m0 (hp ++ [blk]) (updM m hp.length e) S (w.alloc (.cells c el)) ∧ Ext m (updM m hp.length e) ∧ Keeps S w (w.alloc (.cells c el)) := by
  intro e
  have hnone : m hp.length = none := by
    have := (h.dom hp.length)
    cases hm : m hp.length with
    | none => rfl
    | some e => rw [hm] at this; simp at this
  have hext : Ext m (updM m hp.length e) := Ext.upd (fun e he => by rw [hnone] at he; cases he)
  have hkp : Keeps S w (w.alloc (.cells c el)) := fun b hb => heap_alloc_old w _ _ (h.sok b hb)
  refine h.upd hp.length (Nat.le_refl _) blk e (get_push hp blk) none (fun b hb => by cases hb) rfl rfl rfl (by simp) (fun b hb _ => heap_alloc_old w _ _ hb) hg.symm (fun k => by cases k)
    (fun e he => by rw [hnone] at he; cases he) hro ?_
  intro pl' hq
  cases hq
  refine ⟨BlkR.x ⟨rfl, by simp, ?_, there_new w c el, cs, range_new w c el cs rest hc, hx.mono hkp (fun _ h => h) (hext.cond _)⟩ hk, .inl (Nat.le_refl _)⟩
  have : c.size = cs.length + rest.length := by rw [← Array.length_toList, hc, List.length_append]
  refine ⟨?_, fun _ => rfl⟩
  simp only [Nat.zero_add, hx.1]
  omega
/-- a row that is no block of ours: it stays -/
theorem HS.allocS (h : HS W0 O S0 m0 hp m S w) (o : Obj) : HS W0 O S0 m0 hp m (fun b => S b ∨ b = w.heap.size) (w.alloc o) := by
  have hkp : Keeps S w (w.alloc o) := fun b hb => heap_alloc_old w _ _ (h.sok b hb)
  refine ⟨h.dom, ?_, h.inj, ?_, ?_, h.org, h.os, h.tape, h.out, Nat.le_trans h.size (by simp), ?_, ?_, fun b hb => .inl (h.smono b hb)⟩
  · intro i b e hb he
    obtain ⟨k1, k2, k3⟩ := h.blk i b e hb he
    exact ⟨k1, k2, fun pl hpl => (k3 pl hpl).mono (heap_alloc_old w _ _ (k3 pl hpl).lt) (by simp) hkp (fun _ h => .inl h) (Ext.refl _)⟩
  · intro b hb
    rcases hb with hb | rfl
    · have := h.sok b hb; simp; omega
    · simp
  · intro i b e pl hb he hpl
    obtain ⟨k1, k2⟩ := h.ro i b e pl hb he hpl
    refine ⟨fun hr => .inl (k1 hr), fun hr => ⟨fun hs => ?_, (k2 hr).2⟩⟩
    rcases hs with hs | hs
    · exact (k2 hr).1 hs
    · have := ((h.blk i b e hb he).2.2 pl hpl).lt; omega
  · intro b hb ho
    rw [← h.frame b hb ho]
    exact heap_alloc_old w _ _ (Nat.lt_of_lt_of_le hb h.size)
  · intro b hb
    rcases hb with hb | rfl
    · exact h.snew b hb
    · exact .inr (.inr h.size)
/-- a new block of nothing that is no block yet -/
theorem HS.allocNil (h : HS W0 O S0 m0 hp m S w) (blk : Blk) (hg : blk.gen = 0) (hro : blk.ro = false) (hx : blk.cells = []) :
    HS W0 O S0 m0 (hp ++ [blk]) (updM m hp.length ⟨none, 0⟩) S w ∧ Ext m (updM m hp.length ⟨none, 0⟩) ∧ Keeps S w w := by
  have hnone : m hp.length = none := by
    have := (h.dom hp.length)
    cases hm : m hp.length with
    | none => rfl
    | some e => rw [hm] at this; simp at this
  exact h.upd hp.length (Nat.le_refl _) blk ⟨none, 0⟩ (get_push hp blk) none (fun b hb => by cases hb) rfl rfl rfl (Nat.le_refl _) (fun b hb _ => rfl) hg.symm (fun _ => hx)
    (fun e he => by rw [hnone] at he; cases he) hro (fun pl' hq => by cases hq)

/-- a row is not written any more -/
theorem HS.freeze (h : HS W0 O S0 m0 hp m S w) {i : Nat} {b : Blk} (hb : hp[i]? = some b) :
    ∃ S', HS W0 O S0 m0 (hp.set i { b with ro := true }) m S' w ∧ (∀ c, S c → S' c) ∧ ∀ e pl, m i = some e → e.pl = some pl → S' pl.b := by
  obtain ⟨e, he, hg, hn, hp1⟩ := h.att hb
  have hi : i < hp.length := (List.getElem?_eq_some_iff.1 hb).1
  refine ⟨fun c => S c ∨ ∃ pl, e.pl = some pl ∧ c = pl.b, ⟨?_, ?_, h.inj, ?_, ?_, h.org, h.os, h.tape, h.out, h.size, h.frame, ?_, fun c hc => .inl (h.smono c hc)⟩, fun c hc => .inl hc, ?_⟩
  · intro j; rw [List.length_set]; exact h.dom j
  · intro j b' e' hb' he'
    rw [get_set' hp i _ hi] at hb'
    by_cases ej : j = i
    · subst ej
      rw [if_pos rfl] at hb'; cases hb'
      obtain ⟨g1, g2, g3⟩ := h.blk j b e' hb he'
      refine ⟨g1, g2, fun pl hq => ?_⟩
      have := (g3 pl hq).mono (w' := w) (S' := fun c => S c ∨ ∃ pl, e.pl = some pl ∧ c = pl.b) rfl (Nat.le_refl _) (Keeps.refl _ _) (fun _ hc => .inl hc) (Ext.refl _)
      exact ⟨this.lt, fun hk => ⟨(this.row hk).esz, (this.row hk).lt, (this.row hk).fit, (this.row hk).room, (this.row hk).cells⟩, fun ks hk => ⟨(this.map ks hk).row, (this.map ks hk).obj⟩⟩
    · rw [if_neg ej] at hb'
      obtain ⟨g1, g2, g3⟩ := h.blk j b' e' hb' he'
      exact ⟨g1, g2, fun pl hq => (g3 pl hq).mono rfl (Nat.le_refl _) (Keeps.refl _ _) (fun _ hc => .inl hc) (Ext.refl _)⟩
  · intro c hc
    rcases hc with hc | ⟨pl, hq, rfl⟩
    · exact h.sok c hc
    · exact (hp1 pl hq).lt
  · intro j b' e' pl hb' he' hq
    rw [get_set' hp i _ hi] at hb'
    by_cases ej : j = i
    · subst ej
      rw [if_pos rfl] at hb'; cases hb'
      rw [he] at he'; cases he'
      exact ⟨fun _ => .inr ⟨pl, hq, rfl⟩, fun k => by cases k⟩
    · rw [if_neg ej] at hb'
      obtain ⟨g1, g2⟩ := h.ro j b' e' pl hb' he' hq
      refine ⟨fun k => .inl (g1 k), fun k => ⟨fun hs => ?_, (g2 k).2⟩⟩
      rcases hs with hs | ⟨pl2, hq2, heq⟩
      · exact (g2 k).1 hs
      · exact ej (h.inj j i e' e pl pl2 he' he hq hq2 heq)
  · intro c hc
    rcases hc with hc | ⟨pl, hq, rfl⟩
    · exact h.snew c hc
    · cases hr : b.ro with
      | true => exact h.snew _ ((h.ro i b e pl hb he hq).1 hr)
      | false => exact .inr ((h.ro i b e pl hb he hq).2 hr).2
  · intro e2 pl he2 hq
    rw [he] at he2; cases he2
    exact .inr ⟨pl, hq, rfl⟩
/-- a new map -/
theorem HS.allocMap (h : HS W0 O S0 m0 hp m S w) :
    let e : Emb := ⟨some ⟨w.heap.size, 0, 0, 0⟩, 0⟩
    HS W0 O S0 m0 (hp ++ [{ cells := [], esz := 0, gen := 0, row := true, ro := false, keys := some [] }]) (updM m hp.length e) S (w.alloc (.map #[] 0)) ∧ Ext m (updM m hp.length e) ∧ Keeps S w (w.alloc (.map #[] 0)) := by
  intro e
  have hnone : m hp.length = none := by
    have := (h.dom hp.length)
    cases hm : m hp.length with
    | none => rfl
    | some e => rw [hm] at this; simp at this
  refine h.upd hp.length (Nat.le_refl _) _ e (get_push hp _) none (fun b hb => by cases hb) rfl rfl rfl (by simp) (fun b hb _ => heap_alloc_old w _ _ hb) rfl (fun k => by cases k)
    (fun e he => by rw [hnone] at he; cases he) rfl ?_
  intro pl' hq
  cases hq
  refine ⟨⟨by simp, (fun k => by cases k), (fun ks k => ?_)⟩, .inl (Nat.le_refl _)⟩
  cases k
  exact ⟨trivial, #[], 0, heap_alloc_new w _, rfl, .nil, MapKept.stamped_empty 0⟩
/-- a map is turned -/
theorem HS.setMap (h : HS W0 O S0 m0 hp m S w) {i : Nat} {b b' : Blk} {ks ks' : List Value} {e : Emb} {pl : Place} (hb : hp[i]? = some b) (_hk : b.keys = some ks) (hro : b.ro = false) (he : m i = some e) (hpl : e.pl = some pl)
    (hk' : b'.keys = some ks') (hro' : b'.ro = false) (hg' : b'.gen = b.gen) (es' : Array MapEntry) (clock' : Nat) (hks : es'.toList.map (·.key) = ks') (hx : RL w S (cond b'.row noEM m) b'.cells (es'.toList.map (·.val))) (hbo : MapKept.Stamped es' clock') :
    HS W0 O S0 m0 (hp.set i b') m S (putO w pl.b (.map es' clock')) ∧ Keeps S w (putO w pl.b (.map es' clock')) := by
  obtain ⟨g1, g2, g3⟩ := h.blk i b e hb he
  have hi : i < hp.length := (List.getElem?_eq_some_iff.1 hb).1
  have hlt := (g3 pl hpl).lt
  have hother : ∀ c, c ≠ pl.b → (putO w pl.b (.map es' clock')).heap[c]? = w.heap[c]? := fun c hc => by
    simp [putO, Array.getElem?_setIfInBounds_ne (Ne.symm hc)]
  have hsame : (putO w pl.b (.map es' clock')).heap[pl.b]? = some (.map es' clock') := by simp [putO, hlt]
  have hupd : updM m i e = m := by
    funext j
    by_cases ej : j = i
    · subst ej; rw [updM_same, he]
    · rw [updM_ne _ _ ej]
  have hkeep : Keeps S w (putO w pl.b (.map es' clock')) := fun c hc => hother c (fun ec => ((h.ro i b e pl hb he hpl).2 hro).1 (ec ▸ hc))
  have key := h.upd (w' := putO w pl.b (.map es' clock')) i (Nat.le_of_lt hi) b' e (get_set' hp i _ hi) (some pl.b) (fun c hc => by cases hc; exact ⟨b, e, pl, hb, hro, he, hpl, rfl⟩)
    rfl rfl rfl (by simp [putO]) (fun c hc hne => hother c (fun ec => hne (by rw [ec]))) (g1.trans hg'.symm) (fun hn => by rw [hpl] at hn; cases hn) (fun e' he' => by rw [he] at he'; cases he'; exact .inl rfl) hro' ?_
  · rw [hupd] at key
    exact ⟨key.1, key.2.2⟩
  · intro pl' hpl'
    rw [hpl] at hpl'; cases hpl'
    refine ⟨⟨by simpa [putO] using hlt, (fun k => by rw [hk'] at k; cases k), (fun ks2 k => ?_)⟩, .inr ⟨b, e, pl, hb, hro, he, hpl, rfl⟩⟩
    rw [hk'] at k; cases k
    exact ⟨trivial, es', clock', hsame, hks, by rw [hupd]; exact hx.mono hkeep (fun _ h => h) (Ext.refl _), hbo⟩
end
/-- a block without cells becomes another one without cells -/
def noCells : Obj → Bool
  | .cells .. => false
  | _ => true
def isMap : Obj → Bool
  | .map .. => true
  | _ => false
theorem putO_other {w : World} {r k : Nat} {o : Obj} (h : k ≠ r) : (putO w r o).heap[k]? = w.heap[k]? := by
  simp [putO, Array.getElem?_setIfInBounds_ne (Ne.symm h)]
theorem putO_same {w : World} {r : Nat} {o o' : Obj} (h : w.heap[r]? = some o') : (putO w r o).heap[r]? = some o := by
  have hlt : r < w.heap.size := (Array.getElem?_eq_some_iff.1 h).1
  simp [putO, hlt]
theorem putO_cell {w : World} {r : Nat} {o o' : Obj} (h : w.heap[r]? = some o') (hc : noCells o = true) (hc' : noCells o' = true) (a : Addr) : (putO w r o).cell? a = w.cell? a := by
  by_cases e : a.block = r
  · simp only [World.cell?, e, putO_same h, h]
    cases o <;> cases o' <;> first | rfl | simp [noCells] at hc hc'
  · simp only [World.cell?, putO_other e]
theorem putO_frozen {w : World} {r : Nat} {o o' : Obj} (h : w.heap[r]? = some o') (hc : noCells o = true) (hc' : noCells o' = true) (a : Addr) : (putO w r o).frozen? a = w.frozen? a := by
  by_cases e : a.block = r
  · simp only [World.frozen?, e, putO_same h, h]
    cases o <;> cases o' <;> first | rfl | simp [noCells] at hc hc'
  · simp only [World.frozen?, putO_other e]
theorem putO_size {w : World} {r : Nat} {o : Obj} : (putO w r o).heap.size = w.heap.size := by simp [putO]
theorem putO_R {w : World} {r : Nat} {o o' : Obj} (h : w.heap[r]? = some o') (hc : noCells o = true) (hc' : noCells o' = true) {S : Nat → Prop} {m : EM} {x : AV} {v : Value} (k : R w S m x v) : R (putO w r o) S m x v :=
  k.monoC (fun _ _ _ => putO_cell h hc hc' _) (fun _ h => h) (Ext.refl _)
theorem HS.putO {W0 : World} {O S0 : Nat → Prop} {m0 : EM} {hp : List Blk} {m : EM} {S : Nat → Prop} {w : World} (h : HS W0 O S0 m0 hp m S w) {r : Nat} {o o' : Obj} (hr : w.heap[r]? = some o') (hc : noCells o = true) (hc' : noCells o' = true) (hW : W0.heap.size ≤ r) (hm : isMap o' = false := by rfl) :
    HS W0 O S0 m0 hp m S (putO w r o) where
  dom := h.dom
  blk := fun i b e hb he => by
    obtain ⟨g1, g2, g3⟩ := h.blk i b e hb he
    refine ⟨g1, g2, fun pl hpl => ⟨by rw [putO_size]; exact (g3 pl hpl).lt, fun hk => ?_, fun ks hk => ?_⟩⟩
    · obtain ⟨k1, k2, k3, k4, cs, k5, k6⟩ := (g3 pl hpl).row hk
      refine ⟨k1, by rw [putO_size]; exact k2, k3, ?_, cs, ?_, ?_⟩
      · intro j hj
        rw [putO_cell hr hc hc', putO_frozen hr hc hc']
        exact k4 j hj
      · intro j v hv
        rw [putO_cell hr hc hc']
        exact k5 j v hv
      · exact ⟨k6.1, fun j h h' => putO_R hr hc hc' (k6.2 j h h')⟩
    · obtain ⟨k1, es, c, k2, k3, k4, k5⟩ := (g3 pl hpl).map ks hk
      have hne : pl.b ≠ r := fun eb => by rw [eb, hr] at k2; cases k2; simp [isMap] at hm
      exact ⟨k1, es, c, by rw [putO_other hne]; exact k2, k3, ⟨k4.1, fun j h h' => putO_R hr hc hc' (k4.2 j h h')⟩, k5⟩
  inj := h.inj
  sok := fun b hb => by rw [putO_size]; exact h.sok b hb
  ro := h.ro
  org := h.org
  os := h.os
  tape := h.tape
  out := h.out
  size := by rw [putO_size]; exact h.size
  frame := fun b hb ho => by rw [putO_other (by omega)]; exact h.frame b hb ho
  snew := h.snew
  smono := h.smono
end Go.Vm

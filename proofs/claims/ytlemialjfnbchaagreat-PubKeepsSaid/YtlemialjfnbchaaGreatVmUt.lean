/- Regions that draw their order: all orders, one by one. -/
import Derived.Test.YtlemialjfnbchaaGreatVmD6

namespace Go.Vm
open Go
theorem eqX_ok {x y : AV} (h : eqX x y = true) : x = y := by
  unfold eqX at h
  split at h
  · rfl
  · rw [eqList_ok eqA_ok h]
  · simp only [Bool.and_eq_true] at h
    rw [Nat.eq_of_beq_eq_true h.1.1, eqList_ok eqA_ok h.1.2, eqList_ok eqA_ok h.2]
  · exact eqA_ok _ _ h
theorem eqT_ok : ∀ {t u : Tr}, eqT t u = true → t = u
  | .lf, .lf, _ => rfl
  | .nd l v r, .nd l' v' r', h => by
    simp only [eqT, Bool.and_eq_true] at h
    rw [eqT_ok h.1.1, eqX_ok h.1.2, eqT_ok h.2]
  | .lf, .nd _ _ _, h => by cases h
  | .nd _ _ _, .lf, h => by cases h
theorem eqH_ok : ∀ {l l' : List Blk}, eqH l l' = true → l = l'
  | [], [], _ => rfl
  | ⟨c, e, g, x, y, k⟩ :: r, ⟨c', e', g', x', y', k'⟩ :: r', h => by
    simp only [eqH, Bool.and_eq_true] at h
    obtain ⟨⟨⟨⟨⟨⟨h1, h2⟩, h3⟩, h4⟩, h5⟩, h7⟩, h6⟩ := h
    rw [eqList_ok eqA_ok h1, Nat.eq_of_beq_eq_true h2, Nat.eq_of_beq_eq_true h3, eq_of_beq h4, eq_of_beq h5, eqKs_ok h7, eqH_ok h6]
  | [], _ :: _, h => by cases h
  | _ :: _, [], h => by cases h
section
variable {P : Program} {W0 : World} {O S0 : Nat → Prop} {m0 : EM} {N : Nat} {run : FuncId → List AV → List Blk → Option (AV × List Blk)} {M : Mode} {ops : Array Oper}
theorem anyV_ok {Q : Exit → Act → World → Prop} (hrun : RunOk P run) (hb : N < 16383) (hd : ∀ o ∈ ops.toList, ∀ d, o.dst = some d → d < N) {tE : Tr} {hpE : List Blk} (hQ : ∀ a' w', Sim W0 O S0 m0 N tE hpE a' w' → Q .normal a' w') :
    ∀ (n : Nat) (listed : Array Bool) (t : Tr) (hp : List Blk) (a : Act) (w : World), anyV P run M ops tE hpE n listed t hp = true → Sim W0 O S0 m0 N t hp a w → wpAny P .any ops Q n listed a w
  | 0, listed, t, hp, a, w, h, hs => by
    simp only [anyV, Bool.and_eq_true] at h
    obtain ⟨⟨h1, h2⟩, h3⟩ := h
    rw [eqT_ok h2, eqH_ok h3] at hs
    refine ⟨?_, hQ a w hs⟩
    split at h1
    · assumption
    · cases h1
  | n + 1, listed, t, hp, a, w, h, hs => by
    simp only [anyV, Bool.and_eq_true] at h
    obtain ⟨h1, h2⟩ := h
    refine ⟨fun e => ?_, fun i hi => ?_⟩
    · rw [e] at h1; cases h1
    · have := List.all_eq_true.1 h2 i hi
      split at this
      · rename_i o ho
        split at this
        · rename_i t1 hp1 hop
          have hmem : o ∈ ops.toList := by
            obtain ⟨hlt, e⟩ := Array.getElem?_eq_some_iff.1 ho
            rw [← e]; simp
          exact opV_ok hrun ho (hd o hmem) hb hop hs (fun a' w' hs' => anyV_ok hrun hb hd hQ n _ t1 hp1 a' w' this hs')
        · cases this
      · cases this
end
end Go.Vm

namespace Go.Vm
open Go
section
variable {P : Program} {W0 : World} {O S0 : Nat → Prop} {m0 : EM} {hp hp' : List Blk} {m : EM} {S : Nat → Prop} {t : Tr} {a : Act} {w : World} {N : Nat}
theorem HS.gc (h : HS W0 O S0 m0 hp m S w) {js : List Nat} (hn : js.Nodup) (hi : ∀ i ∈ js, i < hp.length) {sub : List Blk} (hs : pickB hp (posOf js) js = some sub) :
    HS W0 O S0 m0 sub (fun j => match js[j]? with | some i => m i | none => none) S w ∧ Ren (posOf js) m (fun j => match js[j]? with | some i => m i | none => none) := by
  obtain ⟨g1, g2, g3⟩ := h.sub hn hi hs
  obtain ⟨hl, hg⟩ := pickB_ok hs
  have hms : ∀ j e, (fun j => match js[j]? with | some i => m i | none => none : EM) j = some e → ∃ i, js[j]? = some i ∧ m i = some e := by
    intro j e he
    cases hj : js[j]? with
    | none => simp only [hj] at he; cases he
    | some i => simp only [hj] at he; exact ⟨i, rfl, he⟩
  refine ⟨⟨g1.dom, g1.blk, g1.inj, h.sok, ?_, ?_, h.os, h.tape, h.out, h.size, h.frame, h.snew, h.smono⟩, g2⟩
  · intro j b e pl hb he hpl
    obtain ⟨i, hji, hme⟩ := hms j e he
    obtain ⟨b0, hb0, hsb⟩ := hg j i hji
    rw [hsb] at hb; cases hb
    rw [(renB_row (posOf js) b0).2.1]
    exact h.ro i b0 e pl hb0 hme hpl
  · intro j e pl he hpl
    obtain ⟨i, hji, hme⟩ := hms j e he
    exact h.org i e pl hme hpl

/-- from a later start to the one before -/
theorem HS.rebase {hpb hp' : List Blk} {mb m' : EM} {Sb S' : Nat → Prop} {wb w' : World} (h1 : HS W0 O S0 m0 hpb mb Sb wb) (h2 : HS wb (own0 hpb mb) Sb mb hp' m' S' w') : HS W0 O S0 m0 hp' m' S' w' := by
  have hown : ∀ b, own0 hpb mb b → O b ∨ W0.heap.size ≤ b := by
    rintro b ⟨i, blk, e, pl, k1, k2, k3, k4, rfl⟩
    exact ((h1.ro i blk e pl k1 k3 k4).2 k2).2
  refine ⟨h2.dom, h2.blk, h2.inj, h2.sok, ?_, ?_, h2.os.trans h1.os, h2.tape.trans h1.tape, h2.out.trans h1.out, Nat.le_trans h1.size h2.size, ?_, ?_, fun b hb => h2.smono b (h1.smono b hb)⟩
  · intro i b e pl k1 k2 k3
    obtain ⟨g1, g2⟩ := h2.ro i b e pl k1 k2 k3
    refine ⟨g1, fun hr => ⟨(g2 hr).1, ?_⟩⟩
    rcases (g2 hr).2 with k | k
    · exact hown _ k
    · exact .inr (Nat.le_trans h1.size k)
  · intro i e pl k1 k2
    rcases h2.org i e pl k1 k2 with k | ⟨i', e', pl', q1, q2, q3⟩
    · exact .inl (Nat.le_trans h1.size k)
    · rw [← q3]; exact h1.org i' e' pl' q1 q2
  · intro b hb ho
    rw [← h1.frame b hb ho]
    refine h2.frame b (Nat.lt_of_lt_of_le hb h1.size) (fun k => ?_)
    rcases hown b k with k | k
    · exact ho k
    · omega
  · intro b hb
    rcases h2.snew b hb with k | k | k
    · exact h1.snew b k
    · exact .inr (hown b k)
    · exact .inr (.inr (Nat.le_trans h1.size k))
end
theorem firstB_mem {p : Nat → Bool} : ∀ {l : List Nat} {i : Nat}, firstB p l = some i → i ∈ l ∧ p i = true
  | [], i, h => by cases h
  | x :: l, i, h => by
    unfold firstB at h
    cases hp : p x with
    | true => rw [hp] at h; cases h; exact ⟨by simp, hp⟩
    | false => rw [hp] at h; obtain ⟨h1, h2⟩ := firstB_mem h; exact ⟨by simp [h1], h2⟩
theorem firstB_none {p : Nat → Bool} : ∀ {l : List Nat}, firstB p l = none → ∀ i ∈ l, p i = false
  | [], h, i, hi => by cases hi
  | x :: l, h, i, hi => by
    unfold firstB at h
    cases hp : p x with
    | true => rw [hp] at h; cases h
    | false =>
      rw [hp] at h
      rcases List.mem_cons.1 hi with rfl | hi
      · exact hp
      · exact firstB_none h i hi
section
variable {P : Program} {run : FuncId → List AV → List Blk → Option (AV × List Blk)} {M : Mode} {ops : Array Oper}
theorem reach_pre' (hp : List Blk) : ∀ (n : Nat) (todo acc : List Nat), ∃ l, reach hp n todo acc = acc ++ l
  | 0, todo, acc => ⟨[], by simp [reach]⟩
  | n + 1, [], acc => ⟨[], by simp [reach]⟩
  | n + 1, i :: todo, acc => by
    unfold reach
    cases memB i acc with
    | true => rw [cond_true]; exact reach_pre' hp n todo acc
    | false =>
      rw [cond_false]
      split
      · obtain ⟨l, hl⟩ := reach_pre' hp n (cond (by rename_i b _; exact b.row) todo (by rename_i b _; exact (b.cells.flatMap ids ++ todo))) (acc ++ [i])
        exact ⟨i :: l, by rw [hl]; simp⟩
      · exact reach_pre' hp n todo acc
def TreeOk (P : Program) (run : FuncId → List AV → List Blk → Option (AV × List Blk)) (M : Mode) (ops : Array Oper) (leaf : Tr → List Blk → Prop) : Nat → Array Bool → Pend → Tr → List Blk → Prop
  | 0, listed, _, t, hp => Region.ready .any ops listed = [] ∧ leaf t hp
  | n + 1, listed, pend, t, hp =>
    (∃ x ox t1 hp1, x ∈ Region.ready .any ops listed ∧ ops[x]? = some ox ∧ light ox.op = true ∧ opG P run M ((masks ops.toList).getD x 0) pend ops ox t hp = some (t1, hp1) ∧ TreeOk P run M ops leaf n (listed.setIfInBounds x true) ((x, readR t ox) :: pend) t1 hp1) ∨
    (Region.ready .any ops listed ≠ [] ∧ ∀ i ∈ Region.ready .any ops listed, ∃ oi t1 hp1, ops[i]? = some oi ∧ opG P run M ((masks ops.toList).getD i 0) pend ops oi t hp = some (t1, hp1) ∧ TreeOk P run M ops leaf n (listed.setIfInBounds i true) ((i, readR t oi) :: pend) t1 hp1)
theorem treeB_ok {leaf : Tr → List Blk → Bool} : ∀ (n : Nat) (listed : Array Bool) (pend : Pend) (t : Tr) (hp : List Blk), treeB P run M ops (masks ops.toList) leaf n listed pend t hp = true → TreeOk P run M ops (fun t hp => leaf t hp = true) n listed pend t hp
  | 0, listed, pend, t, hp, h => by
    simp only [treeB, Bool.and_eq_true] at h
    refine ⟨?_, h.2⟩
    have := h.1
    unfold noneB at this
    split at this
    · assumption
    · cases this
  | n + 1, listed, pend, t, hp, h => by
    simp only [treeB] at h
    split at h
    · rename_i i hf
      obtain ⟨h1, h2⟩ := firstB_mem hf
      split at h
      · rename_i o ho
        split at h
        · rename_i t1 hp1 hop
          refine .inl ⟨i, o, t1, hp1, h1, ho, ?_, hop, treeB_ok n _ _ _ _ h⟩
          unfold isLight at h2
          rw [ho] at h2; exact h2
        · cases h
      · cases h
    · rw [Bool.and_eq_true] at h
      refine .inr ⟨fun e => ?_, fun i hi => ?_⟩
      · rw [e] at h; have := h.1; simp [noneB] at this
      · have := List.all_eq_true.1 h.2 i hi
        split at this
        · rename_i o ho
          split at this
          · rename_i t1 hp1 hop
            exact ⟨o, t1, hp1, ho, hop, treeB_ok n _ _ _ _ this⟩
          · cases this
        · cases this
theorem tree_congr (hd : ∀ (i : Nat) (o : Oper), ops[i]? = some o → ∀ d, o.dst = some d → d < 16383) {leaf : Tr → List Blk → Prop} (hleaf : ∀ t t' hp, Alike t t' → leaf t hp → leaf t' hp) : ∀ (n : Nat) (listed : Array Bool) (pend pend' : Pend) (t t' : Tr) (hp : List Blk), Alike t t' → (∀ q ∈ pend', q ∈ pend) → TreeOk P run M ops leaf n listed pend t hp → TreeOk P run M ops leaf n listed pend' t' hp
  | 0, listed, pend, pend', t, t', hp, ha, hs, h => ⟨h.1, hleaf t t' hp ha h.2⟩
  | n + 1, listed, pend, pend', t, t', hp, ha, hs, h => by
    have step : ∀ {i : Nat} {oi : Oper} {t1 : Tr} {hp1 : List Blk}, ops[i]? = some oi → opG P run M ((masks ops.toList).getD i 0) pend ops oi t hp = some (t1, hp1) → TreeOk P run M ops leaf n (listed.setIfInBounds i true) ((i, readR t oi) :: pend) t1 hp1 →
        ∃ t1' hp1', opG P run M ((masks ops.toList).getD i 0) pend' ops oi t' hp = some (t1', hp1') ∧ TreeOk P run M ops leaf n (listed.setIfInBounds i true) ((i, readR t' oi) :: pend') t1' hp1' := by
      intro i oi t1 hp1 ho h1 h2
      obtain ⟨v, e1, h3⟩ := opG_congr (t' := t') (fun x _ => ha.ev x) (fun _ _ _ d _ => ha d) h1
      subst e1
      refine ⟨_, _, opG_mono hs h3, tree_congr hd hleaf n _ _ _ _ _ _ (ha.put (fun d e => hd i oi ho d e) v) (fun q hq => ?_) h2⟩
      rcases List.mem_cons.1 hq with rfl | hq
      · rw [readR_congr (t := t') (t' := t) (fun x _ => (ha.ev x).symm)]; exact List.mem_cons_self ..
      · exact List.mem_cons_of_mem _ (hs q hq)
    rcases h with ⟨x, ox, t1, hp1, h1, h2, h3, h4, h5⟩ | ⟨h1, h2⟩
    · obtain ⟨t1', hp1', k1, k2⟩ := step h2 h4 h5
      exact .inl ⟨x, ox, t1', hp1', h1, h2, h3, k1, k2⟩
    · refine .inr ⟨h1, fun i hi => ?_⟩
      obtain ⟨oi, t1, hp1, q1, q2, q3⟩ := h2 i hi
      obtain ⟨t1', hp1', k1, k2⟩ := step q1 q2 q3
      exact ⟨oi, t1', hp1', q1, k1, k2⟩
theorem set_comm (l : Array Bool) (i x : Nat) : (l.setIfInBounds x true).setIfInBounds i true = (l.setIfInBounds i true).setIfInBounds x true := by
  by_cases e : x = i
  · subst e; rfl
  · apply Array.toList_inj.1
    simp only [Array.toList_setIfInBounds]
    exact List.set_comm _ _ e
theorem unl_of {listed : Array Bool} {j : Nat} (h1 : listed.getD j true = false) : listed.getD j false ≠ true := fun h2 => by
  rcases Nat.lt_or_ge j listed.size with h' | h'
  · simp [h'] at h1 h2; rw [h1] at h2; cases h2
  · simp [Array.getElem?_eq_none h'] at h2
/-- what is ready may be done at once -/
theorem tree_pick (hd : ∀ (i : Nat) (o : Oper), ops[i]? = some o → ∀ d, o.dst = some d → d < 16383) (hpt : pairsT ops (masks ops.toList) (nbOf ops) = true) {leaf : Tr → List Blk → Prop} (hleaf : ∀ t t' hp, Alike t t' → leaf t hp → leaf t' hp) :
    ∀ (n : Nat) (listed : Array Bool) (pend : Pend) (t : Tr) (hp : List Blk), listed.size = ops.size → Down ops.toList (fun j => listed.getD j false = true) → TreeOk P run M ops leaf (n + 1) listed pend t hp → ∀ i ∈ Region.ready .any ops listed,
      ∃ oi t1 hp1, ops[i]? = some oi ∧ opG P run M ((masks ops.toList).getD i 0) pend ops oi t hp = some (t1, hp1) ∧ TreeOk P run M ops leaf n (listed.setIfInBounds i true) ((i, readR t oi) :: pend) t1 hp1 := by
  intro n
  induction n with
  | zero =>
    intro listed pend t hp hsz hdown h i hi
    rcases h with ⟨x, ox, t1, hp1, h1, h2, h3, h4, h5⟩ | ⟨h1, h2⟩
    · by_cases e : i = x
      · subst e; exact ⟨ox, t1, hp1, h2, h4, h5⟩
      · exfalso
        obtain ⟨k1, oi, k2, k3⟩ := mem_ready.1 hi
        have : i ∈ Region.ready .any ops (listed.setIfInBounds x true) := mem_ready.2 ⟨by rw [getD_set_ne true (fun q => e q.symm)]; exact k1, oi, k2, fun e' he' hb' => getD_set_true (k3 e' he' hb')⟩
        rw [h5.1] at this
        simp at this
    · exact h2 i hi
  | succ n ih =>
    intro listed pend t hp hsz hdown h i hi
    rcases h with ⟨x, ox, t1, hp1, h1, h2, h3, h4, h5⟩ | ⟨h1, h2⟩
    · by_cases e : i = x
      · subst e; exact ⟨ox, t1, hp1, h2, h4, h5⟩
      · obtain ⟨k1, oi, k2, k3⟩ := mem_ready.1 hi
        obtain ⟨j1, ox', j2, j3⟩ := mem_ready.1 h1
        rw [h2] at j2; cases j2
        have hxs : x < listed.size := by rw [hsz]; exact (Array.getElem?_eq_some_iff.1 h2).1
        have hi' : i ∈ Region.ready .any ops (listed.setIfInBounds x true) := mem_ready.2 ⟨by rw [getD_set_ne true (fun q => e q.symm)]; exact k1, oi, k2, fun e' he' hb' => getD_set_true (k3 e' he' hb')⟩
        have hdown' : Down ops.toList (fun j => (listed.setIfInBounds x true).getD j false = true) := by
          intro j hj o ho e' he' hbd
          by_cases hjx : x = j
          · subst hjx
            refine getD_set_true (j3 e' ?_ hbd)
            have : o = ox := by rw [Array.getElem?_toList, h2] at ho; cases ho; rfl
            subst this; simpa using he'
          · rw [getD_set_ne false hjx] at hj
            exact getD_set_true (hdown j hj o ho e' he' hbd)
        obtain ⟨oi', ti, hp2, q1, q2, q3⟩ := ih _ _ _ _ (by simp [hsz]) hdown' h5 i hi'
        rw [k2] at q1; cases q1
        have nm : ∀ {i x : Nat} {oi : Oper}, ops[i]? = some oi → (∀ e ∈ oi.after, Region.binds .any e = true → listed.getD e.on false = true) → listed.getD x true = false → ((masks ops.toList).getD i 0).testBit x = false := by
          intro i x oi k2 k3 j1
          rw [Bool.eq_false_iff]
          intro hbit
          exact unl_of j1 (masks_ok ops.toList i x hbit _ hdown (fun o ho e he hb => k3 e (by
            have : o = oi := by rw [Array.getElem?_toList, k2] at ho; cases ho; rfl
            subst this; simpa using he) hb))
        have n1 := nm k2 k3 j1
        have n2 := nm h2 j3 k1
        have hpa : (nbOf ops && isBS ox.op) = false ∧ Oper.apart ops ox oi = true := by
          have g1 := List.all_eq_true.1 hpt x (List.mem_range.2 (Array.getElem?_eq_some_iff.1 h2).1)
          rw [h2] at g1
          simp only [h3, Bool.not_true, Bool.false_or] at g1
          have g2 := List.all_eq_true.1 g1 i (List.mem_range.2 (Array.getElem?_eq_some_iff.1 k2).1)
          rw [n1, n2, k2] at g2
          have : Nat.beq i x = false := by
            cases hb : Nat.beq i x with
            | false => rfl
            | true => exact absurd (Nat.eq_of_beq_eq_true hb) e
          rw [this] at g2
          have g3 : (!(nbOf ops && isBS ox.op) && Oper.apart ops ox oi) = true := g2
          rw [Bool.and_eq_true] at g3
          exact ⟨by rw [← Bool.not_eq_true']; exact g3.1, g3.2⟩
        have hnb : nbOf ops = true → isBS ox.op = false := fun hn => by have := hpa.1; rw [hn] at this; simpa using this
        obtain ⟨t2, r1, r2, r3, r4⟩ := swap h3 hnb hpa.2 n1 (fun d e => hd x ox h2 d e) (fun d e => hd i oi k2 d e) h4 q2
        obtain ⟨t2', r5, r6⟩ := r4 ((masks ops.toList).getD x 0) ((i, readR t oi) :: pend)
        refine ⟨oi, t2, hp2, k2, r1, .inl ⟨x, ox, t2', hp2, ?_, h2, h3, r5, ?_⟩⟩
        · exact mem_ready.2 ⟨by rw [getD_set_ne true e]; exact j1, ox, h2, fun e' he' hb' => getD_set_true (j3 e' he' hb')⟩
        · rw [← set_comm]
          refine tree_congr hd hleaf n _ _ _ ti t2' hp2 r6.symm (fun q hq => ?_) q3
          rw [r2] at hq
          rw [r3]
          simp only [List.mem_cons] at hq ⊢
          rcases hq with rfl | rfl | hq
          · exact .inr (.inl rfl)
          · exact .inl rfl
          · exact .inr (.inr hq)
    · exact h2 i hi
end
section
variable {P : Program} {run : FuncId → List AV → List Blk → Option (AV × List Blk)} {M : Mode} {ops : Array Oper} {N : Nat}
/-- a state of a region, told from its start -/
def StR (ds : List Nat) (N : Nat) (wb : World) (hpb : List Blk) (mb : EM) (Sb : Nat → Prop) (tb : Tr) (ab : Act) (t : Tr) (hp : List Blk) (a : Act) (w : World) : Prop :=
  ∃ m S, HS wb (own0 hpb mb) Sb mb hp m S w ∧ Ext mb m ∧ FrR w S m t a ∧ a.tmps.size = N ∧ Keeps Sb wb w ∧ (∀ b, Sb b → S b) ∧ a.defers = ab.defers ∧ ∀ j, j ∉ ds → a.eval (.tmp j) = ab.eval (.tmp j) ∧ t.get j = tb.get j
variable {ds : List Nat} {wb : World} {hpb : List Blk} {mb : EM} {Sb : Nat → Prop} {tb : Tr} {ab : Act}
theorem opV_okR {o : Oper} {i : Nat} {Q : Exit → Act → World → Prop} {K : Act → World → Prop} {t t' : Tr} {hp hp' : List Blk} {a : Act} {w : World} (hrun : RunOk P run) (hi : ops[i]? = some o) (hd : ∀ d, o.dst = some d → d < N) (hds : ∀ d, o.dst = some d → d ∈ ds) (hb : N < 16383)
    (h : opV P run M ops o t hp = some (t', hp')) (hs : StR ds N wb hpb mb Sb tb ab t hp a w) (hK : ∀ a' w', StR ds N wb hpb mb Sb tb ab t' hp' a' w' → K a' w') : wpOp P ops Q i K a w := by
  obtain ⟨m, S, h1, h2, h3, h4, h5, h6, h7, h8⟩ := hs
  have fin : ∀ {m' : EM} {S' : Nat → Prop} {w' : World} {v : AV} {u : Value}, HS wb (own0 hpb mb) Sb mb hp' m' S' w' → Ext m m' → FrR w' S' m' t a → R w' S' m' v u → Keeps S w w' → (∀ b, S b → S' b) → t' = putV t o.dst v → K (a.put o.dst u) w' := by
    intro m' S' w' v u k1 k2 k3 k4 k6 k7 k5
    refine hK _ _ ⟨m', S', k1, h2.trans k2, ?_, by rw [put_size, h4], fun b hb => (k6 b (h6 b hb)).trans (h5 b hb), fun b hb => k7 b (h6 b hb), (put_defers ..).trans h7, fun j hj => ?_⟩
    · rw [k5]
      exact k3.put k4 _ (fun i hi => by rw [h4]; exact hd i hi) (by omega)
    · obtain ⟨g1, g2⟩ := h8 j hj
      rw [k5]
      cases hdst : o.dst with
      | none => exact ⟨g1, g2⟩
      | some d =>
        have hne : d ≠ j := fun e => hj (e ▸ hds d hdst)
        refine ⟨by rw [eval_put_tmp a d j u (by rw [h4]; exact hd d hdst), if_neg hne, g1], ?_⟩
        show (t.set d v).get j = _
        rw [Tr.get_set t d j v (Nat.lt_trans (hd d hdst) hb), if_neg hne, g2]
  unfold opV at h
  unfold wpOp
  rw [hi]
  simp only
  split at h
  · cases h
  · rename_i hg
    cases h
    rw [guard_ok h3 hg]
    simp only [Bool.false_eq_true, if_false]
    exact fin h1 (Ext.refl _) h3 (.p _ _) (Keeps.refl _ _) (fun _ h => h) rfl
  · rename_i hg
    rw [guard_ok h3 hg]
    simp only [if_true]
    left
    split at h
    · cases h
    · rename_i v hp1 hv
      cases h
      obtain ⟨nx, w', m', S', k1, k2, k3, k4, k5, k6⟩ := (vop_ok h1 h3 hv).1 _ _ rfl
      unfold Oper.wp
      rw [k1]
      cases nx with
      | value u => exact fin k3 k4 (h3.mono k6 k5 k4) k2 k6 k5 rfl
      | skip =>
        have : v = .p undef := k2
        subst this
        exact fin k3 k4 (h3.mono k6 k5 k4) (.p _ _) k6 k5 rfl
      | _ => exact absurd k2 (by simp [Gives])
    · rename_i f args hv
      obtain ⟨args', k1, k2⟩ := (vop_ok h1 h3 hv).2 _ _ rfl
      split at h
      · cases h
      · rename_i v hp1 hc
        cases h
        unfold Oper.wp
        rw [k1]
        refine (callV_ok hrun h1 k2 hc).mono ?_
        rintro e w' ⟨u, m', S', rfl, q1, q2, q3, q4, q5⟩
        exact fin q1 q2 (h3.mono q4 q3 q2) q5 q4 q3 rfl
theorem wpAny_tree (hrun : RunOk P run) (hb : N < 16383) (hd : ∀ (i : Nat) (o : Oper), ops[i]? = some o → ∀ d, o.dst = some d → d < N) (hds : ∀ (i : Nat) (o : Oper), ops[i]? = some o → ∀ d, o.dst = some d → d ∈ ds) (hpt : pairsT ops (masks ops.toList) (nbOf ops) = true) {leaf : Tr → List Blk → Prop} (hleaf : ∀ t t' hp, Alike t t' → leaf t hp → leaf t' hp) {Q : Exit → Act → World → Prop}
    (hQ : ∀ t hp a' w', leaf t hp → StR ds N wb hpb mb Sb tb ab t hp a' w' → Q .normal a' w') : ∀ (n : Nat) (listed : Array Bool) (pend : Pend) (t : Tr) (hp : List Blk) (a : Act) (w : World), listed.size = ops.size → Down ops.toList (fun j => listed.getD j false = true) →
      TreeOk P run M ops leaf n listed pend t hp → StR ds N wb hpb mb Sb tb ab t hp a w → wpAny P .any ops Q n listed a w
  | 0, listed, pend, t, hp, a, w, hsz, hdown, h, hs => ⟨h.1, hQ t hp a w h.2 hs⟩
  | n + 1, listed, pend, t, hp, a, w, hsz, hdown, h, hs => by
    have hd' : ∀ (i : Nat) (o : Oper), ops[i]? = some o → ∀ d, o.dst = some d → d < 16383 := fun i o ho d e => Nat.lt_trans (hd i o ho d e) hb
    refine ⟨fun hr => ?_, fun i hi => ?_⟩
    · exfalso
      rcases h with ⟨x, ox, t1, hp1, h1, _⟩ | ⟨h1, _⟩
      · rw [hr] at h1; simp at h1
      · exact h1 hr
    · obtain ⟨oi, t1, hp1, k1, k2, k3⟩ := tree_pick hd' hpt hleaf n listed pend t hp hsz hdown h i hi
      obtain ⟨j1, oi', j2, j3⟩ := mem_ready.1 hi
      rw [k1] at j2; cases j2
      refine opV_okR hrun k1 (hd i oi k1) (hds i oi k1) hb (opG_opV k2) hs (fun a' w' hs' => ?_)
      refine wpAny_tree hrun hb hd hds hpt hleaf hQ n _ _ t1 hp1 a' w' (by simp [hsz]) ?_ k3 hs'
      intro j hj o ho e he hbd
      have hlt : i < listed.size := by rw [hsz]; exact (Array.getElem?_eq_some_iff.1 k1).1
      by_cases hji : i = j
      · subst hji
        refine getD_set_true (j3 e ?_ hbd)
        have : o = oi := by rw [Array.getElem?_toList, k1] at ho; cases ho; rfl
        subst this; simpa using he
      · rw [getD_set_ne false hji] at hj
        exact getD_set_true (hdown j hj o ho e he hbd)
theorem foldl_set_get (f : Nat → AV) {j : Nat} : ∀ (ds : List Nat) (t : Tr), (∀ d ∈ ds, d < 16383) → j ∉ ds → (ds.foldl (fun u d => u.set d (f d)) t).get j = t.get j
  | [], t, _, _ => rfl
  | d :: ds, t, h, hj => by
    rw [List.foldl_cons, foldl_set_get f ds _ (fun x hx => h x (by simp [hx])) (fun q => hj (by simp [q])), Tr.get_set t d j _ (h d (by simp)), if_neg (fun e => hj (by simp [e]))]
theorem leaf_alike {K : Nat} {tE : Tr} {hpE : List Blk} (t t' : Tr) (hp : List Blk) (ha : Alike t t') (h : leafB K ds tE hpE t hp = true) : leafB K ds tE hpE t' hp = true := by
  have e1 : canonJ hp K t' ds = canonJ hp K t ds := by
    unfold canonJ
    have : (fun d => ids (t'.get d)) = fun d => ids (t.get d) := funext fun d => by rw [ha d]
    rw [this]
  unfold leafB at h ⊢
  rw [e1]
  have e2 : (fun d => eqX (ren (posOf (canonJ hp K t ds)) (t'.get d)) (tE.get d)) = fun d => eqX (ren (posOf (canonJ hp K t ds)) (t.get d)) (tE.get d) := funext fun d => by rw [ha d]
  rw [e2]; exact h
theorem opG_agrZ {mask : Nat} {pend : Pend} {o : Oper} {t t1 : Tr} {hp0 hp hp1 : List Blk} (h : opG P run M mask pend ops o t hp = some (t1, hp1)) (hz : zOk P M hp0 o t hp = true) (j : Nat) (hj : rowZ hp0 j = true) : Agr hp hp1 j := by
  have off : ∀ {L : List Nat}, offZ hp0 L = true → j ∉ L := by
    intro L hL hmem
    have := List.all_eq_true.1 hL j hmem
    rw [hj] at this; cases this
  unfold opG at h
  split at h
  · cases h
  · cases h; exact Agr.refl _ _
  · by_cases hpl : (plainB t o.op || nbOf ops) = true
    · rw [hpl, cond_true] at h
      unfold zOk at hz
      split at h
      · cases h
      · rename_i v hp2 hv
        rw [hv] at hz
        have h := condSome h
        cases h
        exact vop_agr hv j (fun hw => off (by rw [hw] at hz; exact hz))
      · rename_i f args hv
        rw [hv] at hz
        split at h
        · cases h
        · rename_i v hp2 hc
          cases h
          cases hl : light o.op with
          | true => rw [hl] at hc; cases hc
          | false =>
            rw [hl, cond_false] at hc
            unfold callG at hc
            split at hc
            · cases hc
            · rename_i args1 hp1' hfz
              simp only [hfz] at hz
              split at hc
              · rename_i r hp' hcv
                have hc := condSome hc
                cases hc
                exact callV_agr hfz hcv j (off hz)
              · cases hc
    · rw [Bool.eq_false_iff.2 hpl, cond_false] at h; cases h
theorem treeBz_ok {hp0 : List Blk} {leaf : Tr → List Blk → Bool} : ∀ (n : Nat) (listed : Array Bool) (pend : Pend) (t : Tr) (hp : List Blk), (∀ j, rowZ hp0 j = true → Agr hp0 hp j) → treeBz P run M ops (masks ops.toList) hp0 leaf n listed pend t hp = true →
    TreeOk P run M ops (fun t hp => (∀ j, rowZ hp0 j = true → Agr hp0 hp j) ∧ leaf t hp = true) n listed pend t hp
  | 0, listed, pend, t, hp, hA, h => by
    simp only [treeBz, Bool.and_eq_true] at h
    refine ⟨?_, hA, h.2⟩
    have := h.1
    unfold noneB at this
    split at this
    · assumption
    · cases this
  | n + 1, listed, pend, t, hp, hA, h => by
    simp only [treeBz] at h
    split at h
    · rename_i i hf
      obtain ⟨h1, h2⟩ := firstB_mem hf
      split at h
      · rename_i o ho
        split at h
        · rename_i t1 hp1 hop
          rw [Bool.and_eq_true] at h
          refine .inl ⟨i, o, t1, hp1, h1, ho, ?_, hop, treeBz_ok n _ _ _ _ (fun j hj => (hA j hj).trans (opG_agrZ hop h.1 j hj)) h.2⟩
          unfold isLight at h2
          rw [ho] at h2; exact h2
        · cases h
      · cases h
    · rw [Bool.and_eq_true] at h
      refine .inr ⟨fun e => ?_, fun i hi => ?_⟩
      · rw [e] at h; have := h.1; simp [noneB] at this
      · have := List.all_eq_true.1 h.2 i hi
        split at this
        · rename_i o ho
          split at this
          · rename_i t1 hp1 hop
            rw [Bool.and_eq_true] at this
            exact ⟨o, t1, hp1, ho, hop, treeBz_ok n _ _ _ _ (fun j hj => (hA j hj).trans (opG_agrZ hop this.1 j hj)) this.2⟩
          · cases this
        · cases this
theorem eqHz_ok : ∀ {old sub hpE : List Blk}, eqHz old sub hpE = true → (∀ (j : Nat) (b : Blk), old[j]? = some b → b.row = true → ∃ x : Blk, sub[j]? = some x ∧ x.cells = b.cells) → sub = fixZ old hpE
  | [], sub, hpE, h, _ => by
    simp only [eqHz] at h
    rw [eqH_ok h]
    cases hpE <;> rfl
  | b :: old, [], hpE, h, _ => by cases hpE <;> simp [eqHz] at h
  | b :: old, x :: sub, [], h, _ => by simp [eqHz] at h
  | b :: old, ⟨c, e, g, w, ro, k⟩ :: sub, ⟨c', e', g', w', ro', k'⟩ :: hpE, h, hc => by
    simp only [eqHz, Bool.and_eq_true] at h
    obtain ⟨⟨⟨⟨⟨⟨h1, h2⟩, h3⟩, h4⟩, h5⟩, h7⟩, h6⟩ := h
    have ih := eqHz_ok h6 (fun j b' hb hr => hc (j + 1) b' (by simpa using hb) hr)
    rw [ih, Nat.eq_of_beq_eq_true h2, Nat.eq_of_beq_eq_true h3, eq_of_beq h4, eq_of_beq h5, eqKs_ok h7]
    show _ = cond b.row _ _ :: _
    cases hr : b.row with
    | true =>
      obtain ⟨x, hx, hxc⟩ := hc 0 b rfl hr
      simp only [List.getElem?_cons_zero, Option.some.injEq] at hx
      subst hx
      simp only at hxc
      rw [hxc]; rfl
    | false =>
      rw [hr, cond_false] at h1
      rw [eqList_ok eqA_ok h1]; rfl
theorem leafz_alike {K : Nat} {tE : Tr} {hpE hp0 : List Blk} (t t' : Tr) (hp : List Blk) (ha : Alike t t') (h : leafBz K ds tE hpE hp0 t hp = true) : leafBz K ds tE hpE hp0 t' hp = true := by
  have e1 : canonJ hp K t' ds = canonJ hp K t ds := by
    unfold canonJ
    have : (fun d => ids (t'.get d)) = fun d => ids (t.get d) := funext fun d => by rw [ha d]
    rw [this]
  unfold leafBz at h ⊢
  rw [e1]
  have e2 : (fun d => eqX (ren (posOf (canonJ hp K t ds)) (t'.get d)) (tE.get d)) = fun d => eqX (ren (posOf (canonJ hp K t ds)) (t.get d)) (tE.get d) := funext fun d => by rw [ha d]
  rw [e2]; exact h
theorem canonJ_ok {hp : List Blk} {K : Nat} (hK : K ≤ hp.length) (t : Tr) (ds : List Nat) : (canonJ hp K t ds).Nodup ∧ (∀ i ∈ canonJ hp K t ds, i < hp.length) ∧ ∀ i, i < K → (canonJ hp K t ds)[i]? = some i := by
  obtain ⟨h1, h2⟩ := reach_ok hp 1000 ((ds.flatMap fun d => ids (t.get d)) ++ (hp.take K).flatMap fun b => cond b.row [] (b.cells.flatMap ids)) (List.range K) List.nodup_range (fun i hi => by simp at hi; omega)
  refine ⟨h1, h2, fun i hi => ?_⟩
  obtain ⟨l, hl⟩ := reach_pre' hp 1000 ((ds.flatMap fun d => ids (t.get d)) ++ (hp.take K).flatMap fun b => cond b.row [] (b.cells.flatMap ids)) (List.range K)
  unfold canonJ
  rw [hl, List.getElem?_append_left (by simpa using hi)]
  simp [hi]
variable {W0 : World} {O S0 : Nat → Prop} {m0 : EM}
/-- a region that draws its order, whose blocks come in any order -/
theorem treeR_ok {id : Nat} {Q : Exit → Act → World → Prop} {t : Tr} {hp : List Blk} {r : Tr × List Blk} {a : Act} {w : World} (hrun : RunOk P run) (hb : N < 16383) (hd : ∀ o ∈ ops.toList, ∀ d, o.dst = some d → d < N)
    (hm : P.follows .mixedOrders = true) (h : treeR P run M ops t hp = some r) (hs : Sim W0 O S0 m0 N t hp a w) (hQ : ∀ a' w', Sim W0 O S0 m0 N r.1 r.2 a' w' → Q .normal a' w') : (Code.region id ops true).wp P Q a w := by
  unfold treeR at h
  cases hpt : pairsT ops (masks ops.toList) (nbOf ops) with
  | false => rw [hpt] at h; cases h
  | true =>
    rw [hpt, cond_true] at h
    split at h
    · rename_i t0 hp0 _
      split at h
      · rename_i hpE _
        simp only at h
        generalize htE : (dstsOf ops).foldl (fun u d => u.set d (ren (posOf (canonJ hp0 hp.length t0 (dstsOf ops))) (t0.get d))) t = tE at h
        cases htr : treeB P run M ops (masks ops.toList) (leafB hp.length (dstsOf ops) tE hpE) ops.size (Array.replicate ops.size false) [] t hp with
        | false => rw [htr] at h; cases h
        | true =>
          rw [htr, cond_true] at h
          cases h
          have hmem : ∀ {i : Nat} {o : Oper}, ops[i]? = some o → o ∈ ops.toList := fun ho => by obtain ⟨hlt, e⟩ := Array.getElem?_eq_some_iff.1 ho; rw [← e]; simp
          have hdst : ∀ d ∈ dstsOf ops, d < 16383 := fun d hq => by
            obtain ⟨o, ho, e⟩ := List.mem_filterMap.1 hq
            exact Nat.lt_trans (hd o ho d e) hb
          refine wp_region_any hm ?_
          obtain ⟨mb, Sb, b1, b2, b3, b4, b5⟩ := hs
          have b1' : HS W0 O S0 m0 hp mb Sb w.drew := b1.drew
          have hself : HS w.drew (own0 hp mb) Sb mb hp mb Sb w.drew := by
            refine ⟨b1'.dom, b1'.blk, b1'.inj, b1'.sok, fun i b e pl k1 k2 k3 => ⟨(b1'.ro i b e pl k1 k2 k3).1, fun hr => ⟨((b1'.ro i b e pl k1 k2 k3).2 hr).1, .inl ⟨i, b, e, pl, k1, hr, k2, k3, rfl⟩⟩⟩, fun i e pl k1 k2 => .inr ⟨i, e, pl, k1, k2, rfl⟩, rfl, rfl, rfl, Nat.le_refl _, fun _ _ _ => rfl, fun b hb => .inl hb, fun _ h => h⟩
          refine wpAny_tree (ds := dstsOf ops) (wb := w.drew) (hpb := hp) (mb := mb) (Sb := Sb) (tb := t) (ab := a) hrun hb (fun i o ho => hd o (hmem ho)) (fun i o ho d e => List.mem_filterMap.2 ⟨o, hmem ho, e⟩) hpt (leaf := fun t1 hp1 => leafB hp.length (dstsOf ops) tE hpE t1 hp1 = true) (fun t1 t2 hp1 ha h => leaf_alike t1 t2 hp1 ha h) ?_ ops.size _ [] t hp a w.drew (by simp) ?_ (treeB_ok _ _ _ _ _ htr) ⟨mb, Sb, hself, Ext.refl _, b3.drew, b4, Keeps.refl _ _, fun _ h => h, rfl, fun _ _ => ⟨rfl, rfl⟩⟩
          · rintro t1 hp1 a' w' hl ⟨m, S, h1, h2, h3, h4, h5, h6, h7, h8⟩
            refine hQ a' w' ?_
            unfold leafB at hl
            have hK : hp.length ≤ hp1.length := by
              rcases Nat.lt_or_ge hp1.length hp.length with hlt | hge
              · exfalso
                obtain ⟨e, he⟩ := Option.isSome_iff_exists.1 ((b1'.dom hp1.length).1 hlt)
                obtain ⟨e', he', _⟩ := h2 hp1.length e he
                have := (h1.dom hp1.length).2 (by rw [he']; rfl)
                omega
              · exact hge
            obtain ⟨c1, c2, c3⟩ := canonJ_ok hK t1 (dstsOf ops)
            generalize canonJ hp1 hp.length t1 (dstsOf ops) = js at hl c1 c2 c3
            split at hl
            · rename_i sub hsub
              rw [Bool.and_eq_true] at hl
              have hE := eqH_ok hl.1
              subst hE
              obtain ⟨g1, g2⟩ := h1.gc c1 c2 hsub
              have hext : Ext mb (fun j => match js[j]? with | some i => m i | none => none) := by
                intro i e he
                obtain ⟨e', k1, k2⟩ := h2 i e he
                have hi := (b1'.dom i).2 (by rw [he]; rfl)
                exact ⟨e', by simp only [c3 i hi]; exact k1, k2⟩
              refine ⟨_, S, b1'.rebase g1, b2.trans hext, fun j => ?_, h4, ?_⟩
              · by_cases hj : j ∈ dstsOf ops
                · have := eqX_ok (List.all_eq_true.1 hl.2 j hj)
                  show R w' S _ (tE.get j) _
                  rw [← this]
                  exact ren_ok g2 _ _ (h3 j)
                · obtain ⟨k1, k2⟩ := h8 j hj
                  show R w' S _ (tE.get j) _
                  rw [← htE, foldl_set_get _ _ _ hdst hj, k1]
                  exact (b3.drew j).mono h5 h6 hext
              · rw [h7]
                exact (Marks.mono b5 (show Keeps Sb w w.drew from fun _ _ => rfl) (fun _ h => h)).mono h5 h6
            · cases hl
          · intro j hj
            exfalso
            by_cases hlt : j < ops.size
            · simp [hlt] at hj
            · simp [hlt] at hj
      · cases h
    · cases h
/-- the same, rows that are not come to left out of the comparison -/
theorem treeRz_ok {id : Nat} {Q : Exit → Act → World → Prop} {t : Tr} {hp : List Blk} {r : Tr × List Blk} {a : Act} {w : World} (hrun : RunOk P run) (hb : N < 16383) (hd : ∀ o ∈ ops.toList, ∀ d, o.dst = some d → d < N)
    (hm : P.follows .mixedOrders = true) (h : treeRz P run M ops t hp = some r) (hs : Sim W0 O S0 m0 N t hp a w) (hQ : ∀ a' w', Sim W0 O S0 m0 N r.1 r.2 a' w' → Q .normal a' w') : (Code.region id ops true).wp P Q a w := by
  unfold treeRz at h
  cases hpt : pairsT ops (masks ops.toList) (nbOf ops) with
  | false => rw [hpt] at h; cases h
  | true =>
    rw [hpt, cond_true] at h
    split at h
    · rename_i t0 hp0 _
      split at h
      · rename_i hpE _
        simp only at h
        generalize htE : (dstsOf ops).foldl (fun u d => u.set d (ren (posOf (canonJ hp0 hp.length t0 (dstsOf ops))) (t0.get d))) t = tE at h
        cases htr : treeBz P run M ops (masks ops.toList) hp (leafBz hp.length (dstsOf ops) tE hpE hp) ops.size (Array.replicate ops.size false) [] t hp with
        | false => rw [htr] at h; cases h
        | true =>
          rw [htr, cond_true] at h
          cases h
          have hmem : ∀ {i : Nat} {o : Oper}, ops[i]? = some o → o ∈ ops.toList := fun ho => by obtain ⟨hlt, e⟩ := Array.getElem?_eq_some_iff.1 ho; rw [← e]; simp
          have hdst : ∀ d ∈ dstsOf ops, d < 16383 := fun d hq => by
            obtain ⟨o, ho, e⟩ := List.mem_filterMap.1 hq
            exact Nat.lt_trans (hd o ho d e) hb
          refine wp_region_any hm ?_
          obtain ⟨mb, Sb, b1, b2, b3, b4, b5⟩ := hs
          have b1' : HS W0 O S0 m0 hp mb Sb w.drew := b1.drew
          have hself : HS w.drew (own0 hp mb) Sb mb hp mb Sb w.drew := by
            refine ⟨b1'.dom, b1'.blk, b1'.inj, b1'.sok, fun i b e pl k1 k2 k3 => ⟨(b1'.ro i b e pl k1 k2 k3).1, fun hr => ⟨((b1'.ro i b e pl k1 k2 k3).2 hr).1, .inl ⟨i, b, e, pl, k1, hr, k2, k3, rfl⟩⟩⟩, fun i e pl k1 k2 => .inr ⟨i, e, pl, k1, k2, rfl⟩, rfl, rfl, rfl, Nat.le_refl _, fun _ _ _ => rfl, fun b hb => .inl hb, fun _ h => h⟩
          refine wpAny_tree (ds := dstsOf ops) (wb := w.drew) (hpb := hp) (mb := mb) (Sb := Sb) (tb := t) (ab := a) hrun hb (fun i o ho => hd o (hmem ho)) (fun i o ho d e => List.mem_filterMap.2 ⟨o, hmem ho, e⟩) hpt (leaf := fun t1 hp1 => (∀ j, rowZ hp j = true → Agr hp hp1 j) ∧ leafBz hp.length (dstsOf ops) tE hpE hp t1 hp1 = true) (fun t1 t2 hp1 ha h => ⟨h.1, leafz_alike t1 t2 hp1 ha h.2⟩) ?_ ops.size _ [] t hp a w.drew (by simp) ?_ (treeBz_ok _ _ _ _ _ (fun j _ => Agr.refl _ _) htr) ⟨mb, Sb, hself, Ext.refl _, b3.drew, b4, Keeps.refl _ _, fun _ h => h, rfl, fun _ _ => ⟨rfl, rfl⟩⟩
          · rintro t1 hp1 a' w' hl ⟨m, S, h1, h2, h3, h4, h5, h6, h7, h8⟩
            refine hQ a' w' ?_
            obtain ⟨hag, hl⟩ := hl
            unfold leafBz at hl
            have hK : hp.length ≤ hp1.length := by
              rcases Nat.lt_or_ge hp1.length hp.length with hlt | hge
              · exfalso
                obtain ⟨e, he⟩ := Option.isSome_iff_exists.1 ((b1'.dom hp1.length).1 hlt)
                obtain ⟨e', he', _⟩ := h2 hp1.length e he
                have := (h1.dom hp1.length).2 (by rw [he']; rfl)
                omega
              · exact hge
            obtain ⟨c1, c2, c3⟩ := canonJ_ok hK t1 (dstsOf ops)
            generalize canonJ hp1 hp.length t1 (dstsOf ops) = js at hl c1 c2 c3
            split at hl
            · rename_i sub hsub
              rw [Bool.and_eq_true] at hl
              have hE := eqHz_ok hl.1 (fun j b hb hr => by
                have hlt := (List.getElem?_eq_some_iff.1 hb).1
                obtain ⟨b', k1, k2, _, _, k5, _⟩ := hag j (by unfold rowZ; rw [hb]; exact hr) b hb
                obtain ⟨b0, q1, q2⟩ := (pickB_ok hsub).2 j j (c3 j hlt)
                rw [k1] at q1
                cases q1
                refine ⟨_, q2, ?_⟩
                unfold renB
                rw [k5, hr]
                exact k2)
              subst hE
              obtain ⟨g1, g2⟩ := h1.gc c1 c2 hsub
              have hext : Ext mb (fun j => match js[j]? with | some i => m i | none => none) := by
                intro i e he
                obtain ⟨e', k1, k2⟩ := h2 i e he
                have hi := (b1'.dom i).2 (by rw [he]; rfl)
                exact ⟨e', by simp only [c3 i hi]; exact k1, k2⟩
              refine ⟨_, S, b1'.rebase g1, b2.trans hext, fun j => ?_, h4, ?_⟩
              · by_cases hj : j ∈ dstsOf ops
                · have := eqX_ok (List.all_eq_true.1 hl.2 j hj)
                  show R w' S _ (tE.get j) _
                  rw [← this]
                  exact ren_ok g2 _ _ (h3 j)
                · obtain ⟨k1, k2⟩ := h8 j hj
                  show R w' S _ (tE.get j) _
                  rw [← htE, foldl_set_get _ _ _ hdst hj, k1]
                  exact (b3.drew j).mono h5 h6 hext
              · rw [h7]
                exact (Marks.mono b5 (show Keeps Sb w w.drew from fun _ _ => rfl) (fun _ h => h)).mono h5 h6
            · cases hl
          · intro j hj
            exfalso
            by_cases hlt : j < ops.size
            · simp [hlt] at hj
            · simp [hlt] at hj
      · cases h
    · cases h
end
end Go.Vm

/- Regions that draw their order: one order serves all; the end of the proof. -/
import Derived.Test.YtlemialjfnbchaaVmD5
namespace Go.Vm
open Go

section
variable {P : Program} {run : FuncId → List AV → List Blk → Option (AV × List Blk)} {M : Mode} {ops : Array Oper}

theorem Alike.refl (t : Tr) : Alike t t := fun _ => rfl
theorem Alike.symm {t t' : Tr} (h : Alike t t') : Alike t' t := fun i => (h i).symm
theorem Alike.trans {a b c : Tr} (h : Alike a b) (k : Alike b c) : Alike a c := fun i => (h i).trans (k i)
theorem Alike.put {t t' : Tr} (h : Alike t t') {d : Option Tmp} (hb : ∀ i, d = some i → i < 16383) (v : AV) : Alike (putV t d v) (putV t' d v) := by
  cases d with
  | none => exact h
  | some d =>
    intro k
    show (t.set d v).get k = (t'.set d v).get k
    rw [Tr.get_set _ d k _ (hb d rfl), Tr.get_set _ d k _ (hb d rfl), h k]

theorem planV_congr (hd : ∀ (i : Nat) (o : Oper), ops[i]? = some o → ∀ d, o.dst = some d → d < 16383) {ms : List Nat} {hp2 : List Blk} : ∀ (l : List Nat) (pend pend' : Pend) (t t' t2 : Tr) (hp : List Blk), Alike t t' → (∀ q ∈ pend', q ∈ pend) →
    planV P run M ops ms l pend t hp = some (t2, hp2) → ∃ t2', planV P run M ops ms l pend' t' hp = some (t2', hp2) ∧ Alike t2 t2'
  | [], pend, pend', t, t', t2, hp, ha, hs, h => by
    simp only [planV] at h ⊢
    cases h
    exact ⟨t', rfl, ha⟩
  | i :: l, pend, pend', t, t', t2, hp, ha, hs, h => by
    simp only [planV] at h ⊢
    split at h
    · cases h
    · rename_i o ho
      split at h
      · rename_i t1 hp1 h1
        obtain ⟨v, e1, h2⟩ := opG_congr (t' := t') (fun x _ => ha.ev x) (fun _ _ _ d _ => ha d) h1
        have h3 := opG_mono hs h2
        simp only [h3]
        subst e1
        exact planV_congr hd l _ _ _ _ t2 hp1 (ha.put (fun d e => hd i o ho d e) v) (fun q hq => by
          rcases List.mem_cons.1 hq with rfl | hq
          · rw [readR_congr (t := t') (t' := t) (fun x _ => (ha.ev x).symm)]; exact List.mem_cons_self ..
          · exact List.mem_cons_of_mem _ (hs q hq)) h
      · cases h

/-- one that is ready may come first -/
theorem plan_comm (hd : ∀ (i : Nat) (o : Oper), ops[i]? = some o → ∀ d, o.dst = some d → d < 16383) {ms : List Nat} {i : Nat} {oi : Oper} (hi : ops[i]? = some oi) {r : List Nat} {hp2 : List Blk} : ∀ (l : List Nat) (pend : Pend) (t t2 : Tr) (hp : List Blk),
    (∀ x ∈ l, (ms.getD i 0).testBit x = false ∧ ∃ ox, ops[x]? = some ox ∧ light ox.op = true ∧ (nbOf ops = true → isBS ox.op = false) ∧ Oper.apart ops ox oi = true) → planV P run M ops ms (l ++ i :: r) pend t hp = some (t2, hp2) →
    ∃ t1 hp1, opG P run M (ms.getD i 0) pend ops oi t hp = some (t1, hp1) ∧ ∃ t3, planV P run M ops ms (l ++ r) ((i, readR t oi) :: pend) t1 hp1 = some (t3, hp2) ∧ Alike t2 t3
  | [], pend, t, t2, hp, hl, h => by
    simp only [List.nil_append, planV, hi] at h ⊢
    split at h
    · rename_i t1 hp1 h1
      exact ⟨t1, hp1, h1, t2, h, Alike.refl _⟩
    · cases h
  | x :: l, pend, t, t2, hp, hl, h => by
    obtain ⟨hm, ox, hox, hlx, hnx, hap⟩ := hl x (by simp)
    rw [List.cons_append] at h
    simp only [planV, hox] at h
    split at h
    · rename_i tx hpx h1
      obtain ⟨ti, hpi, h2, t3, h3, h4⟩ := plan_comm hd hi l _ tx t2 hpx (fun y hy => hl y (by simp [hy])) h
      obtain ⟨t1, k1, k2, k3, k4⟩ := swap hlx hnx hap hm (fun d e => hd x ox hox d e) (fun d e => hd i oi hi d e) h1 h2
      refine ⟨t1, hpi, k1, ?_⟩
      obtain ⟨t1', k5, k6⟩ := k4 (ms.getD x 0) ((i, readR t oi) :: pend)
      rw [List.cons_append]
      simp only [planV, hox, k5]
      obtain ⟨t3', k7, k8⟩ := planV_congr hd (l ++ r) _ ((x, readR t1 ox) :: (i, readR t oi) :: pend) ti t1' t3 hpi k6.symm (fun q hq => by
        rw [k2] at hq
        rw [k3]
        simp only [List.mem_cons] at hq ⊢
        rcases hq with rfl | rfl | hq
        · exact .inr (.inl rfl)
        · exact .inl rfl
        · exact .inr (.inr hq)) h3
      exact ⟨t3', k7, h4.trans k8⟩
    · cases h

def Lin (ops : Array Oper) : List Nat → (Nat → Prop) → Prop
  | [], _ => True
  | x :: r, L => (∃ o, ops[x]? = some o ∧ ∀ e ∈ o.after.toList, Region.binds .any e = true → L e.on) ∧ Lin ops r (fun j => L j ∨ j = x)
theorem Lin.mono : ∀ (l : List Nat) {L L' : Nat → Prop}, (∀ j, L j → L' j) → Lin ops l L → Lin ops l L'
  | [], _, _, _, _ => trivial
  | _x :: r, _L, _L', h, ⟨⟨o, h1, h2⟩, h3⟩ => ⟨⟨o, h1, fun e he hb => h _ (h2 e he hb)⟩, Lin.mono r (fun j hj => hj.elim (fun q => .inl (h j q)) .inr) h3⟩
theorem Lin.del (i : Nat) (r : List Nat) : ∀ (l : List Nat) {L : Nat → Prop}, Lin ops (l ++ i :: r) L → Lin ops (l ++ r) (fun j => L j ∨ j = i)
  | [], _, ⟨_, h⟩ => h
  | x :: l, L, ⟨⟨o, h1, h2⟩, h3⟩ => ⟨⟨o, h1, fun e he hb => .inl (h2 e he hb)⟩, Lin.mono (l ++ r) (fun j hj => by rcases hj with (hj | hj) | hj; exact .inl (.inl hj); exact .inr hj; exact .inl (.inr hj)) (Lin.del i r l h3)⟩
theorem lin_ok : ∀ (l done : List Nat), linB ops l done = true → Lin ops l (fun j => j ∈ done) ∧ l.Nodup ∧ ∀ x ∈ l, x ∉ done
  | [], done, _ => ⟨trivial, List.nodup_nil, fun x hx => by simp at hx⟩
  | i :: r, done, h => by
    simp only [linB, Bool.and_eq_true, Bool.not_eq_true'] at h
    obtain ⟨⟨h1, h2⟩, h3⟩ := h
    obtain ⟨k1, k2, k3⟩ := lin_ok r (i :: done) h3
    have hnd : i ∉ done := fun hm => by rw [(memB_ok i done).2 hm] at h2; cases h2
    refine ⟨⟨?_, Lin.mono r (fun j hj => by rcases List.mem_cons.1 hj with rfl | hj; exact .inr rfl; exact .inl hj) k1⟩, List.nodup_cons.2 ⟨fun hm => k3 i hm (by simp), k2⟩, ?_⟩
    · split at h1
      · rename_i o ho
        refine ⟨o, ho, fun e he hb => ?_⟩
        have := List.all_eq_true.1 h1 e he
        rw [hb] at this
        exact (memB_ok _ _).1 (by simpa using this)
      · cases h1
    · intro x hx
      rcases List.mem_cons.1 hx with rfl | hx
      · exact hnd
      · exact fun hm => k3 x hx (by simp [hm])
theorem pairs_split {ms : List Nat} {i : Nat} {r : List Nat} : ∀ (l : List Nat), pairsOk ops ms (l ++ i :: r) = true →
    (∀ x ∈ l, (ms.getD i 0).testBit x = true ∨ ∃ ox oi, ops[x]? = some ox ∧ ops[i]? = some oi ∧ light ox.op = true ∧ Oper.apart ops ox oi = true) ∧ pairsOk ops ms (l ++ r) = true
  | [], h => by
    simp only [List.nil_append, pairsOk, Bool.and_eq_true] at h
    exact ⟨fun x hx => by simp at hx, h.2⟩
  | x :: l, h => by
    rw [List.cons_append] at h
    simp only [pairsOk, Bool.and_eq_true] at h
    obtain ⟨h1, h2⟩ := h
    obtain ⟨k1, k2⟩ := pairs_split l h2
    refine ⟨fun y hy => ?_, ?_⟩
    · rcases List.mem_cons.1 hy with rfl | hy
      · have := List.all_eq_true.1 h1 i (by simp)
        rw [Bool.or_eq_true] at this
        refine this.imp id (fun q => ?_)
        split at q
        · rename_i ox oi e1 e2
          rw [Bool.and_eq_true] at q
          exact ⟨ox, oi, e1, e2, q.1, q.2⟩
        · cases q
      · exact k1 y hy
    · rw [List.cons_append]
      simp only [pairsOk, Bool.and_eq_true]
      refine ⟨List.all_eq_true.2 (fun y hy => List.all_eq_true.1 h1 y ?_), k2⟩
      rcases List.mem_append.1 hy with hy | hy
      · simp [hy]
      · simp [hy]

theorem pairsN_split {ms : List Nat} {i : Nat} {r : List Nat} : ∀ (l : List Nat), pairsN ops ms (l ++ i :: r) = true →
    (∀ x ∈ l, (ms.getD i 0).testBit x = true ∨ ∃ ox, ops[x]? = some ox ∧ isBS ox.op = false) ∧ pairsN ops ms (l ++ r) = true
  | [], h => by
    simp only [List.nil_append, pairsN, Bool.and_eq_true] at h
    exact ⟨fun x hx => by simp at hx, h.2⟩
  | x :: l, h => by
    rw [List.cons_append] at h
    simp only [pairsN, Bool.and_eq_true] at h
    obtain ⟨h1, h2⟩ := h
    obtain ⟨k1, k2⟩ := pairsN_split l h2
    refine ⟨fun y hy => ?_, ?_⟩
    · rcases List.mem_cons.1 hy with rfl | hy
      · have := List.all_eq_true.1 h1 i (by simp)
        rw [Bool.or_eq_true] at this
        refine this.imp id (fun q => ?_)
        split at q
        · rename_i ox e1
          exact ⟨ox, e1, by simpa using q⟩
        · cases q
      · exact k1 y hy
    · rw [List.cons_append]
      simp only [pairsN, Bool.and_eq_true]
      refine ⟨List.all_eq_true.2 (fun y hy => List.all_eq_true.1 h1 y ?_), k2⟩
      rcases List.mem_append.1 hy with hy | hy
      · simp [hy]
      · simp [hy]

variable {W0 : World} {O S0 : Nat → Prop} {m0 : EM} {N : Nat}

theorem wpAny_plan (hrun : RunOk P run) (hb : N < 16383) (hd : ∀ (i : Nat) (o : Oper), ops[i]? = some o → ∀ d, o.dst = some d → d < N) {Q : Exit → Act → World → Prop} {hp2 : List Blk} :
    ∀ (fuel : Nat) (rest : List Nat) (pend : Pend) (listed : Array Bool) (t t2 : Tr) (hp : List Blk) (a : Act) (w : World), rest.length = fuel → (∀ x, x ∈ rest ↔ x < ops.size ∧ listed.getD x true = false) → rest.Nodup → listed.size = ops.size →
      Down ops.toList (fun j => listed.getD j false = true) → Lin ops rest (fun j => listed.getD j false = true) → pairsOk ops (masks ops.toList) rest = true → (nbOf ops = true → pairsN ops (masks ops.toList) rest = true) → planV P run M ops (masks ops.toList) rest pend t hp = some (t2, hp2) → Sim W0 O S0 m0 N t hp a w →
      (∀ t3 a' w', Alike t2 t3 → Sim W0 O S0 m0 N t3 hp2 a' w' → Q .normal a' w') → wpAny P .any ops Q fuel listed a w
  | 0, rest, pend, listed, t, t2, hp, a, w, hlen, hun, hnd, hsz, hdown, hlin, hpairs, hpn, h, hs, hQ => by
    have : rest = [] := List.eq_nil_of_length_eq_zero hlen
    subst this
    simp only [planV] at h
    cases h
    refine ⟨?_, hQ t a w (Alike.refl _) hs⟩
    refine List.eq_nil_iff_forall_not_mem.2 (fun j hj => ?_)
    obtain ⟨h1, o, ho, _⟩ := mem_ready.1 hj
    have := (hun j).2 ⟨(Array.getElem?_eq_some_iff.1 ho).1, h1⟩
    simp at this
  | fuel + 1, rest, pend, listed, t, t2, hp, a, w, hlen, hun, hnd, hsz, hdown, hlin, hpairs, hpn, h, hs, hQ => by
    have hd' : ∀ (i : Nat) (o : Oper), ops[i]? = some o → ∀ d, o.dst = some d → d < 16383 := fun i o ho d e => Nat.lt_trans (hd i o ho d e) hb
    have unl : ∀ j, listed.getD j true = false → listed.getD j false ≠ true := fun j h1 h2 => by
      rcases Nat.lt_or_ge j listed.size with h' | h'
      · simp [h'] at h1 h2; rw [h1] at h2; cases h2
      · simp [Array.getElem?_eq_none h'] at h2
    refine ⟨fun hr => ?_, fun i hi => ?_⟩
    · exfalso
      match rest, hlen with
      | x :: r, _ =>
        obtain ⟨⟨o, ho, hall⟩, _⟩ := hlin
        have : x ∈ Region.ready .any ops listed := mem_ready.2 ⟨((hun x).1 (by simp)).2, o, ho, fun e he hb => hall e (by simpa using he) hb⟩
        rw [hr] at this
        simp at this
    · obtain ⟨h1, oi, hoi, hall⟩ := mem_ready.1 hi
      have hmem : i ∈ rest := (hun i).2 ⟨(Array.getElem?_eq_some_iff.1 hoi).1, h1⟩
      obtain ⟨l, r, rfl⟩ := List.append_of_mem hmem
      obtain ⟨hp1', hp2'⟩ := pairs_split l hpairs
      have hl : ∀ x ∈ l, ((masks ops.toList).getD i 0).testBit x = false ∧ ∃ ox, ops[x]? = some ox ∧ light ox.op = true ∧ (nbOf ops = true → isBS ox.op = false) ∧ Oper.apart ops ox oi = true := by
        intro x hx
        have hnm : ((masks ops.toList).getD i 0).testBit x = false := by
          rw [Bool.eq_false_iff]
          intro hbit
          have := masks_ok ops.toList i x hbit _ hdown (fun o ho e he hb => hall e (by
            have : o = oi := by rw [Array.getElem?_toList, hoi] at ho; cases ho; rfl
            subst this; simpa using he) hb)
          exact unl x ((hun x).1 (by simp [hx])).2 this
        refine ⟨hnm, ?_⟩
        rcases hp1' x hx with q | ⟨ox, oi', q1, q2, q3, q4⟩
        · rw [hnm] at q; cases q
        · rw [hoi] at q2; cases q2
          refine ⟨ox, q1, q3, fun hn => ?_, q4⟩
          rcases (pairsN_split l (hpn hn)).1 x hx with p | ⟨ox', p1, p2⟩
          · rw [hnm] at p; cases p
          · rw [q1] at p1; cases p1; exact p2
      obtain ⟨t1, hp1, k1, t3, k2, k3⟩ := plan_comm hd' hoi l pend t t2 hp hl h
      refine opV_ok hrun hoi (hd i oi hoi) hb (opG_opV k1) hs (fun a' w' hs' => ?_)
      have hni : i ∉ l ++ r := by
        rw [List.nodup_append] at hnd
        obtain ⟨n1, n2, n3⟩ := hnd
        intro hm
        rcases List.mem_append.1 hm with hm | hm
        · exact n3 i hm i (by simp) rfl
        · exact (List.nodup_cons.1 n2).1 hm
      have hlt : i < listed.size := by rw [hsz]; exact (Array.getElem?_eq_some_iff.1 hoi).1
      have hset : (listed.setIfInBounds i true).getD i false = true := by simp [hlt]
      refine wpAny_plan hrun hb hd fuel (l ++ r) _ (listed.setIfInBounds i true) t1 t3 hp1 a' w' ?_ ?_ ?_ ?_ ?_ ?_ hp2' (fun hn => (pairsN_split l (hpn hn)).2) k2 hs' (fun t4 a2 w2 ha2 hs2 => hQ t4 a2 w2 (k3.trans ha2) hs2)
      · simp only [List.length_append, List.length_cons] at hlen ⊢; omega
      · intro x
        constructor
        · intro hx
          have hne : i ≠ x := fun e => hni (e ▸ hx)
          rw [getD_set_ne true hne]
          exact (hun x).1 (by rcases List.mem_append.1 hx with hx | hx <;> simp [hx])
        · rintro ⟨g1, g2⟩
          have hne : i ≠ x := fun e => by subst e; simp [hlt] at g2
          rw [getD_set_ne true hne] at g2
          have := (hun x).2 ⟨g1, g2⟩
          simp only [List.mem_append, List.mem_cons] at this ⊢
          rcases this with q | q | q
          · exact .inl q
          · exact absurd q.symm hne
          · exact .inr q
      · rw [List.nodup_append] at hnd ⊢
        obtain ⟨n1, n2, n3⟩ := hnd
        exact ⟨n1, (List.nodup_cons.1 n2).2, fun a ha b hb => n3 a ha b (by simp [hb])⟩
      · simp [hsz]
      · intro j hj o ho e he hbd
        by_cases hji : i = j
        · subst hji
          refine getD_set_true (hall e ?_ hbd)
          have : o = oi := by rw [Array.getElem?_toList, hoi] at ho; cases ho; rfl
          subst this; simpa using he
        · rw [getD_set_ne false hji] at hj
          exact getD_set_true (hdown j hj o ho e he hbd)
      · refine Lin.mono _ (fun j hj => ?_) (Lin.del i r l hlin)
        rcases hj with hj | rfl
        · exact getD_set_true hj
        · exact hset

/-- a region that draws its order -/
theorem planV_ok {id : Nat} {Q : Exit → Act → World → Prop} {t t' : Tr} {hp hp' : List Blk} {a : Act} {w : World} (hrun : RunOk P run) (hb : N < 16383) (hd : ∀ o ∈ ops.toList, ∀ d, o.dst = some d → d < N)
    (hm : P.follows .mixedOrders = true) (hok : planOk ops (planOf ops) = true) (h : planV P run M ops (masks ops.toList) (planOf ops) [] t hp = some (t', hp')) (hs : Sim W0 O S0 m0 N t hp a w) (hQ : ∀ a' w', Sim W0 O S0 m0 N t' hp' a' w' → Q .normal a' w') :
    (Code.region id ops true).wp P Q a w := by
  unfold planOk at hok
  simp only [Bool.and_eq_true] at hok
  obtain ⟨⟨⟨⟨⟨o1, o2⟩, o3⟩, o4⟩, o5⟩, o6⟩ := hok
  obtain ⟨l1, l2, l3⟩ := lin_ok _ _ o2
  refine wp_region_any hm ?_
  have hs1 : Sim W0 O S0 m0 N t hp a w.drew := by
    obtain ⟨m, S, k1, k2, k3, k4, k5⟩ := hs
    exact ⟨m, S, k1.drew, k2, k3.drew, k4, k5⟩
  refine wpAny_plan hrun hb (fun i o ho => hd o (by obtain ⟨hlt, e⟩ := Array.getElem?_eq_some_iff.1 ho; rw [← e]; simp)) ops.size (planOf ops) [] (Array.replicate ops.size false) t t' hp a w.drew (Nat.eq_of_beq_eq_true o1) ?_ l2 (by simp) ?_ ?_ o3 (fun hn => hn) h hs1 ?_
  · intro x
    constructor
    · intro hx
      have := List.all_eq_true.1 o5 x hx
      cases hq : ops[x]? with
      | none => rw [hq] at this; cases this
      | some o =>
        have hlt := (Array.getElem?_eq_some_iff.1 hq).1
        exact ⟨hlt, by simp [hlt]⟩
    · rintro ⟨hx, _⟩
      exact (memB_ok _ _).1 (List.all_eq_true.1 o4 x (List.mem_range.2 hx))
  · intro j hj
    exfalso
    by_cases hlt : j < ops.size
    · simp [hlt] at hj
    · simp [hlt] at hj
  · exact Lin.mono _ (fun j hj => by simp at hj) l1
  · intro t3 a' w' ha hs'
    refine hQ a' w' ?_
    obtain ⟨m, S, k1, k2, k3, k4, k5⟩ := hs'
    exact ⟨m, S, k1, k2, fun i => by rw [ha i]; exact k3 i, k4, k5⟩
end
end Go.Vm

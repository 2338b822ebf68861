/- Regions that draw their order, some of whose operations are told by others that only read. -/
import Derived.Test.YtdahjdfjpckdcaaVmE
namespace Go.Vm
open Go
section
variable {P : Program} {run : FuncId → List AV → List Blk → Option (AV × List Blk)} {M : Mode} {ops ops' : Array Oper}
/-- each operation does what its stand-in does -/
def Stands (P : Program) (run : FuncId → List AV → List Blk → Option (AV × List Blk)) (M : Mode) (ops ops' : Array Oper) : Prop :=
  ops.size = ops'.size ∧ ∀ (i : Nat) (o' : Oper), ops'[i]? = some o' → ∃ o, ops[i]? = some o ∧ o'.dst = o.dst ∧ o'.after = o.after ∧ ∀ t hp r, opV P run M ops' o' t hp = some r → opV P run M ops o t hp = some r
theorem Stands.ready (h : Stands P run M ops ops') (listed : Array Bool) (i : Nat) : i ∈ Region.ready .any ops listed ↔ i ∈ Region.ready .any ops' listed := by
  constructor
  · intro hi
    obtain ⟨h1, o, ho, hall⟩ := mem_ready.1 hi
    have hlt : i < ops'.size := by rw [← h.1]; exact (Array.getElem?_eq_some_iff.1 ho).1
    obtain ⟨o2, e1, _, e3, _⟩ := h.2 i ops'[i] (by simp [hlt])
    rw [ho] at e1; cases e1
    exact mem_ready.2 ⟨h1, ops'[i], by simp [hlt], fun e he => hall e (by rw [← e3]; exact he)⟩
  · intro hi
    obtain ⟨h1, o', ho', hall⟩ := mem_ready.1 hi
    obtain ⟨o, e1, _, e3, _⟩ := h.2 i o' ho'
    exact mem_ready.2 ⟨h1, o, e1, fun e he => hall e (by rw [e3]; exact he)⟩
variable {W0 : World} {O S0 : Nat → Prop} {m0 : EM} {N : Nat}
theorem wpAny_swap (hst : Stands P run M ops ops') (hrun : RunOk P run) (hb : N < 16383) (hd : ∀ (i : Nat) (o : Oper), ops'[i]? = some o → ∀ d, o.dst = some d → d < N) {Q : Exit → Act → World → Prop} {hp2 : List Blk} :
    ∀ (fuel : Nat) (rest : List Nat) (pend : List (Nat × List Nat)) (listed : Array Bool) (t t2 : Tr) (hp : List Blk) (a : Act) (w : World), rest.length = fuel → (∀ x, x ∈ rest ↔ x < ops'.size ∧ listed.getD x true = false) → rest.Nodup → listed.size = ops'.size →
      Down ops'.toList (fun j => listed.getD j false = true) → Lin ops' rest (fun j => listed.getD j false = true) → pairsOk ops' (masks ops'.toList) rest = true → planV P run M ops' (masks ops'.toList) rest pend t hp = some (t2, hp2) → Sim W0 O S0 m0 N t hp a w →
      (∀ t3 a' w', Alike t2 t3 → Sim W0 O S0 m0 N t3 hp2 a' w' → Q .normal a' w') → wpAny P .any ops Q fuel listed a w
  | 0, rest, pend, listed, t, t2, hp, a, w, hlen, hun, hnd, hsz, hdown, hlin, hpairs, h, hs, hQ => by
    have : rest = [] := List.eq_nil_of_length_eq_zero hlen
    subst this
    simp only [planV] at h
    cases h
    refine ⟨?_, hQ t a w (Alike.refl _) hs⟩
    refine List.eq_nil_iff_forall_not_mem.2 (fun j hj => ?_)
    obtain ⟨h1, o, ho, _⟩ := mem_ready.1 ((hst.ready listed j).1 hj)
    have := (hun j).2 ⟨(Array.getElem?_eq_some_iff.1 ho).1, h1⟩
    simp at this
  | fuel + 1, rest, pend, listed, t, t2, hp, a, w, hlen, hun, hnd, hsz, hdown, hlin, hpairs, h, hs, hQ => by
    have hd' : ∀ (i : Nat) (o : Oper), ops'[i]? = some o → ∀ d, o.dst = some d → d < 16383 := fun i o ho d e => Nat.lt_trans (hd i o ho d e) hb
    have unl : ∀ j, listed.getD j true = false → listed.getD j false ≠ true := fun j h1 h2 => by
      rcases Nat.lt_or_ge j listed.size with h' | h'
      · simp [h'] at h1 h2; rw [h1] at h2; cases h2
      · simp [Array.getElem?_eq_none h'] at h2
    refine ⟨fun hr => ?_, fun i hi => ?_⟩
    · exfalso
      match rest, hlen with
      | x :: r, _ =>
        obtain ⟨⟨o, ho, hall⟩, _⟩ := hlin
        have : x ∈ Region.ready .any ops' listed := mem_ready.2 ⟨((hun x).1 (by simp)).2, o, ho, fun e he hb => hall e (by simpa using he) hb⟩
        have := (hst.ready listed x).2 this
        rw [hr] at this
        simp at this
    · obtain ⟨h1, oi, hoi, hall⟩ := mem_ready.1 ((hst.ready listed i).1 hi)
      have hmem : i ∈ rest := (hun i).2 ⟨(Array.getElem?_eq_some_iff.1 hoi).1, h1⟩
      obtain ⟨l, r, rfl⟩ := List.append_of_mem hmem
      obtain ⟨hp1', hp2'⟩ := pairs_split l hpairs
      have hl : ∀ x ∈ l, ((masks ops'.toList).getD i 0).testBit x = false ∧ ∃ ox, ops'[x]? = some ox ∧ light ox.op = true ∧ Oper.apart ops' ox oi = true := by
        intro x hx
        have hnm : ((masks ops'.toList).getD i 0).testBit x = false := by
          rw [Bool.eq_false_iff]
          intro hbit
          have := masks_ok ops'.toList i x hbit _ hdown (fun o ho e he hb => hall e (by
            have : o = oi := by rw [Array.getElem?_toList, hoi] at ho; cases ho; rfl
            subst this; simpa using he) hb)
          exact unl x ((hun x).1 (by simp [hx])).2 this
        refine ⟨hnm, ?_⟩
        rcases hp1' x hx with q | ⟨ox, oi', q1, q2, q3, q4⟩
        · rw [hnm] at q; cases q
        · rw [hoi] at q2; cases q2; exact ⟨ox, q1, q3, q4⟩
      obtain ⟨t1, hp1, k1, t3, k2, k3⟩ := plan_comm hd' hoi l pend t t2 hp hl h
      obtain ⟨o, g1, g2, g3, g4⟩ := hst.2 i oi hoi
      refine opV_ok hrun g1 (fun d e => hd i oi hoi d (by rw [g2]; exact e)) hb (g4 _ _ _ (opG_opV k1)) hs (fun a' w' hs' => ?_)
      have hni : i ∉ l ++ r := by
        rw [List.nodup_append] at hnd
        obtain ⟨n1, n2, n3⟩ := hnd
        intro hm
        rcases List.mem_append.1 hm with hm | hm
        · exact n3 i hm i (by simp) rfl
        · exact (List.nodup_cons.1 n2).1 hm
      have hlt : i < listed.size := by rw [hsz]; exact (Array.getElem?_eq_some_iff.1 hoi).1
      have hset : (listed.setIfInBounds i true).getD i false = true := by simp [hlt]
      refine wpAny_swap hst hrun hb hd fuel (l ++ r) _ (listed.setIfInBounds i true) t1 t3 hp1 a' w' ?_ ?_ ?_ ?_ ?_ ?_ hp2' k2 hs' (fun t4 a2 w2 ha2 hs2 => hQ t4 a2 w2 (k3.trans ha2) hs2)
      · simp only [List.length_append, List.length_cons] at hlen ⊢; omega
      · intro x
        constructor
        · intro hx
          have hne : i ≠ x := fun e => hni (e ▸ hx)
          rw [getD_set_ne true hne]
          exact (hun x).1 (by rcases List.mem_append.1 hx with hx | hx <;> simp [hx])
        · rintro ⟨g1, g2⟩
          have hne : i ≠ x := fun e => by subst e; simp [hlt] at g2
          rw [getD_set_ne true hne] at g2
          have := (hun x).2 ⟨g1, g2⟩
          simp only [List.mem_append, List.mem_cons] at this ⊢
          rcases this with q | q | q
          · exact .inl q
          · exact absurd q.symm hne
          · exact .inr q
      · rw [List.nodup_append] at hnd ⊢
        obtain ⟨n1, n2, n3⟩ := hnd
        exact ⟨n1, (List.nodup_cons.1 n2).2, fun a ha b hb => n3 a ha b (by simp [hb])⟩
      · simp [hsz]
      · intro j hj o ho e he hbd
        by_cases hji : i = j
        · subst hji
          refine getD_set_true (hall e ?_ hbd)
          have : o = oi := by rw [Array.getElem?_toList, hoi] at ho; cases ho; rfl
          subst this; simpa using he
        · rw [getD_set_ne false hji] at hj
          exact getD_set_true (hdown j hj o ho e he hbd)
      · refine Lin.mono _ (fun j hj => ?_) (Lin.del i r l hlin)
        rcases hj with hj | rfl
        · exact getD_set_true hj
        · exact hset
theorem planV_swap {id : Nat} {Q : Exit → Act → World → Prop} {t t' : Tr} {hp hp' : List Blk} {a : Act} {w : World} (hst : Stands P run M ops ops') (hrun : RunOk P run) (hb : N < 16383) (hd : ∀ o ∈ ops'.toList, ∀ d, o.dst = some d → d < N)
    (hm : P.follows .mixedOrders = true) (hok : planOk ops' (planOf ops') = true) (h : planV P run M ops' (masks ops'.toList) (planOf ops') [] t hp = some (t', hp')) (hs : Sim W0 O S0 m0 N t hp a w) (hQ : ∀ a' w', Sim W0 O S0 m0 N t' hp' a' w' → Q .normal a' w') :
    (Code.region id ops true).wp P Q a w := by
  unfold planOk at hok
  simp only [Bool.and_eq_true] at hok
  obtain ⟨⟨⟨⟨⟨o1, o2⟩, o3⟩, o4⟩, o5⟩, o6⟩ := hok
  obtain ⟨l1, l2, l3⟩ := lin_ok _ _ o2
  refine wp_region_any hm ?_
  have hs1 : Sim W0 O S0 m0 N t hp a w.drew := by
    obtain ⟨m, S, k1, k2, k3, k4, k5⟩ := hs
    exact ⟨m, S, k1.drew, k2, k3.drew, k4, k5⟩
  rw [hst.1]
  refine wpAny_swap hst hrun hb (fun i o ho => hd o (by obtain ⟨hlt, e⟩ := Array.getElem?_eq_some_iff.1 ho; rw [← e]; simp)) ops'.size (planOf ops') [] (Array.replicate ops'.size false) t t' hp a w.drew (Nat.eq_of_beq_eq_true o1) ?_ l2 (by simp) ?_ ?_ o3 h hs1 ?_
  · intro x
    constructor
    · intro hx
      have := List.all_eq_true.1 o5 x hx
      cases hq : ops'[x]? with
      | none => rw [hq] at this; cases this
      | some o =>
        have hlt := (Array.getElem?_eq_some_iff.1 hq).1
        exact ⟨hlt, by simp [hlt]⟩
    · rintro ⟨hx, _⟩
      exact (memB_ok _ _).1 (List.all_eq_true.1 o4 x (List.mem_range.2 hx))
  · intro j hj
    exfalso
    by_cases hlt : j < ops'.size
    · simp [hlt] at hj
    · simp [hlt] at hj
  · exact Lin.mono _ (fun j hj => by simp at hj) l1
  · intro t3 a' w' ha hs'
    refine hQ a' w' ?_
    obtain ⟨m, S, k1, k2, k3, k4, k5⟩ := hs'
    exact ⟨m, S, k1, k2, fun i => by rw [ha i]; exact k3 i, k4, k5⟩
variable {K : Nat}
/-- a region that draws its order, told by its stand-ins' -/
theorem Tri.swap (hst : Stands P run M ops ops') (hrun : RunOk P run) (hN : N < 16383) {id n : Nat} {t t' : Tr} {hp hp' : List Blk} {x : Ex} {Post : Ex → Tr → List Blk → Prop} (h : exV P run M N n (.region id ops' true) t hp = some (x, t', hp')) (hq : Post x t' hp') : Tri P N K (.region id ops true) t hp Post := by
  intro W0 O S0 m0 a w hm hs
  cases n with
  | zero => cases h
  | succ n =>
    unfold exV at h
    simp only at h
    cases hr : regV P run M N ops' true t hp with
    | none => rw [hr] at h; cases h
    | some q =>
      obtain ⟨t1, hp1⟩ := q
      rw [hr] at h
      cases h
      unfold regV at hr
      cases hd : dstsOk N ops' with
      | false => rw [hd] at hr; cases hr
      | true =>
        rw [hd, cond_true, cond_true] at hr
        cases hp : (P.follows .mixedOrders && planOk ops' (planOf ops')) with
        | false => rw [hp] at hr; cases hr
        | true =>
          rw [hp, cond_true] at hr
          rw [Bool.and_eq_true] at hp
          exact planV_swap hst hrun hN (dsts_ok hd) hp.1 hp.2 hr hs (fun a' w' hs' => ⟨.nrm, t', hp', rfl, hq, hs'⟩)
/-- a region ahead, told by its stand-ins' along a path -/
theorem Tri.swapStep {runs : RunT} (hst : Stands P run M ops ops') (hrun : RunOk P run) (hr : RunsOk run runs) (hN : N < 16383) {id n : Nat} {t : Tr} {hp hp' : List Blk} {Post : Ex → Tr → List Blk → Prop} {keep keep' : List Nat} {vals vals' : List AV} {orc : List (Nat × AV)} {st : St} (hk : keep.map t.get = vals) (hb : (keep.all fun i => Nat.blt i 16383) = true)
    (h : (exS P runs M N n (.region id ops' true) (mk (keep.zip vals)) hp (orc, [])).map (seen keep') = some (.nrm, vals', hp', st)) (hc : Hold st.2) {c : Code} (h2 : ∀ t', keep'.map t'.get = vals' → Tri P N K c t' hp' Post) : Tri P N K (.seq (.region id ops true) c) t hp Post := by
  refine Tri.of_keep hk hb ?_
  cases hq : exS P runs M N n (.region id ops' true) (mk (keep.zip vals)) hp (orc, []) with
  | none => rw [hq] at h; cases h
  | some q =>
    obtain ⟨y, t', hp2, st2⟩ := q
    rw [hq] at h
    cases h
    refine Tri.seq (Mid := fun x t hp => x = .nrm ∧ t = t' ∧ hp = hp2) (Tri.swap hst hrun hN ((exS_ok hr hN n _ _ _ _ _ _ _ _ hq).2 hc) ⟨rfl, rfl, rfl⟩) ?_ (fun x t hp hx q => absurd q.1 hx)
    rintro t1 hp1 ⟨_, rfl, rfl⟩
    exact h2 t1 rfl
/-- a call of a pure function with told arguments -/
theorem quiet_op {o o' : Oper} {f : FuncId} {args : List AV} {u : Value} (hg : o'.guard = o.guard) (hd : o'.dst = o.dst) (hdst : ∀ j : Nat, (ops[j]?).bind (·.dst) = (ops'[j]?).bind (·.dst)) (ho' : o'.op = .assign (.const u))
    (hv : ∀ t hp, vop P o t hp = some (.call f args)) (hby : M.byref f = false) (hf : ∀ hp, frzAll hp args = some (args, hp)) (hid : args.flatMap ids = []) (hren : args.map (ren (posOf [])) = args) (hr : run f args [] = some (.p u, []))
    (t : Tr) (hp : List Blk) (r : Tr × List Blk) (h : opV P run M ops' o' t hp = some r) : opV P run M ops o t hp = some r := by
  have e0 : guardV ops t o = guardV ops' t o' := by
    unfold guardV
    rw [hg]
    cases hq : o.guard with
    | none => rfl
    | some q => simp only [hdst q.1]
  unfold opV at h ⊢
  rw [e0]
  split at h
  · cases h
  · rename_i e1
    simp only [← hd]; exact h
  · rename_i e1
    have e2 : vop P o' t hp = some (.val (.p u) hp) := by
      unfold vop; rw [ho']; rfl
    rw [e2] at h
    simp only at h
    simp only [hv t hp]
    have e3 : callV run M f args hp = some (.p u, hp) := by
      unfold callV
      rw [hby, cond_false, hf hp]
      simp only [hid]
      have e4 : reach hp 100 [] [] = [] := rfl
      simp only [e4]
      have e5 : pickB hp (posOf []) [] = some [] := rfl
      simp only [e5, hren, hr]
      show some (AV.p u, backB hp _ [] [] ++ List.map _ []) = _
      rw [List.map_nil, List.append_nil]; rfl
    simp only [e3, ← hd]
    exact h
end
end Go.Vm

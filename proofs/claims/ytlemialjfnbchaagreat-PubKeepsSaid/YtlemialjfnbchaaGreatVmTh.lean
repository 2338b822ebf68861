/- Tables with memory: what a call did once to a memory it does again to the same one. -/
import Derived.Test.YtlemialjfnbchaaGreatVmTb
import Derived.Test.YtlemialjfnbchaaGreatVmS2

namespace Go.Vm
open Go
/-- what a function tells at arguments in a memory -/
structure RowH where
  args : List AV
  hp0 : List Blk
  r : AV
  hp : List Blk
abbrev TabH := List (Nat × List RowH)
noncomputable def lookQ (args : List AV) (hp : List Blk) (g : Option (AV × List Blk)) (l : List RowH) : Option (AV × List Blk) :=
  List.rec (motive := fun _ => Option (AV × List Blk)) g (fun q _ ih => cond (eqList eqA q.args args) (cond (eqH q.hp0 hp) (some (q.r, q.hp)) ih) ih) l
noncomputable def lookU (f : Nat) (args : List AV) (hp : List Blk) (g : Option (AV × List Blk)) (U : TabH) : Option (AV × List Blk) :=
  List.rec (motive := fun _ => Option (AV × List Blk)) g (fun q _ ih => cond (Nat.beq q.1 f) (lookQ args hp g q.2) ih) U
def UOk (P : Program) (U : TabH) : Prop := ∀ q ∈ U, ∀ r ∈ q.2, FnOk P q.1 r.args r.hp0 r.r r.hp
theorem uok_nil {P : Program} : UOk P [] := fun q h => by cases h
theorem uok_cons {P : Program} {f : Nat} {rs : List RowH} {U : TabH} (h : ∀ r ∈ rs, FnOk P f r.args r.hp0 r.r r.hp) (k : UOk P U) : UOk P ((f, rs) :: U) := by
  intro q hq
  rcases List.mem_cons.1 hq with rfl | hq
  · exact h
  · exact k q hq
theorem qok_app {P : Program} {f : Nat} {a b : List RowH} (h : ∀ r ∈ a, FnOk P f r.args r.hp0 r.r r.hp) (k : ∀ r ∈ b, FnOk P f r.args r.hp0 r.r r.hp) : ∀ r ∈ a ++ b, FnOk P f r.args r.hp0 r.r r.hp := by
  intro r hr
  rcases List.mem_append.1 hr with hr | hr
  · exact h r hr
  · exact k r hr
theorem lookQ_ok {P : Program} {f : Nat} {args : List AV} {hp : List Blk} {g : Option (AV × List Blk)} {r : AV} {hp' : List Blk} (hg : g = some (r, hp') → FnOk P f args hp r hp') : ∀ (l : List RowH), (∀ q ∈ l, FnOk P f q.args q.hp0 q.r q.hp) → lookQ args hp g l = some (r, hp') → FnOk P f args hp r hp'
  | [], _, h => hg h
  | q :: l, hl, h => by
    have h' : cond (eqList eqA q.args args) (cond (eqH q.hp0 hp) (some (q.r, q.hp)) (lookQ args hp g l)) (lookQ args hp g l) = some (r, hp') := h
    have ih := lookQ_ok hg l (fun q hq => hl q (by simp [hq]))
    cases hq : eqList eqA q.args args with
    | true =>
      rw [hq, cond_true] at h'
      cases hh : eqH q.hp0 hp with
      | true =>
        rw [hh] at h'
        cases h'
        rw [← eqList_ok eqA_ok hq, ← eqH_ok hh]
        exact hl q (by simp)
      | false => rw [hh] at h'; exact ih h'
    | false => rw [hq] at h'; exact ih h'
theorem lookU_ok {P : Program} {f : Nat} {args : List AV} {hp : List Blk} {g : Option (AV × List Blk)} {r : AV} {hp' : List Blk} (hg : g = some (r, hp') → FnOk P f args hp r hp') : ∀ (U : TabH), UOk P U → lookU f args hp g U = some (r, hp') → FnOk P f args hp r hp'
  | [], _, h => hg h
  | q :: U, hU, h => by
    have h' : cond (Nat.beq q.1 f) (lookQ args hp g q.2) (lookU f args hp g U) = some (r, hp') := h
    cases hq : Nat.beq q.1 f with
    | true =>
      rw [hq] at h'
      have e := Nat.eq_of_beq_eq_true hq
      refine lookQ_ok hg q.2 (fun r hr => ?_) h'
      have := hU q (by simp) r hr
      rw [e] at this; exact this
    | false => rw [hq] at h'; exact lookU_ok hg U (fun q hq => hU q (by simp [hq])) h'
noncomputable def runOvU (T : Tab) (U : TabH) (M : Mode) (ih : RF) : RF := fun f args hp => ovE args hp (cond (M.byref f) (lookU f args hp (ih f args hp) U) (ovH T f args (ih f args hp) hp)) (M.ov f)
noncomputable def runUB (P : Program) (T : Tab) (U : TabH) (M : Mode) (n : Nat) (ih : RF) (f : FuncId) (args : List AV) (hp : List Blk) : Option (AV × List Blk) :=
  match P.funcs[f]? with
  | none => none
  | some fn =>
    match fn.body with
    | none => none
    | some c =>
      cond (Nat.blt (Nat.max args.length fn.ntmps) 16383)
        (resC P hp.length fn.results.toList (exC P (runOvU T U M ih) M (Nat.max args.length fn.ntmps) n c (frameOf 0 args .lf) hp)) none
noncomputable def runU (P : Program) (T : Tab) (U : TabH) (M : Mode) (n : Nat) : RF := Nat.rec (motive := fun _ => RF) (fun _ _ _ => none) (fun n ih => runUB P T U M n ih) n
section
variable {P : Program} {T : Tab} {U : TabH} {M : Mode}
theorem runOvU_ok (hT : TOk P T) (hU : UOk P U) (hov : ∀ f F, M.ov f = some F → ∀ args hp r hp', F args hp = some (r, hp') → FnOk P f args hp r hp') {run : RF} (ih : RunOk P run) : RunOk P (runOvU T U M run) := by
  intro f args hp r hp' h
  unfold runOvU at h
  cases hF : M.ov f with
  | some F => rw [hF] at h; exact hov f F hF args hp r hp' h
  | none =>
    rw [hF] at h
    have h0 : cond (M.byref f) (lookU f args hp (run f args hp) U) (ovH T f args (run f args hp) hp) = some (r, hp') := h
    cases hb : M.byref f with
    | true => rw [hb] at h0; exact lookU_ok (fun h => ih _ _ _ _ _ h) U hU h0
    | false =>
      rw [hb] at h0
      have h' : ovH T f args (run f args hp) hp = some (r, hp') := h0
      cases hp with
      | nil => exact lookT_ok (fun h => ih _ _ _ _ _ h) T hT h'
      | cons b l => exact ih _ _ _ _ _ h'
theorem runU_ok (hT : TOk P T) (hU : UOk P U) (hov : ∀ f F, M.ov f = some F → ∀ args hp r hp', F args hp = some (r, hp') → FnOk P f args hp r hp') : ∀ n, RunOk P (runU P T U M n)
  | 0 => fun f args hp r hp' h => by cases h
  | n + 1 => fun f args hp r hp' h => by
    have hrun : RunOk P (runOvU T U M (runU P T U M n)) := runOvU_ok hT hU hov (runU_ok hT hU hov n)
    have h2 : runUB P T U M n (runU P T U M n) f args hp = some (r, hp') := h
    clear h
    rename _ => h
    unfold runUB at h
    split at h
    · cases h
    · rename_i fn hfn
      split at h
      · cases h
      · rename_i c hbody
        cases hN : Nat.blt (Nat.max args.length fn.ntmps) 16383 with
        | false => rw [hN] at h; cases h
        | true =>
          rw [hN, cond_true] at h
          have hN' : Nat.max args.length fn.ntmps < 16383 := Nat.le_of_ble_eq_true hN
          have fin : ∀ (x : Ex) (t : Tr) (hp1 : List Blk), (x = .nrm ∨ x = .ret) → exC P (runOvU T U M (runU P T U M n)) M (Nat.max args.length fn.ntmps) n c (frameOf 0 args .lf) hp = some (x, t, hp1) →
              (match resV P t hp1 fn.results.toList with | some [v] => gcV hp.length v hp1 | some vs => gcV hp.length (.tup vs) hp1 | none => none) = some (r, hp') → FnOk P f args hp r hp' := by
            intro x t hp1 hx hex hres
            refine fn_of_tri hfn hbody hN' ?_
            intro W0 O S0 m0 a w _ hs
            refine wp_mono ((exV_both hrun hN' n).1 c _ hp x t hp1 a w (exC_ok n _ _ _ _ hex) hs) ?_
            rintro e a1 w1 ⟨rfl, hs1⟩
            exact ⟨x, t, hp1, rfl, ⟨hx, hres⟩, hs1⟩
          rw [resC_eq] at h
          unfold resQ at h
          split at h
          · rename_i t hp1 hex; exact fin .nrm t hp1 (.inl rfl) hex h
          · rename_i t hp1 hex; exact fin .ret t hp1 (.inr rfl) hex h
          · cases h
theorem rows_runU (hT : TOk P T) (hU : UOk P U) (hov : ∀ f F, M.ov f = some F → ∀ args hp r hp', F args hp = some (r, hp') → FnOk P f args hp r hp') {n : Nat} {f : FuncId} {rs : List RowH} (h : rs.map (fun q => runU P T U M n f q.args q.hp0) = rs.map fun q => some (q.r, q.hp)) : ∀ q ∈ rs, FnOk P f q.args q.hp0 q.r q.hp := by
  intro q hq
  exact runU_ok hT hU hov n f q.args q.hp0 q.r q.hp ((List.map_inj_left.1 h) q hq)
end
/-! short names for rows -/
abbrev ws (l : List UInt8) : AV := .p (.string ⟨l.toArray⟩)
abbrev wc (a b : Nat) : AV := .p (.complex .f64 a b)
abbrev z0 : AV := .p (.complex .f64 0 0)
abbrev s0 : AV := .p (.string ⟨[].toArray⟩)
abbrev sn : AV := .p (.slice none 0 0)
abbrev bt : AV := .p (.bool true)
abbrev bf : AV := .p (.bool false)
abbrev bk (c : List AV) (e g : Nat) (r o : Bool) : Blk := ⟨c, e, g, r, o, none⟩
abbrev bm (c : List AV) (g : Nat) (k : List Value) : Blk := ⟨c, 0, g, false, false, some k⟩
abbrev tt : Bool := true
abbrev ff : Bool := false
/-- so many bytes, noughts but for some rows of them -/
def dvA (total : Nat) : Nat → List (Nat × List Nat) → List AV
  | pos, [] => List.replicate (total - pos) (.p (.int .u8 (Int.ofNat 0)))
  | pos, (o, l) :: r => List.replicate (o - pos) (.p (.int .u8 (Int.ofNat 0))) ++ (u8A l ++ dvA total (o + l.length) r)
end Go.Vm

/- Tables: what a function told once at frozen arguments it tells again; the evaluator that looks there first. -/
import Derived.Test.YtlemialjfnbchaaGreatVmZb

namespace Go.Vm
open Go
/-- what a function tells at arguments that hold no block -/
structure Row where
  args : List AV
  r : AV
  hp : List Blk
abbrev Tab := List (Nat × List Row)
noncomputable def lookR (args : List AV) (g : Option (AV × List Blk)) (l : List Row) : Option (AV × List Blk) :=
  List.rec (motive := fun _ => Option (AV × List Blk)) g (fun q _ ih => cond (eqList eqA q.args args) (some (q.r, q.hp)) ih) l
noncomputable def lookT (f : Nat) (args : List AV) (g : Option (AV × List Blk)) (T : Tab) : Option (AV × List Blk) :=
  List.rec (motive := fun _ => Option (AV × List Blk)) g (fun q _ ih => cond (Nat.beq q.1 f) (lookR args g q.2) ih) T
def TOk (P : Program) (T : Tab) : Prop := ∀ q ∈ T, ∀ r ∈ q.2, FnOk P q.1 r.args [] r.r r.hp
theorem tok_nil {P : Program} : TOk P [] := fun q h => by cases h
theorem tok_cons {P : Program} {f : Nat} {rs : List Row} {T : Tab} (h : ∀ r ∈ rs, FnOk P f r.args [] r.r r.hp) (k : TOk P T) : TOk P ((f, rs) :: T) := by
  intro q hq
  rcases List.mem_cons.1 hq with rfl | hq
  · exact h
  · exact k q hq
theorem rok_nil {P : Program} {f : Nat} : ∀ r ∈ ([] : List Row), FnOk P f r.args [] r.r r.hp := fun q h => by cases h
theorem rok_cons {P : Program} {f : Nat} {q : Row} {rs : List Row} (h : FnOk P f q.args [] q.r q.hp) (k : ∀ r ∈ rs, FnOk P f r.args [] r.r r.hp) : ∀ r ∈ q :: rs, FnOk P f r.args [] r.r r.hp := by
  intro r hr
  rcases List.mem_cons.1 hr with rfl | hr
  · exact h
  · exact k r hr
theorem rok_app {P : Program} {f : Nat} {a b : List Row} (h : ∀ r ∈ a, FnOk P f r.args [] r.r r.hp) (k : ∀ r ∈ b, FnOk P f r.args [] r.r r.hp) : ∀ r ∈ a ++ b, FnOk P f r.args [] r.r r.hp := by
  intro r hr
  rcases List.mem_append.1 hr with hr | hr
  · exact h r hr
  · exact k r hr
theorem lookR_ok {P : Program} {f : Nat} {args : List AV} {g : Option (AV × List Blk)} {r : AV} {hp : List Blk} (hg : g = some (r, hp) → FnOk P f args [] r hp) : ∀ (l : List Row), (∀ q ∈ l, FnOk P f q.args [] q.r q.hp) → lookR args g l = some (r, hp) → FnOk P f args [] r hp
  | [], _, h => hg h
  | q :: l, hl, h => by
    have h' : cond (eqList eqA q.args args) (some (q.r, q.hp)) (lookR args g l) = some (r, hp) := h
    cases hq : eqList eqA q.args args with
    | true =>
      rw [hq] at h'
      cases h'
      rw [← eqList_ok eqA_ok hq]
      exact hl q (by simp)
    | false => rw [hq] at h'; exact lookR_ok hg l (fun q hq => hl q (by simp [hq])) h'
theorem lookT_ok {P : Program} {f : Nat} {args : List AV} {g : Option (AV × List Blk)} {r : AV} {hp : List Blk} (hg : g = some (r, hp) → FnOk P f args [] r hp) : ∀ (T : Tab), TOk P T → lookT f args g T = some (r, hp) → FnOk P f args [] r hp
  | [], _, h => hg h
  | q :: T, hT, h => by
    have h' : cond (Nat.beq q.1 f) (lookR args g q.2) (lookT f args g T) = some (r, hp) := h
    cases hq : Nat.beq q.1 f with
    | true =>
      rw [hq] at h'
      have e := Nat.eq_of_beq_eq_true hq
      refine lookR_ok hg q.2 (fun r hr => ?_) h'
      have := hT q (by simp) r hr
      rw [e] at this; exact this
    | false => rw [hq] at h'; exact lookT_ok hg T (fun q hq => hT q (by simp [hq])) h'
noncomputable def ovH (T : Tab) (f : FuncId) (args : List AV) (g : Option (AV × List Blk)) (hp : List Blk) : Option (AV × List Blk) :=
  List.rec (motive := fun _ => Option (AV × List Blk)) (lookT f args g T) (fun _ _ _ => g) hp
noncomputable def ovE (args : List AV) (hp : List Blk) (g : Option (AV × List Blk)) (F : Option (List AV → List Blk → Option (AV × List Blk))) : Option (AV × List Blk) :=
  Option.rec (motive := fun _ => Option (AV × List Blk)) g (fun F => F args hp) F
noncomputable def runOvT (T : Tab) (M : Mode) (ih : RF) : RF := fun f args hp => ovE args hp (cond (M.byref f) (ih f args hp) (ovH T f args (ih f args hp) hp)) (M.ov f)
noncomputable def runTB (P : Program) (T : Tab) (M : Mode) (n : Nat) (ih : RF) (f : FuncId) (args : List AV) (hp : List Blk) : Option (AV × List Blk) :=
  match P.funcs[f]? with
  | none => none
  | some fn =>
    match fn.body with
    | none => none
    | some c =>
      cond (Nat.blt (Nat.max args.length fn.ntmps) 16383)
        (resC P hp.length fn.results.toList (exC P (runOvT T M ih) M (Nat.max args.length fn.ntmps) n c (frameOf 0 args .lf) hp)) none
noncomputable def runT (P : Program) (T : Tab) (M : Mode) (n : Nat) : RF := Nat.rec (motive := fun _ => RF) (fun _ _ _ => none) (fun n ih => runTB P T M n ih) n
section
variable {P : Program} {T : Tab} {M : Mode}
theorem runOvT_ok (hT : TOk P T) (hov : ∀ f F, M.ov f = some F → ∀ args hp r hp', F args hp = some (r, hp') → FnOk P f args hp r hp') {run : RF} (ih : RunOk P run) : RunOk P (runOvT T M run) := by
  intro f args hp r hp' h
  unfold runOvT at h
  cases hF : M.ov f with
  | some F => rw [hF] at h; exact hov f F hF args hp r hp' h
  | none =>
    rw [hF] at h
    have h0 : cond (M.byref f) (run f args hp) (ovH T f args (run f args hp) hp) = some (r, hp') := h
    cases hb : M.byref f with
    | true => rw [hb] at h0; exact ih _ _ _ _ _ h0
    | false =>
      rw [hb] at h0
      have h' : ovH T f args (run f args hp) hp = some (r, hp') := h0
      cases hp with
      | nil => exact lookT_ok (fun h => ih _ _ _ _ _ h) T hT h'
      | cons b l => exact ih _ _ _ _ _ h'
theorem runT_ok (hT : TOk P T) (hov : ∀ f F, M.ov f = some F → ∀ args hp r hp', F args hp = some (r, hp') → FnOk P f args hp r hp') : ∀ n, RunOk P (runT P T M n)
  | 0 => fun f args hp r hp' h => by cases h
  | n + 1 => fun f args hp r hp' h => by
    have hrun : RunOk P (runOvT T M (runT P T M n)) := runOvT_ok hT hov (runT_ok hT hov n)
    have h2 : runTB P T M n (runT P T M n) f args hp = some (r, hp') := h
    clear h
    rename _ => h
    unfold runTB at h
    split at h
    · cases h
    · rename_i fn hfn
      split at h
      · cases h
      · rename_i c hbody
        cases hN : Nat.blt (Nat.max args.length fn.ntmps) 16383 with
        | false => rw [hN] at h; cases h
        | true =>
          rw [hN, cond_true] at h
          have hN' : Nat.max args.length fn.ntmps < 16383 := Nat.le_of_ble_eq_true hN
          have fin : ∀ (x : Ex) (t : Tr) (hp1 : List Blk), (x = .nrm ∨ x = .ret) → exC P (runOvT T M (runT P T M n)) M (Nat.max args.length fn.ntmps) n c (frameOf 0 args .lf) hp = some (x, t, hp1) →
              (match resV P t hp1 fn.results.toList with | some [v] => gcV hp.length v hp1 | some vs => gcV hp.length (.tup vs) hp1 | none => none) = some (r, hp') → FnOk P f args hp r hp' := by
            intro x t hp1 hx hex hres
            refine fn_of_tri hfn hbody hN' ?_
            intro W0 O S0 m0 a w _ hs
            refine wp_mono ((exV_both hrun hN' n).1 c _ hp x t hp1 a w (exC_ok n _ _ _ _ hex) hs) ?_
            rintro e a1 w1 ⟨rfl, hs1⟩
            exact ⟨x, t, hp1, rfl, ⟨hx, hres⟩, hs1⟩
          rw [resC_eq] at h
          unfold resQ at h
          split at h
          · rename_i t hp1 hex; exact fin .nrm t hp1 (.inl rfl) hex h
          · rename_i t hp1 hex; exact fin .ret t hp1 (.inr rfl) hex h
          · cases h
/-- what rows tell, all at once -/
theorem rows_run (hT : TOk P T) (hov : ∀ f F, M.ov f = some F → ∀ args hp r hp', F args hp = some (r, hp') → FnOk P f args hp r hp') {n : Nat} {f : FuncId} {rs : List Row} (h : rs.map (fun q => runT P T M n f q.args []) = rs.map fun q => some (q.r, q.hp)) : ∀ q ∈ rs, FnOk P f q.args [] q.r q.hp := by
  intro q hq
  exact runT_ok hT hov n f q.args [] q.r q.hp ((List.map_inj_left.1 h) q hq)
end
/-- frozen, a tuple's structs too -/
def frzD (hp : List Blk) : AV → Option (AV × List Blk)
  | .tup xs => match frzL frz hp xs with | some (l, hp') => some (.tup l, hp') | none => none
  | v => frz hp v
theorem frzD_ok {W0 : World} {O S0 : Nat → Prop} {m0 : EM} {hp hp' : List Blk} {m : EM} {S : Nat → Prop} {w : World} (h : HS W0 O S0 m0 hp m S w) {x y : AV} {u : Value} (hx : frzD hp x = some (y, hp')) (hr : R w S m x u) :
    ∃ S', HS W0 O S0 m0 hp' m S' w ∧ (∀ c, S c → S' c) ∧ R w S' m y u := by
  unfold frzD at hx
  split at hx
  · split at hx
    · rename_i xs l hp1 hl
      cases hx
      cases hr with
      | tup m xs us h1 h2 =>
        obtain ⟨S', k1, k2, k3⟩ := frzL_ok (fun h hx hr => frz_ok h hx hr) h hl ⟨h1, h2⟩
        exact ⟨S', k1, k2, .tup _ _ _ k3.1 k3.2⟩
    · cases hx
  · exact frz_ok h hx hr
/-- what is told, frozen -/
def frzR (x : Option (AV × List Blk)) : Option (AV × List Blk) := match x with
  | some (r, hp) => (match frzD hp r with
    | some (r', _) => some (ren (posOf []) r', [])
    | none => none)
  | none => none
theorem FnOk.frzR {P : Program} {f : FuncId} {args : List AV} {x : Option (AV × List Blk)} (hx : ∀ r hp, x = some (r, hp) → FnOk P f args [] r hp) {r' : AV} {hp' : List Blk} (h : Vm.frzR x = some (r', hp')) : FnOk P f args [] r' hp' := by
  unfold Vm.frzR at h
  split at h
  · rename_i r hp
    split at h
    · rename_i y hp2 hf
      cases h
      intro m S w args' hs hl
      refine (hx r hp rfl m S w args' hs hl).mono ?_
      rintro e w' ⟨v', m', S', rfl, q1, q2, q3, q4, q5⟩
      obtain ⟨S2, g1, g2, g3⟩ := frzD_ok q1 hf q5
      obtain ⟨k1, k2⟩ := g1.gc (js := []) List.nodup_nil (fun i hi => by cases hi) (sub := []) rfl
      refine ⟨v', _, S2, rfl, k1, ?_, fun b hb => g2 b (q3 b hb), q4, ren_ok k2 y v' g3⟩
      intro i e he
      have := (hs.dom i).2 (by rw [he]; rfl)
      simp at this
    · cases h
  · cases h
theorem rows_frz {P : Program} {T : Tab} {M : Mode} (hT : TOk P T) (hov : ∀ f F, M.ov f = some F → ∀ args hp r hp', F args hp = some (r, hp') → FnOk P f args hp r hp') {n : Nat} {f : FuncId} {rs : List Row} (h : rs.map (fun q => Vm.frzR (runT P T M n f q.args [])) = rs.map fun q => some (q.r, q.hp)) : ∀ q ∈ rs, FnOk P f q.args [] q.r q.hp := by
  intro q hq
  exact FnOk.frzR (fun r hp e => runT_ok hT hov n f q.args [] r hp e) ((List.map_inj_left.1 h) q hq)
/-- those whose arguments are frozen: a number's bits -/
def byMask (m : Nat) (f : FuncId) : Bool := !(Nat.beq (Nat.land (Nat.shiftRight m f) 1) 1)
end Go.Vm

/- PredMany: the law's walk. -/
import Derived.Test.YtdahjdfjpckdcaaRtD0
namespace Go.Proofs.Ytdahjdfjpckdcaa
open Go Go.Vm
set_option maxRecDepth 100000
/-! the contracts -/
theorem FnOk.plain {f : FuncId} {args : List AV} {vs : List Value} (h : FnOk Try.prog f args [] (.agg (vs.map .p)) []) : FnOk Try.prog f args [] (.p (.agg vs.toArray)) [] := by
  intro m S w args' hs hargs
  refine (h m S w args' hs hargs).mono ?_
  rintro e w' ⟨u, m', S', rfl, q1, q2, q3, q4, q5⟩
  refine ⟨u, m', S', rfl, q1, q2, q3, q4, ?_⟩
  have : u = .agg vs.toArray := by
    generalize hx : AV.agg (vs.map .p) = x at q5
    cases q5 with
    | agg _ xs ys hl hall =>
      injection hx with hx
      subst hx
      congr 1
      congr 1
      refine List.ext_getElem (by simpa using hl.symm) (fun i h1 h2 => ?_)
      have := hall i (by simpa using h2) h1
      rw [List.getElem_map] at this
      exact isP_ok (x := .p vs[i]) rfl this
    | _ => cases hx
  subst this
  exact .p _ _
theorem kd_ok0 : FnOk Try.prog 18 [wN 1, wN 0, wN 2] [] (.p (kdV 0)) [] := FnOk.plain (runV_ok (M := mWk) okWk 60 _ _ _ _ _ (by kernel_rfl))
theorem kd_ok1 : FnOk Try.prog 18 [wN 1, wN 0, wN 1] [] (.p (kdV 1)) [] := FnOk.plain (runV_ok (M := mWk) okWk 60 _ _ _ _ _ (by kernel_rfl))
theorem kd_ok2 : FnOk Try.prog 18 [wN 1, wN 1, wN 1] [] (.p (kdV 2)) [] := FnOk.plain (runV_ok (M := mWk) okWk 60 _ _ _ _ _ (by kernel_rfl))
theorem of_kd {args : List AV} {hp hp' : List Blk} {r : AV} (h : oKd args hp = some (r, hp')) : FnOk Try.prog 18 args hp r hp' := by
  unfold oKd at h
  split at h
  · cases h; exact kd_ok0
  · cases h; exact kd_ok1
  · cases h; exact kd_ok2
  · cases h
theorem okPm {E : OvR} (hK : FnOk Try.prog 24 [] [] (wB true) []) (hE : ∀ args hp r hp', E args hp = some (r, hp') → FnOk Try.prog 21 args hp r hp') (f : FuncId) (K : OvR) (h : (mPm E).ov f = some K) (args : List AV) (hp : List Blk) (r : AV) (hp' : List Blk) (k : K args hp = some (r, hp')) : FnOk Try.prog f args hp r hp' := by
  rcases ov_cond h with ⟨rfl, rfl⟩ | h
  · exact of_ys hK k
  rcases ov_cond h with ⟨rfl, rfl⟩ | h
  · exact hE _ _ _ _ k
  rcases ov_cond h with ⟨rfl, rfl⟩ | h
  · exact of_kd k
  cases h
/-! the region's stand-ins -/
theorem l11 : (opsOf r11).toList = o11 0 :: o11 1 :: o11 2 :: (opsOf r11).toList.drop 3 := by kernel_rfl
theorem len11 : (opsOf r11).toList.length = 13 := by kernel_rfl
noncomputable def qp (i : Nat) (d : Nat) : Oper := { o11 i with op := .assign (.const (kdV d)) }
theorem ops11_l : ops11.toList = qp 0 0 :: qp 1 1 :: qp 2 2 :: (opsOf r11).toList.drop 3 := rfl
theorem at11 (j : Nat) : (opsOf r11)[j]? = (o11 0 :: o11 1 :: o11 2 :: (opsOf r11).toList.drop 3)[j]? := by rw [← l11, Array.getElem?_toList]
theorem at11' (j : Nat) : ops11[j]? = (qp 0 0 :: qp 1 1 :: qp 2 2 :: (opsOf r11).toList.drop 3)[j]? := by rw [← ops11_l, Array.getElem?_toList]
theorem dst11 (j : Nat) : ((opsOf r11)[j]?).bind (·.dst) = (ops11[j]?).bind (·.dst) := by
  rw [at11, at11']
  match j with
  | 0 => rfl
  | 1 => rfl
  | 2 => rfl
  | j + 3 => rfl
theorem stands11 (E : OvR) : Stands Try.prog (pmV E) (mPm E) (opsOf r11) ops11 := by
  refine ⟨?_, fun i o' ho' => ?_⟩
  · rw [← Array.length_toList, ← Array.length_toList, ops11_l, l11]
    simp
  · rw [at11'] at ho'
    rw [at11]
    match i with
    | 0 =>
      cases ho'
      exact ⟨o11 0, rfl, rfl, rfl, quiet_op (f := 18) (args := [wN 1, wN 0, wN 2]) (u := kdV 0) rfl rfl dst11 rfl (fun t hp => by kernel_rfl) rfl (fun hp => rfl) rfl rfl rfl⟩
    | 1 =>
      cases ho'
      exact ⟨o11 1, rfl, rfl, rfl, quiet_op (f := 18) (args := [wN 1, wN 0, wN 1]) (u := kdV 1) rfl rfl dst11 rfl (fun t hp => by kernel_rfl) rfl (fun hp => rfl) rfl rfl rfl⟩
    | 2 =>
      cases ho'
      exact ⟨o11 2, rfl, rfl, rfl, quiet_op (f := 18) (args := [wN 1, wN 1, wN 1]) (u := kdV 2) rfl rfl dst11 rfl (fun t hp => by kernel_rfl) rfl (fun hp => rfl) rfl rfl rfl⟩
    | j + 3 =>
      refine ⟨o', ho', rfl, rfl, fun t hp r h => ?_⟩
      have e0 : guardV (opsOf r11) t o' = guardV ops11 t o' := by
        unfold guardV
        cases hq : o'.guard with
        | none => rfl
        | some q => simp only [dst11 q.1]
      unfold opV at h ⊢
      rw [e0]
      exact h
end Go.Proofs.Ytdahjdfjpckdcaa

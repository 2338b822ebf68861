/- maps.DeleteFunc over a server's cursors: a range over a map that takes entries out of it. Made by g27.py. -/
import Derived.Test.YtlemialjfnbchaaGreatVmS7
import Derived.Test.YtlemialjfnbchaaGreatStT

namespace Go.Proofs.YtlemialjfnbchaaGreat
open Go Go.Vm Go.RowKit Sm
set_option maxRecDepth 100000
namespace Df
def opsOf : Code → Array Oper | .region _ ops _ => ops | _ => #[]
def oAt (ops : Array Oper) (i : Nat) : Oper := match ops[i]? with | some o => o | none => { dst := none, op := .load 0 (.tmp 0), type := 0, pos := "", after := #[], guard := none }
def cT : Code → Code | .cond _ a _ => a | c => c
noncomputable def df : Code := bodyOf Tryz.f111
noncomputable def dfB : Code := cI (cI (cR df))
noncomputable def dfE : Code := cI (cN 2 dfB)
noncomputable def dfD : Code := cT (cN 2 dfE)
noncomputable def r0 : Array Oper := opsOf (cL df)
noncomputable def nO : Array Oper := opsOf (cL dfB)
noncomputable def eO : Array Oper := opsOf (cL dfE)
noncomputable def r3 : Array Oper := opsOf (cL (cN 1 dfE))
noncomputable def r4 : Array Oper := opsOf dfD
theorem df_eq : df = .seq (.region 0 r0 false) (.block 0 (.loop dfB)) := by kernel_rfl
theorem dfB_eq : dfB = .seq (.region 1 nO false) (.seq (.cond (.tmp 9) .skip (.exit 0)) (.block 1 (.seq (.region 2 eO false) (.seq (.region 3 r3 false) (.cond (.tmp 16) (.region 4 r4 false) .skip))))) := by kernel_rfl
/-- a cursor that is held -/
abbrev hd (n1 n2 n3 n4 : Nat) (X1 X2 X3 X4 : List AV) (b a4 a5 a6 a7 a13 a14 a15 : Int) (s8 : ByteArray) (u9 w9 u10 w10 u11 w11 : Nat) : List AV := [wN b, .lst n1 X1, .lst n2 X2, .lst n3 X3, wN a4, wN a5, wN a6, wN a7, .p (.string s8), .p (.complex .f64 u9 w9), .p (.complex .f64 u10 w10), .p (.complex .f64 u11 w11), .lst n4 X4, wN a13, wN a14, wN a15]
abbrev fnV (d : Int) : AV := .fn (.func 112) [] [.ip [wN d] 0]
abbrev blk (cs : List AV) : Blk := { cells := cs, esz := 0, gen := 0, row := false, ro := false }
section
variable (bm : Nat) (d : Int) (it key : Value) (n1 n2 n3 n4 : Nat) (X1 X2 X3 X4 : List AV) (b a4 a5 a6 a7 a13 a14 a15 : Int) (s8 : ByteArray) (u9 w9 u10 w10 u11 w11 : Nat)
theorem q0 : (opsV Tryz.prog sV mS r0 ((r0.toList.drop 0).take 1) (mk ([0, 1].zip [.p (.map (some bm)), fnV d])) []).map (fun q => ([0, 1, 6].map q.1.get, q.2)) = some ([.p (.map (some bm)), fnV d, .p (.map (some bm))], []) := by kernel_rfl
theorem q1 : (opsV Tryz.prog sV mS nO ((nO.toList.drop 1).take 1) (mk ([0, 1, 7, 8].zip [.p (.map (some bm)), fnV d, .p it, .tup [wB true, .top, .top]])) []).map (fun q => ([0, 1, 7, 9].map q.1.get, q.2)) = some ([.p (.map (some bm)), fnV d, .p it, wB true], []) := by kernel_rfl
theorem q1' : (opsV Tryz.prog sV mS nO ((nO.toList.drop 1).take 1) (mk ([0, 1, 7, 8].zip [.p (.map (some bm)), fnV d, .p it, .tup [wB false]])) []).map (fun q => ([0, 1, 7, 9].map q.1.get, q.2)) = some ([.p (.map (some bm)), fnV d, .p it, wB false], []) := by kernel_rfl
theorem q2 : (opsV Tryz.prog sV mS eO ((eO.toList.drop 1).take 5) (mk ([0, 1, 7, 10].zip [.p (.map (some bm)), fnV d, .p it, .tup [.p key, .agg (hd n1 n2 n3 n4 X1 X2 X3 X4 b a4 a5 a6 a7 a13 a14 a15 s8 u9 w9 u10 w10 u11 w11)]])) []).map (fun q => ([0, 1, 4, 5, 7].map q.1.get, q.2)) =
    some ([.p (.map (some bm)), fnV d, .p key, .ptr 0 0 0, .p it], [blk (hd n1 n2 n3 n4 X1 X2 X3 X4 b a4 a5 a6 a7 a13 a14 a15 s8 u9 w9 u10 w10 u11 w11)]) := by kernel_rfl
theorem q3 : (opsV Tryz.prog sV mS r3 ((r3.toList.drop 0).take 4) (mk ([0, 1, 4, 5, 7].zip [.p (.map (some bm)), fnV d, .p key, .ptr 0 0 0, .p it])) [blk (hd n1 n2 n3 n4 X1 X2 X3 X4 b a4 a5 a6 a7 a13 a14 a15 s8 u9 w9 u10 w10 u11 w11)]).map (fun q => ([0, 1, 4, 7, 16].map q.1.get, q.2)) =
    some ([.p (.map (some bm)), fnV d, .p key, .p it, wB (b == d)], [blk (hd n1 n2 n3 n4 X1 X2 X3 X4 b a4 a5 a6 a7 a13 a14 a15 s8 u9 w9 u10 w10 u11 w11)]) := by kernel_rfl
theorem q4 : (opsV Tryz.prog sV mS r4 ((r4.toList.drop 0).take 2) (mk ([0, 1, 4, 7].zip [.p (.map (some bm)), fnV d, .p key, .p it])) []).map (fun q => ([0, 1, 7, 17, 18].map q.1.get, q.2)) =
    some ([.p (.map (some bm)), fnV d, .p it, .p (.map (some bm)), .p key], []) := by kernel_rfl
theorem oR : r0[1]? = some (oAt r0 1) ∧ (oAt r0 1).guard = none ∧ (oAt r0 1).op = Op.range 217 (.tmp 6) ∧ (oAt r0 1).dst = some 7 := ⟨by kernel_rfl, by kernel_rfl, by kernel_rfl, by kernel_rfl⟩
theorem oN : nO[0]? = some (oAt nO 0) ∧ (oAt nO 0).guard = none ∧ (oAt nO 0).op = Op.next (.tmp 7) false ∧ (oAt nO 0).dst = some 8 := ⟨by kernel_rfl, by kernel_rfl, by kernel_rfl, by kernel_rfl⟩
theorem oE : eO[0]? = some (oAt eO 0) ∧ (oAt eO 0).guard = none ∧ (oAt eO 0).op = Op.entry (.tmp 7) ∧ (oAt eO 0).dst = some 10 := ⟨by kernel_rfl, by kernel_rfl, by kernel_rfl, by kernel_rfl⟩
theorem oD : r4[2]? = some (oAt r4 2) ∧ (oAt r4 2).guard = none ∧ (oAt r4 2).op = Op.call { callee := .builtin .delete, args := #[.tmp 17, .tmp 18], argTypes := #[217, 3] } ∧ (oAt r4 2).dst = none := ⟨by kernel_rfl, by kernel_rfl, by kernel_rfl, by kernel_rfl⟩
theorem z0 : r0.size = 2 := by kernel_rfl
theorem zN : nO.size = 2 := by kernel_rfl
theorem zE : eO.size = 6 := by kernel_rfl
theorem z3 : r3.size = 4 := by kernel_rfl
theorem z4 : r4.size = 3 := by kernel_rfl
theorem dst_ok {l : List Oper} (h : (l.all fun o => match o.dst with | some d => Nat.blt d 19 | none => true) = true) : ∀ o ∈ l, ∀ d, o.dst = some d → d < 19 := by
  intro o ho d hd
  have := List.all_eq_true.1 h o ho
  rw [hd] at this
  exact Nat.le_of_ble_eq_true this
theorem mapTy : ∃ e, Tryz.prog.underlying 217 = some (.map 3 e) := by
  have h : (match Tryz.prog.underlying 217 with | some (.map k _) => Nat.beq k 3 | _ => false) = true := by kernel_rfl
  split at h
  · rename_i k e hk
    exact ⟨e, by rw [hk, Nat.eq_of_beq_eq_true h]⟩
  · cases h
theorem keyTy (n : Int) : keyT Tryz.prog 3 (.int .i64 n) = true := by kernel_rfl
end
/-! what is asked of the map -/
def isI : AV → Bool | .p (.int .i64 _) => true | _ => false
def isS : AV → Bool | .p (.string _) => true | _ => false
def isC : AV → Bool | .p (.complex .f64 _ _) => true | _ => false
def isL : AV → Bool | .lst _ _ => true | .p (.slice none 0 0) => true | _ => false
def all2 : List (AV → Bool) → List AV → Bool
  | [], [] => true
  | p :: ps, x :: xs => p x && all2 ps xs
  | _, _ => false
def byOf : AV → Int
  | .agg (.p (.int .i64 b) :: _) => b
  | _ => 0
def fits : AV → Bool
  | .agg xs => all2 [isI, isL, isL, isL, isI, isI, isI, isI, isS, isC, isC, isC, isL, isI, isI, isI] xs
  | _ => false
def intKey : Value → Bool | .int .i64 _ => true | _ => false
def keepP (d : Int) : List Value → List AV → List Value × List AV
  | k :: ks, y :: ys => match keepP d ks ys with | (a, b) => cond (byOf y == d) (a, b) (k :: a, y :: b)
  | _, _ => ([], [])
def delV (args : List AV) (hp : List Blk) : Option (AV × List Blk) :=
  match args with
  | [.mp j g, .fn (.func 112) [] [.ptr i gi 0]] => (match getM hp j g, getB hp i gi with
    | some (ks, mb), some b => (match b.cells with
      | [.p (.int .i64 d)] => cond (!b.row && !mb.ro && mb.cells.all fits && ks.all intKey && Nat.beq ks.length mb.cells.length)
          (some (.tup [], hp.set j { mb with cells := (keepP d ks mb.cells).2, keys := some (keepP d ks mb.cells).1 })) none
      | _ => none)
    | _, _ => none)
  | _ => none
theorem isI_ok {x : AV} (h : isI x = true) : ∃ n, x = wN n := by
  unfold isI at h; split at h
  · exact ⟨_, rfl⟩
  · cases h
theorem isS_ok {x : AV} (h : isS x = true) : ∃ s, x = .p (.string s) := by
  unfold isS at h; split at h
  · exact ⟨_, rfl⟩
  · cases h
theorem isC_ok {x : AV} (h : isC x = true) : ∃ u v, x = .p (.complex .f64 u v) := by
  unfold isC at h; split at h
  · exact ⟨_, _, rfl⟩
  · cases h
/-- a slice that stays -/
theorem isL_ok {w : World} {S : Nat → Prop} {m : EM} {x : AV} {v : Value} (h : isL x = true) (hr : R w S m x v) : ∃ n X, R w S noEM (.lst n X) v := by
  unfold isL at h; split at h
  · exact ⟨_, _, R.noBlk noEM rfl hr⟩
  · have := isP_ok (x := .p (.slice none 0 0)) rfl hr
    subst this
    exact ⟨0, [], .lst0 _ _ _⟩
  · cases h
theorem all2_cons {p : AV → Bool} {ps : List (AV → Bool)} {xs : List AV} (h : all2 (p :: ps) xs = true) : ∃ x r, xs = x :: r ∧ p x = true ∧ all2 ps r = true := by
  cases xs with
  | nil => cases h
  | cons x r =>
    simp only [all2, Bool.and_eq_true] at h
    exact ⟨x, r, rfl, h.1, h.2⟩
theorem all2_nil {xs : List AV} (h : all2 [] xs = true) : xs = [] := by
  cases xs with
  | nil => rfl
  | cons x r => cases h
/-- whose an entry is -/
def byV (v : Value) : Int := match v with
  | .agg a => (match a[0]? with | some (Value.int _ b) => b | _ => 0)
  | _ => 0
def goes (d : Int) (x : MapEntry) : Bool := byV x.val == d
def Ent (w : World) (bm : Nat) (x : MapEntry) : Prop := (∃ n, x.key = .int .i64 n) ∧ ∃ n1 n2 n3 n4 X1 X2 X3 X4 b a4 a5 a6 a7 a13 a14 a15 s8 u9 w9 u10 w10 u11 w11, byV x.val = b ∧ R w (SB w bm) noEM (.agg (hd n1 n2 n3 n4 X1 X2 X3 X4 b a4 a5 a6 a7 a13 a14 a15 s8 u9 w9 u10 w10 u11 w11)) x.val
def Inv (w : World) (r bm : Nat) (d : Int) (es : Array MapEntry) (clock : Nat) (a : Act) (wr : World) (seen : Array Nat) : Prop :=
  But w bm wr ∧ a.eval (.tmp 0) = .map (some bm) ∧ R wr (ST wr bm r) noEM (fnV d) (a.eval (.tmp 1)) ∧ a.eval (.tmp 7) = .pointer (some ⟨r, 0, none⟩) ∧ a.tmps.size = 19 ∧ a.defers = [] ∧
    wr.heap[r]? = some (.mapIter (some bm) clock seen clock) ∧ ∃ es' : Array MapEntry, wr.heap[bm]? = some (.map es' clock) ∧ es'.toList = stay (goes d) seen es.toList ∧ MapKept.Stamped es' clock
theorem fn_out {w : World} {S : Nat → Prop} {m : EM} {d : Int} {v : Value} (h : R w S m (fnV d) v) : R w S noEM (fnV d) v := by
  cases h with
  | fn m f xs us ys vs hl hx hl2 hx2 => exact .fn noEM _ _ _ _ _ hl (fun j h => absurd h (Nat.not_lt_zero _)) hl2 (fun j h h' => by
      match j, h, h' with
      | 0, h, h' => exact R.noBlk noEM rfl (hx2 0 (by simp) h'))
/-- out of a piece that the virtual memory has gone through -/
theorem sim_out {w wr : World} {bm r N : Nat} {t : Tr} {hp : List Blk} {a : Act} (hbm : bm < w.heap.size) (hr : r < w.heap.size) (hs : Sim w (fun _ => False) (ST w bm r) noEM N t hp a wr) : Below w.heap.size w wr ∧ a.tmps.size = N ∧ (∀ i v, t.get i = .p v → a.eval (.tmp i) = v) ∧ ∀ i d, t.get i = fnV d → R wr (ST wr bm r) noEM (fnV d) (a.eval (.tmp i)) := by
  obtain ⟨m, S, h1, h2, h3, h4, h5⟩ := hs
  refine ⟨h1.below, h4, fun i v hv => isP_ok (x := .p v) rfl (hv ▸ h3 i), fun i d hd => ?_⟩
  have := h3 i
  rw [hd] at this
  refine (fn_out this).mono (Keeps.refl _ _) (fun b hb => ?_) (Ext.refl _)
  refine ⟨h1.sok b hb, ?_⟩
  rcases h1.snew b hb with k | k | k
  · exact k.2
  · exact absurd k (fun h => h)
  · exact ⟨by omega, by omega⟩

theorem leave_put {wr w1 w2 : World} {r : Nat} {o : Obj} (hw1 : w1 = wr ∨ w1 = wr.drew) (hw2 : ChangeMaps.setBlock w1 r o = w2) (hrlt : r < wr.heap.size) : w2.os = wr.os ∧ w2.tape = wr.tape ∧ w2.output = wr.output ∧ w2.heap.size = wr.heap.size ∧ w2.heap[r]? = some o ∧ ∀ b, b ≠ r → w2.heap[b]? = wr.heap[b]? := by
  have hw1h : w1.heap = wr.heap := by rcases hw1 with rfl | rfl <;> rfl
  have hheap : w2.heap = wr.heap.setIfInBounds r o := by rw [← hw2, ← hw1h]; rfl
  have hst2 : w2.os = wr.os ∧ w2.tape = wr.tape ∧ w2.output = wr.output := by
    rw [← hw2]; rcases hw1 with rfl | rfl <;> exact ⟨rfl, rfl, rfl⟩
  refine ⟨hst2.1, hst2.2.1, hst2.2.2, by rw [hheap]; simp, by rw [hheap]; simp [hrlt], fun b hne => by rw [hheap, Array.getElem?_setIfInBounds_ne (fun q => hne q.symm)]⟩
theorem tup3 {w : World} {S : Nat → Prop} {x y z : AV} {u v q : Value} (h1 : R w S noEM x u) (h2 : R w S noEM y v) (h3 : R w S noEM z q) : R w S noEM (.tup [x, y, z]) (.tuple #[u, v, q]) :=
  R.tup noEM [x, y, z] [u, v, q] rfl (fun j k1 k2 => by
    match j, k1 with
    | 0, _ => exact h1
    | 1, _ => exact h2
    | 2, _ => exact h3)
theorem tup2 {w : World} {S : Nat → Prop} {x y : AV} {u v : Value} (h1 : R w S noEM x u) (h2 : R w S noEM y v) : R w S noEM (.tup [x, y]) (.tuple #[u, v]) :=
  R.tup noEM [x, y] [u, v] rfl (fun j k1 k2 => by
    match j, k1 with
    | 0, _ => exact h1
    | 1, _ => exact h2)
theorem tup1 {w : World} {S : Nat → Prop} {x : AV} {u : Value} (h1 : R w S noEM x u) : R w S noEM (.tup [x]) (.tuple #[u]) :=
  R.tup noEM [x] [u] rfl (fun j k1 k2 => by
    match j, k1 with
    | 0, _ => exact h1)
set_option maxHeartbeats 2000000 in
theorem round {w : World} {r bm : Nat} {d : Int} {es : Array MapEntry} {clock : Nat} (hst : MapKept.Stamped es clock) (hg : ∀ x ∈ es.toList, Ent w bm x) (hbm : bm < w.heap.size) (hwr : w.heap.size ≤ r) {a : Act} {wr : World} {seen : Array Nat} (hi : Inv w r bm d es clock a wr seen) :
    dfB.wp Tryz.prog (fun e a' w' => (e = .normal ∧ ∃ seen', Inv w r bm d es clock a' w' seen' ∧ (leftOf es seen').size < (leftOf es seen).size) ∨
      (e = .exit 0 ∧ a'.defers = [] ∧ But w bm w' ∧ ∃ es' : Array MapEntry, w'.heap[bm]? = some (.map es' clock) ∧ es'.toList = es.toList.filter (fun x => !(goes d x)) ∧ MapKept.Stamped es' clock)) a wr := by
  obtain ⟨hbut, h0, h1, h7, hN, hdf, hr, es', hmap, hes, hst'⟩ := hi
  have hNN : (19 : Nat) < 16383 := by decide
  have hrlt : r < wr.heap.size := (Array.getElem?_eq_some_iff.1 hr).1
  have hbmr : bm ≠ r := by omega
  have hbmw : bm < wr.heap.size := Nat.lt_of_lt_of_le hbm hbut.size
  rw [dfB_eq]
  refine wp_seq (wp_region ?_)
  rw [zN]
  show wpOps _ _ _ [0, 1] _ _
  rw [wpOps_cons]
  rcases run_next_at (P := Tryz.prog) wr (oAt nO 0).type r bm clock clock seen es' clock hr hmap hst'.1 (Nat.le_refl _) with ⟨hz, hrun⟩ | ⟨e, he, w1, hw1, hrun⟩
  · refine op_val oN.1 oN.2.1 (v := .tuple #[.bool false]) (w' := wr) (by simp [execOp, oN.2.2.1, h7, hrun]) ?_
    have e1 : ∀ i, (a.put (oAt nO 0).dst (.tuple #[.bool false])).eval (.tmp i) = if 8 = i then .tuple #[.bool false] else a.eval (.tmp i) := fun i => by rw [oN.2.2.2]; exact eval_put_tmp a 8 i _ (by omega)
    refine wpOps_at (hp := []) (W0 := wr) (O := fun _ => False) (S0 := ST wr bm r) (m0 := noEM) 1 1 [] sRun hNN (dst_ok (by kernel_rfl)) (by rw [zN]; rfl) rfl (q1' bm d _) (sim_from (l := [0, 1, 7, 8].zip [.p (.map (some bm)), fnV d, .p (.pointer (some ⟨r, 0, none⟩)), .tup [wB false]]) (fun b h => h.1) (by simp) ?_ (by rw [put_size, hN]) (by rw [put_defers, hdf])) (by rw [put_defers, hdf]) (fun a' w' hs' hdf' => ?_)
    · intro q hq
      simp only [List.zip_cons_cons, List.zip_nil_right, List.mem_cons, List.not_mem_nil, or_false] at hq
      rcases hq with rfl | rfl | rfl | rfl
      · rw [e1, if_neg (show ¬ (8 = 0) by decide), h0]; exact .p _ _
      · rw [e1, if_neg (show ¬ (8 = 1) by decide)]; exact h1
      · rw [e1, if_neg (show ¬ (8 = 7) by decide), h7]; exact .p _ _
      · rw [e1, if_pos rfl]; exact tup1 (.p _ _)
    obtain ⟨g1, g3, g2, _⟩ := sim_out hbmw hrlt hs'
    have k9 : a'.eval (.tmp 9) = .bool false := g2 9 _ rfl
    refine wp_seq (wp_cond_false k9 ?_)
    refine wp_exit ?_
    refine .inr ⟨rfl, hdf', hbut.below g1, es', ?_, ?_, hst'⟩
    · rw [g1.block bm hbmw, hmap]
    · rw [hes]
      refine stay_all fun x hx => ?_
      rw [← hes] at hx
      exact all_seen es' seen hz x hx
  · have hel' := mem_left he
    have hem : e ∈ es.toList := by
      have := hel'.1
      rw [hes] at this
      exact mem_stay this
    have hel : e ∈ (leftOf es seen).toList := by
      unfold leftOf
      rw [Array.mem_toList_iff, Array.mem_filter]
      exact ⟨Array.mem_toList_iff.1 hem, by rw [hel'.2]; rfl⟩
    generalize hw2 : ChangeMaps.setBlock w1 r (.mapIter (some bm) clock (seen.push e.born) clock) = w2 at hrun
    obtain ⟨s1, s2, s3, s4, hr2, hk2⟩ := leave_put hw1 hw2 hrlt
    have hbut2 : But w bm w2 := ⟨s1.trans hbut.os, s2.trans hbut.tape, s3.trans hbut.out, by rw [s4]; exact hbut.size, fun b hb hne => (hk2 b (by omega)).trans (hbut.block b hb hne)⟩
    have hmap2 : w2.heap[bm]? = some (.map es' clock) := by rw [hk2 bm hbmr, hmap]
    have hbm2 : bm < w2.heap.size := by rw [s4]; exact hbmw
    have hrl2 : r < w2.heap.size := by rw [s4]; exact hrlt
    have h12 : R w2 (ST w2 bm r) noEM (fnV d) (a.eval (.tmp 1)) := h1.mono (fun b hb => hk2 b hb.2.2) (fun b hb => ⟨by rw [s4]; exact hb.1, hb.2⟩) (Ext.refl _)
    refine op_val oN.1 oN.2.1 (v := .tuple #[.bool true, e.key, e.val]) (w' := w2) (by simp [execOp, oN.2.2.1, h7, hrun]) ?_
    have e1 : ∀ i, (a.put (oAt nO 0).dst (.tuple #[.bool true, e.key, e.val])).eval (.tmp i) = if 8 = i then .tuple #[.bool true, e.key, e.val] else a.eval (.tmp i) := fun i => by rw [oN.2.2.2]; exact eval_put_tmp a 8 i _ (by omega)
    refine wpOps_at (hp := []) (W0 := w2) (O := fun _ => False) (S0 := ST w2 bm r) (m0 := noEM) 1 1 [] sRun hNN (dst_ok (by kernel_rfl)) (by rw [zN]; rfl) rfl (q1 bm d _) (sim_from (l := [0, 1, 7, 8].zip [.p (.map (some bm)), fnV d, .p (.pointer (some ⟨r, 0, none⟩)), .tup [wB true, .top, .top]]) (fun b h => h.1) (by simp) ?_ (by rw [put_size, hN]) (by rw [put_defers, hdf])) (by rw [put_defers, hdf]) (fun a3 w3 hs3 hdf3 => ?_)
    · intro q hq
      simp only [List.zip_cons_cons, List.zip_nil_right, List.mem_cons, List.not_mem_nil, or_false] at hq
      rcases hq with rfl | rfl | rfl | rfl
      · rw [e1, if_neg (show ¬ (8 = 0) by decide), h0]; exact .p _ _
      · rw [e1, if_neg (show ¬ (8 = 1) by decide)]; exact h12
      · rw [e1, if_neg (show ¬ (8 = 7) by decide), h7]; exact .p _ _
      · rw [e1, if_pos rfl]; exact tup3 (.p _ _) (.top _ _) (.top _ _)
    obtain ⟨g1, g3, g2, g4⟩ := sim_out hbm2 hrl2 hs3
    have hbut3 : But w bm w3 := hbut2.below g1
    have k0 := g2 0 _ rfl
    have k7 := g2 7 _ rfl
    have k9 : a3.eval (.tmp 9) = .bool true := g2 9 _ rfl
    have k1 := g4 1 d rfl
    have hr3 : w3.heap[r]? = some (.mapIter (some bm) clock (seen.push e.born) clock) := by rw [g1.block r hrl2, hr2]
    have hmap3 : w3.heap[bm]? = some (.map es' clock) := by rw [g1.block bm hbm2, hmap2]
    have hbm3 : bm < w3.heap.size := Nat.lt_of_lt_of_le hbm2 g1.size
    have hrl3 : r < w3.heap.size := Nat.lt_of_lt_of_le hrl2 g1.size
    refine wp_seq (wp_cond_true k9 (wp_skip ?_))
    refine wp_block (wp_seq (wp_region ?_))
    rw [zE]
    show wpOps _ _ _ [0, 1, 2, 3, 4, 5] _ _
    rw [wpOps_cons]
    refine op_val oE.1 oE.2.1 (v := .tuple #[e.key, e.val]) (w' := w3) (by simp [execOp, oE.2.2.1, k7, run_entry_at (P := Tryz.prog) w3 r bm clock seen es' clock e hr3 hmap3 hel'.1 hst'.2.1]) ?_
    obtain ⟨⟨kn, hkey⟩, n1, n2, n3, n4, X1, X2, X3, X4, b, a4, a5, a6, a7, a13, a14, a15, s8, u9, w9, u10, w10, u11, w11, hby, hRv⟩ := hg e hem
    have hRv3 : R w3 (ST w3 bm r) noEM (.agg (hd n1 n2 n3 n4 X1 X2 X3 X4 b a4 a5 a6 a7 a13 a14 a15 s8 u9 w9 u10 w10 u11 w11)) e.val := hRv.mono hbut3.keeps (fun b hb => ⟨hbut3.lt hb, hb.2, by have := hb.1; omega⟩) (Ext.refl _)
    have e2 : ∀ i, (a3.put (oAt eO 0).dst (.tuple #[e.key, e.val])).eval (.tmp i) = if 10 = i then .tuple #[e.key, e.val] else a3.eval (.tmp i) := fun i => by rw [oE.2.2.2]; exact eval_put_tmp a3 10 i _ (by omega)
    refine wpOps_at (hp := []) (W0 := w3) (O := fun _ => False) (S0 := ST w3 bm r) (m0 := noEM) 1 5 [] sRun hNN (dst_ok (by kernel_rfl)) (by rw [zE]; rfl) rfl (q2 bm d (.pointer (some ⟨r, 0, none⟩)) e.key n1 n2 n3 n4 X1 X2 X3 X4 b a4 a5 a6 a7 a13 a14 a15 s8 u9 w9 u10 w10 u11 w11) (sim_from (l := [0, 1, 7, 10].zip [.p (.map (some bm)), fnV d, .p (.pointer (some ⟨r, 0, none⟩)), .tup [.p e.key, .agg (hd n1 n2 n3 n4 X1 X2 X3 X4 b a4 a5 a6 a7 a13 a14 a15 s8 u9 w9 u10 w10 u11 w11)]]) (fun b h => h.1) (by simp) ?_ (by rw [put_size, g3]) (by rw [put_defers, hdf3])) (by rw [put_defers, hdf3]) (fun a4' w4 hs4 hdf4 => ?_)
    · intro q hq
      simp only [List.zip_cons_cons, List.zip_nil_right, List.mem_cons, List.not_mem_nil, or_false] at hq
      rcases hq with rfl | rfl | rfl | rfl
      · rw [e2, if_neg (show ¬ (10 = 0) by decide), k0]; exact .p _ _
      · rw [e2, if_neg (show ¬ (10 = 1) by decide)]; exact k1
      · rw [e2, if_neg (show ¬ (10 = 7) by decide), k7]; exact .p _ _
      · rw [e2, if_pos rfl]; exact tup2 (.p _ _) hRv3
    refine wp_seq (wp_region ?_)
    rw [z3]
    show wpOps _ _ _ (List.range' 0 4 ++ []) _ _
    refine wpOps_at 0 4 [] sRun hNN (dst_ok (by kernel_rfl)) (by rw [z3]; rfl) rfl (q3 bm d (.pointer (some ⟨r, 0, none⟩)) e.key n1 n2 n3 n4 X1 X2 X3 X4 b a4 a5 a6 a7 a13 a14 a15 s8 u9 w9 u10 w10 u11 w11) hs4 hdf4 (fun a5' w5 hs5 hdf5 => ?_)
    obtain ⟨f1, f3, f2, f4⟩ := sim_out hbm3 hrl3 hs5
    have j0 := f2 0 _ rfl
    have j4 := f2 4 _ rfl
    have j7 := f2 7 _ rfl
    have j16 : a5'.eval (.tmp 16) = .bool (b == d) := f2 16 _ rfl
    have j1 := f4 1 d rfl
    have hbut5 : But w bm w5 := hbut3.below f1
    have hr5 : w5.heap[r]? = some (.mapIter (some bm) clock (seen.push e.born) clock) := by rw [f1.block r hrl3, hr3]
    have hmap5 : w5.heap[bm]? = some (.map es' clock) := by rw [f1.block bm hbm3, hmap3]
    have hbm5 : bm < w5.heap.size := Nat.lt_of_lt_of_le hbm3 f1.size
    have hrl5 : r < w5.heap.size := Nat.lt_of_lt_of_le hrl3 f1.size
    have hgo : goes d e = (b == d) := by unfold goes; rw [hby]
    cases hq : (b == d) with
    | false =>
      rw [hq] at j16 hgo
      refine wp_cond_false j16 (wp_skip ?_)
      refine .inl ⟨rfl, seen.push e.born, ⟨hbut5, j0, j1, j7, f3, hdf5, hr5, es', hmap5, ?_, hst'⟩, left_shrinks es seen e hel⟩
      rw [stay_keep hem hst.2.1 hgo, hes]
    | true =>
      rw [hq] at j16 hgo
      refine wp_cond_true j16 (wp_region ?_)
      rw [z4]
      show wpOps _ _ _ (List.range' 0 2 ++ [2]) _ _
      refine wpOps_at (hp := []) (W0 := w5) (O := fun _ => False) (S0 := ST w5 bm r) (m0 := noEM) 0 2 [2] sRun hNN (dst_ok (by kernel_rfl)) (by rw [z4]; rfl) rfl (q4 bm d (.pointer (some ⟨r, 0, none⟩)) e.key) (sim_from (l := [0, 1, 4, 7].zip [.p (.map (some bm)), fnV d, .p e.key, .p (.pointer (some ⟨r, 0, none⟩))]) (fun b h => h.1) (by simp) ?_ f3 hdf5) hdf5 (fun a6' w6 hs6 hdf6 => ?_)
      · intro q hq
        simp only [List.zip_cons_cons, List.zip_nil_right, List.mem_cons, List.not_mem_nil, or_false] at hq
        rcases hq with rfl | rfl | rfl | rfl
        · rw [j0]; exact .p _ _
        · exact j1
        · rw [j4]; exact .p _ _
        · rw [j7]; exact .p _ _
      obtain ⟨l1, l3, l2, l4⟩ := sim_out hbm5 hrl5 hs6
      have i0 := l2 0 _ rfl
      have i7 := l2 7 _ rfl
      have i17 := l2 17 _ rfl
      have i18 := l2 18 _ rfl
      have i1 := l4 1 d rfl
      have hbut6 : But w bm w6 := hbut5.below l1
      have hr6 : w6.heap[r]? = some (.mapIter (some bm) clock (seen.push e.born) clock) := by rw [l1.block r hrl5, hr5]
      have hmap6 : w6.heap[bm]? = some (.map es' clock) := by rw [l1.block bm hbm5, hmap5]
      obtain ⟨et, hu⟩ := mapTy
      have hkt : keyT Tryz.prog 3 e.key = true := by rw [hkey]; exact keyTy kn
      obtain ⟨dd, hdd⟩ : ∃ dd, Tryz.prog.underlying 3 = some dd := by rcases keyT_cases hkt with ⟨k0, k1, n, hd, _⟩ | ⟨s, hd, _⟩ <;> exact ⟨_, hd⟩
      have hem' : e ∈ es'.toList := hel'.1
      obtain ⟨rr, hrr⟩ : ∃ rr, findK e.key (es'.toList.map (·.key)) 0 = some rr := findK_some kn hkey (fun x hx => by
        rw [hes] at hx
        obtain ⟨⟨n, hn⟩, _⟩ := hg x (mem_stay hx)
        exact ⟨n, hn⟩) 0
      rcases findK_ok hkt hdd es'.toList 0 _ hrr with ⟨_, _, hno⟩ | ⟨j, e', p1, p2, p3, p4⟩
      · exact absurd rfl (hno e hem')
      · have hee : e' = e := by
          have hpw := hst'.2.2
          exact key_inj (List.pairwise_map.1 (show List.Pairwise (fun x y => x ≠ y) (es'.toList.map (·.key)) from hpw)) (List.mem_of_getElem? p3) hem' p4
        subst hee
        rw [Nat.zero_add] at p2
        have hjl : j < es'.size := by have := (List.getElem?_eq_some_iff.1 p3).1; simpa using this
        have htl : (es'.eraseIdxIfInBounds j).toList = es'.toList.eraseIdx j := by
          unfold Array.eraseIdxIfInBounds
          rw [dif_pos hjl]; simp
        rw [wpOps_cons]
        refine op_val oD.1 oD.2.1 (v := .tuple #[]) (w' := putO w6 bm (.map (es'.eraseIdxIfInBounds j) clock)) ?_ ?_
        · refine builtin_run (s := Builtin.delete_ #[217, 3] (oAt r4 2).type #[a6'.eval (.tmp 17), a6'.eval (.tmp 18)]) oD.2.2.1 (fun cs => by simp [builtin]) ?_
          rw [i17, i18]
          simp [Builtin.delete_, run_underlying hu, MapKept.run_getObj_map hmap6, keyT_check hkt, MapKept.run_findKey hdd p2, putO_run _ hmap6]
        have hbm6 : bm < w6.heap.size := Nat.lt_of_lt_of_le hbm5 l1.size
        have hdst : (oAt r4 2).dst = none := oD.2.2.2
        rw [hdst]
        refine .inl ⟨rfl, seen.push e'.born, ⟨?_, i0, ?_, i7, l3, hdf6, ?_, es'.eraseIdxIfInBounds j, ?_, ?_, MapKept.stamped_erase hst' j⟩, left_shrinks es seen e' hel⟩
        · exact ⟨hbut6.os, hbut6.tape, hbut6.out, by simpa [putO] using hbut6.size, fun b hb hne => (putO_other hne).trans (hbut6.block b hb hne)⟩
        · exact i1.mono (fun b hb => putO_other hb.2.1) (fun b hb => ⟨by simpa [putO] using hb.1, hb.2⟩) (Ext.refl _)
        · rw [putO_other (Ne.symm hbmr)]; exact hr6
        · exact putO_same hmap6
        · rw [htl, erase_born p3 hst'.2.1, hes, stay_gone hem hst.2.1 hgo]
theorem rounds_ok {w : World} {r bm : Nat} {d : Int} {es : Array MapEntry} {clock : Nat} (hst : MapKept.Stamped es clock) (hg : ∀ x ∈ es.toList, Ent w bm x) (hbm : bm < w.heap.size) (hwr : w.heap.size ≤ r) {Q : Exit → Act → World → Prop}
    (hQ : ∀ a' w', a'.defers = [] → But w bm w' → (∃ es' : Array MapEntry, w'.heap[bm]? = some (.map es' clock) ∧ es'.toList = es.toList.filter (fun x => !(goes d x)) ∧ MapKept.Stamped es' clock) → Q (.exit 0) a' w') :
    ∀ (k : Nat) (a : Act) (wr : World) (seen : Array Nat), (leftOf es seen).size ≤ k → Inv w r bm d es clock a wr seen → Code.rounds Tryz.prog dfB Q (k + 1) a wr
  | 0, a, wr, seen, hk, hi => by
    rw [rounds_succ]
    refine wp_mono (round hst hg hbm hwr hi) ?_
    rintro e a' w' (⟨rfl, seen', _, hlt⟩ | ⟨rfl, k1, k2, k3⟩)
    · omega
    · exact hQ a' w' k1 k2 k3
  | k + 1, a, wr, seen, hk, hi => by
    rw [rounds_succ]
    refine wp_mono (round hst hg hbm hwr hi) ?_
    rintro e a' w' (⟨rfl, seen', hi', hlt⟩ | ⟨rfl, k1, k2, k3⟩)
    · exact rounds_ok hst hg hbm hwr hQ k a' w' seen' (by omega) hi'
    · exact hQ a' w' k1 k2 k3
theorem cell1 {w : World} {S T : Nat → Prop} {m : EM} {y : AV} {v : Value} (h : R w S m y v) (hn : noBlk y = true) (hS : ∀ b, S b → T b) : R w T noEM y v := (R.noBlk noEM hn h).mono (Keeps.refl _ _) hS (Ext.refl _)
set_option maxHeartbeats 2000000 in
theorem ent_of {w : World} {S : Nat → Prop} {m : EM} {bm : Nat} (hS : ∀ b, S b → SB w bm b) {y : AV} {x : MapEntry} (hf : fits y = true) (hk : intKey x.key = true) (hr : R w S m y x.val) : Ent w bm x ∧ byV x.val = byOf y := by
  unfold fits at hf
  split at hf
  · rename_i xs
    obtain ⟨y0, xs, rfl, f0, hf⟩ := all2_cons hf
    obtain ⟨y1, xs, rfl, f1, hf⟩ := all2_cons hf
    obtain ⟨y2, xs, rfl, f2, hf⟩ := all2_cons hf
    obtain ⟨y3, xs, rfl, f3, hf⟩ := all2_cons hf
    obtain ⟨y4, xs, rfl, f4, hf⟩ := all2_cons hf
    obtain ⟨y5, xs, rfl, f5, hf⟩ := all2_cons hf
    obtain ⟨y6, xs, rfl, f6, hf⟩ := all2_cons hf
    obtain ⟨y7, xs, rfl, f7, hf⟩ := all2_cons hf
    obtain ⟨y8, xs, rfl, f8, hf⟩ := all2_cons hf
    obtain ⟨y9, xs, rfl, f9, hf⟩ := all2_cons hf
    obtain ⟨y10, xs, rfl, f10, hf⟩ := all2_cons hf
    obtain ⟨y11, xs, rfl, f11, hf⟩ := all2_cons hf
    obtain ⟨y12, xs, rfl, f12, hf⟩ := all2_cons hf
    obtain ⟨y13, xs, rfl, f13, hf⟩ := all2_cons hf
    obtain ⟨y14, xs, rfl, f14, hf⟩ := all2_cons hf
    obtain ⟨y15, xs, rfl, f15, hf⟩ := all2_cons hf
    have := all2_nil hf
    subst this
    obtain ⟨b, rfl⟩ := isI_ok f0
    obtain ⟨a4, rfl⟩ := isI_ok f4
    obtain ⟨a5, rfl⟩ := isI_ok f5
    obtain ⟨a6, rfl⟩ := isI_ok f6
    obtain ⟨a7, rfl⟩ := isI_ok f7
    obtain ⟨s8, rfl⟩ := isS_ok f8
    obtain ⟨u9, w9, rfl⟩ := isC_ok f9
    obtain ⟨u10, w10, rfl⟩ := isC_ok f10
    obtain ⟨u11, w11, rfl⟩ := isC_ok f11
    obtain ⟨a13, rfl⟩ := isI_ok f13
    obtain ⟨a14, rfl⟩ := isI_ok f14
    obtain ⟨a15, rfl⟩ := isI_ok f15
    generalize hv : x.val = v at hr
    cases hr with
    | agg _ _ vs hl hx =>
      have g1 := hx 1 (by simp) (by rw [← hl]; simp)
      have g2 := hx 2 (by simp) (by rw [← hl]; simp)
      have g3 := hx 3 (by simp) (by rw [← hl]; simp)
      have g12 := hx 12 (by simp) (by rw [← hl]; simp)
      simp only [List.getElem_cons_succ, List.getElem_cons_zero] at g1 g2 g3 g12
      obtain ⟨n1, X1, g1⟩ := isL_ok f1 g1
      obtain ⟨n2, X2, g2⟩ := isL_ok f2 g2
      obtain ⟨n3, X3, g3⟩ := isL_ok f3 g3
      obtain ⟨n4, X4, g12⟩ := isL_ok f12 g12
      have g0 := hx 0 (by simp) (by rw [← hl]; simp)
      have hb0 : byV (.agg vs.toArray) = b := by
        match vs, hl with
        | v0 :: r, hl =>
          simp only [List.getElem_cons_zero] at g0
          have := isP_ok (x := wN b) rfl g0
          subst this
          rfl
      refine ⟨⟨?_, n1, n2, n3, n4, X1, X2, X3, X4, b, a4, a5, a6, a7, a13, a14, a15, s8, u9, w9, u10, w10, u11, w11, by rw [hv]; exact hb0, ?_⟩, by rw [hb0]; rfl⟩
      · unfold intKey at hk
        split at hk
        · rename_i n hn; exact ⟨n, hn⟩
        · cases hk
      · rw [hv]
        refine R.agg noEM _ vs hl (fun j h1 h2 => ?_)
        have hj := hx j h1 h2
        match j, h1, h2, hj with
        | 0, _, _, hj => exact cell1 hj rfl hS
        | 1, _, _, _ => exact g1.mono (Keeps.refl _ _) hS (Ext.refl _)
        | 2, _, _, _ => exact g2.mono (Keeps.refl _ _) hS (Ext.refl _)
        | 3, _, _, _ => exact g3.mono (Keeps.refl _ _) hS (Ext.refl _)
        | 4, _, _, hj => exact cell1 hj rfl hS
        | 5, _, _, hj => exact cell1 hj rfl hS
        | 6, _, _, hj => exact cell1 hj rfl hS
        | 7, _, _, hj => exact cell1 hj rfl hS
        | 8, _, _, hj => exact cell1 hj rfl hS
        | 9, _, _, hj => exact cell1 hj rfl hS
        | 10, _, _, hj => exact cell1 hj rfl hS
        | 11, _, _, hj => exact cell1 hj rfl hS
        | 12, _, _, _ => exact g12.mono (Keeps.refl _ _) hS (Ext.refl _)
        | 13, _, _, hj => exact cell1 hj rfl hS
        | 14, _, _, hj => exact cell1 hj rfl hS
        | 15, _, _, hj => exact cell1 hj rfl hS
        | j + 16, h1, _, _ => exact absurd h1 (by simp)
  · cases hf
theorem keep_ok {w : World} {S : Nat → Prop} {m : EM} {bm : Nat} (hS : ∀ b, S b → SB w bm b) (d : Int) : ∀ {l : List MapEntry} {ys : List AV}, ys.all fits = true → (l.map (·.key)).all intKey = true → RL w S m ys (l.map (·.val)) →
    (∀ x ∈ l, Ent w bm x) ∧ (l.filter (fun x => !(goes d x))).map (·.key) = (keepP d (l.map (·.key)) ys).1 ∧ RL w S m (keepP d (l.map (·.key)) ys).2 ((l.filter (fun x => !(goes d x))).map (·.val))
  | [], [], _, _, _ => ⟨fun x h => (by cases h), rfl, RL.nil⟩
  | [], y :: ys, _, _, hr => by have := hr.1; simp at this
  | x :: l, [], _, _, hr => by have := hr.1; simp at this
  | x :: l, y :: ys, hf, hk, hr => by
    rw [List.all_cons, Bool.and_eq_true] at hf
    rw [List.map_cons, List.all_cons, Bool.and_eq_true] at hk
    rcases hr.cases with ⟨e, _⟩ | ⟨y', ys', v, vs, e1, e2, h1, h2⟩
    · cases e
    · rw [List.map_cons] at e2
      cases e1; cases e2
      obtain ⟨g1, g2, g3⟩ := keep_ok hS d hf.2 hk.2 h2
      obtain ⟨p1, p2⟩ := ent_of hS hf.1 hk.1 h1
      have hgo : goes d x = (byOf y == d) := by unfold goes; rw [p2]
      refine ⟨fun z hz => ?_, ?_, ?_⟩
      · rcases List.mem_cons.1 hz with rfl | hz
        · exact p1
        · exact g1 z hz
      · rw [List.map_cons]
        show _ = (match keepP d (l.map (fun x : MapEntry => x.key)) ys with | (a, b) => cond (byOf y == d) (a, b) (x.key :: a, y :: b)).1
        cases hq : (byOf y == d) with
        | true => rw [List.filter_cons_of_neg (by rw [hgo, hq]; decide), g2]; rfl
        | false => rw [List.filter_cons_of_pos (by rw [hgo, hq]; rfl), List.map_cons, g2]; rfl
      · rw [List.map_cons]
        show RL _ _ _ (match keepP d (l.map (fun x : MapEntry => x.key)) ys with | (a, b) => cond (byOf y == d) (a, b) (x.key :: a, y :: b)).2 _
        cases hq : (byOf y == d) with
        | true => rw [List.filter_cons_of_neg (by rw [hgo, hq]; decide)]; exact g3
        | false => rw [List.filter_cons_of_pos (by rw [hgo, hq]; rfl), List.map_cons]; exact RL.cons h1 g3
theorem ev01 (u v : Value) (n : Nat) : ({ tmps := [u, v].toArray ++ Array.replicate n undef, defers := [] } : Act).eval (.tmp 0) = u ∧ ({ tmps := [u, v].toArray ++ Array.replicate n undef, defers := [] } : Act).eval (.tmp 1) = v := by
  constructor
  · simp only [Act.eval, Array.getD_eq_getD_getElem?]
    rw [Array.getElem?_append_left (by simp)]
    rfl
  · simp only [Act.eval, Array.getD_eq_getD_getElem?]
    rw [Array.getElem?_append_left (by simp)]
    rfl
set_option maxHeartbeats 2000000 in
theorem del_con {args : List AV} {hp hp' : List Blk} {r : AV} (h : delV args hp = some (r, hp')) : FnOk Tryz.prog 111 args hp r hp' := by
  unfold delV at h
  split at h
  case h_2 => cases h
  rename_i j g i gi
  split at h
  case h_2 => cases h
  rename_i ks mb b hM hB
  split at h
  case h_2 => cases h
  rename_i d hcells
  cases hc : (!b.row && !mb.ro && mb.cells.all fits && ks.all intKey && Nat.beq ks.length mb.cells.length) with
  | false => rw [hc] at h; cases h
  | true =>
  rw [hc, cond_true] at h
  simp only [Bool.and_eq_true, Bool.not_eq_true'] at hc
  obtain ⟨⟨⟨⟨c1, c2⟩, c3⟩, c4⟩, c5⟩ := hc
  cases h
  refine fn_turn (fn := Tryz.f111) (c := df) Tryz.func111 (by kernel_rfl) (by kernel_rfl) ?_
  intro m S w args' hs hr
  obtain ⟨u, v, rfl, hu, hv⟩ : ∃ u v, args' = [u, v] ∧ R w S m (.mp j g) u ∧ R w S m (.fn (.func 112) [] [.ptr i gi 0]) v := by
    have hl := hr.1
    match args', hl with
    | [u, v], _ => exact ⟨u, v, rfl, hr.2 0 (by simp) (by simp), hr.2 1 (by simp) (by simp)⟩
  obtain ⟨b1, b2, b3, e, pl, b4, b5, rfl, es, clock, hobj, hkeys, hvals, hst⟩ := getM_raw hs hM hu
  have hbm : pl.b < w.heap.size := (Array.getElem?_eq_some_iff.1 hobj).1
  have hnS : ¬ S pl.b := ((hs.ro j mb e pl b1 b4 b5).2 c2).1
  have hS : ∀ c, S c → SB w pl.b c := fun c hc => ⟨hs.sok c hc, fun q => hnS (q ▸ hc)⟩
  have hks : (es.toList.map (·.key)).all intKey = true := by rw [hkeys]; exact c4
  obtain ⟨hent, hk1, hk2⟩ := keep_ok (d := d) hS c3 hks hvals
  rw [hkeys] at hk1 hk2
  -- the closure, with what it has caught
  have hf : R w (SB w pl.b) noEM (fnV d) v := by
    cases hv with
    | fn m f xs us ys vs hl hx hl2 hx2 =>
      refine .fn noEM _ [] _ ys vs hl (fun j h => absurd h (Nat.not_lt_zero _)) hl2 (fun q h h' => ?_)
      match q, h, h' with
      | 0, h, h' =>
        have hp0 := hx2 0 (by simp) h'
        simp only [List.getElem_cons_zero] at hp0 ⊢
        obtain ⟨_, _, e', he', heg, _, hblk⟩ := getB_ok hs hB
        generalize vs[0] = pv at hp0
        cases hp0 with
        | ptr m i k e2 pl' q1 q2 =>
          obtain ⟨x1, x2, x3, x4, cs, x5, x6⟩ := hblk pl' (by rw [he'] at q1; cases q1; exact q2)
          rw [c1, cond_false, hcells] at x6
          have hne : pl'.b ≠ pl.b := fun q => by
            have := hs.inj i j e2 e pl' pl q1 b4 q2 b5 q
            subst this
            have hk := getB_keys hB
            have := (getB_ok hs hB).1
            rw [b1] at this
            cases this
            rw [b2] at hk; cases hk
          obtain ⟨c0, rfl⟩ : ∃ c0, cs = [c0] := by
            have := x6.1
            match cs, this with
            | [c0], _ => exact ⟨c0, rfl⟩
          have hc0 := isP_ok (x := wN d) rfl (x6.2 0 (by simp) (by simp))
          simp only [List.getElem_cons_zero] at hc0
          subst hc0
          have := R.ip (w := w) (S := SB w pl.b) noEM [wN d] 0 pl'.b pl'.o (fun _ => .int .i64 d) ⟨x2, hne⟩ (fun q hq => by
            have : q = 0 := by simpa using hq
            subst this
            exact x5 0 _ rfl) (fun q hq => by
            have : q = 0 := by simpa using hq
            subst this
            exact .p _ _)
          exact this
        | ptrOld m i g k e2 a q1 q2 => rw [he'] at q1; cases q1; omega
  have hnt : Tryz.f111.ntmps = 19 := by kernel_rfl
  rw [hnt]
  generalize ha : ({ tmps := [Value.map (some pl.b), v].toArray ++ Array.replicate (19 - [Value.map (some pl.b), v].toArray.size) undef, defers := [] } : Act) = a0
  have hN0 : a0.tmps.size = 19 := by rw [← ha]; simp
  have hd0 : a0.defers = [] := by rw [← ha]
  have h00 : a0.eval (.tmp 0) = .map (some pl.b) := by rw [← ha]; exact (ev01 _ _ _).1
  have h01 : a0.eval (.tmp 1) = v := by rw [← ha]; exact (ev01 _ _ _).2
  have hNN : (19 : Nat) < 16383 := by decide
  rw [df_eq]
  refine wp_seq (wp_region ?_)
  rw [z0]
  show wpOps _ _ _ (List.range' 0 1 ++ [1]) _ _
  refine wpOps_at (hp := []) (W0 := w) (O := fun _ => False) (S0 := ST w pl.b w.heap.size) (m0 := noEM) 0 1 [1] sRun hNN (dst_ok (by kernel_rfl)) (by rw [z0]; rfl) rfl (q0 pl.b d) (sim_from (l := [0, 1].zip [.p (.map (some pl.b)), fnV d]) (fun b h => h.1) (by simp) (fun q hq => by
    simp only [List.zip_cons_cons, List.zip_nil_right, List.mem_cons, List.not_mem_nil, or_false] at hq
    rcases hq with rfl | rfl
    · rw [h00]; exact .p _ _
    · rw [h01]; exact hf.mono (Keeps.refl _ _) (fun b hb => ⟨hb.1, hb.2, by have := hb.1; omega⟩) (Ext.refl _)) hN0 hd0) hd0 (fun a1 w1 hs1 hd1 => ?_)
  obtain ⟨m1, S1, y1, y2, y3, y4, _⟩ := hs1
  have g1 := y1.below
  have k6 : a1.eval (.tmp 6) = .map (some pl.b) := isP_ok (x := .p (.map (some pl.b))) rfl (y3 6)
  have k0 : a1.eval (.tmp 0) = .map (some pl.b) := isP_ok (x := .p (.map (some pl.b))) rfl (y3 0)
  have k1 : R w1 S1 noEM (fnV d) (a1.eval (.tmp 1)) := fn_out (y3 1)
  have hobj1 : w1.heap[pl.b]? = some (.map es clock) := by rw [g1.block _ hbm, hobj]
  obtain ⟨et, hty⟩ := mapTy
  rw [wpOps_cons]
  refine op_val oR.1 oR.2.1 (v := .pointer (some ⟨w1.heap.size, 0, none⟩)) (w' := w1.alloc (.mapIter (some pl.b) clock #[] clock)) (by simp [execOp, oR.2.2.1, k6, run_range_map (P := Tryz.prog) w1 217 3 et pl.b es clock hty hobj1]) ?_
  have e7 : ∀ i, (a1.put (oAt r0 1).dst (.pointer (some ⟨w1.heap.size, 0, none⟩))).eval (.tmp i) = if 7 = i then .pointer (some ⟨w1.heap.size, 0, none⟩) else a1.eval (.tmp i) := fun i => by rw [oR.2.2.2]; exact eval_put_tmp a1 7 i _ (by omega)
  have hbl1 : Below w.heap.size w (w1.alloc (.mapIter (some pl.b) clock #[] clock)) := g1.alloc g1.size _
  have hbm1 : pl.b < w1.heap.size := Nat.lt_of_lt_of_le hbm g1.size
  refine wp_block (wp_loop_rounds (es.size + 1) (rounds_ok (r := w1.heap.size) (d := d) hst hent hbm g1.size ?_ es.size _ _ #[] (by unfold leftOf; exact Array.size_filter_le ..) ⟨But.of_below hbl1 _, ?_, ?_, ?_, by rw [put_size, y4], by rw [put_defers, hd1], (MapKept.heap_alloc w1 _).1, es, ?_, (stay_none _ _).symm, hst⟩))
  · intro a' w' hdf' hbut ⟨es', hob', hes', hst'⟩
    obtain ⟨z1, z2⟩ := hs.turned b1 b2 c2 b4 b5 (b' := { mb with cells := (keepP d ks mb.cells).2, keys := some (keepP d ks mb.cells).1 }) rfl c2 rfl hobj (by rw [hes', hk1]) (by rw [hes']; exact hk2) hst' hbut hob'
    exact ⟨.inl rfl, hdf', z1⟩
  · rw [e7, if_neg (show ¬ (7 = 0) by decide), k0]
  · rw [e7, if_neg (show ¬ (7 = 1) by decide)]
    refine k1.mono (fun b hb => heap_alloc_old w1 _ (y1.sok b hb)) (fun b hb => ?_) (Ext.refl _)
    have hlt := y1.sok b hb
    refine ⟨by simp; omega, ?_, by omega⟩
    rcases y1.snew b hb with q | q | q
    · exact q.2.1
    · exact absurd q (fun h => h)
    · omega
  · rw [e7, if_pos rfl]
  · rw [heap_alloc_old w1 _ hbm1, hobj1]
end Df
end Go.Proofs.YtlemialjfnbchaaGreat

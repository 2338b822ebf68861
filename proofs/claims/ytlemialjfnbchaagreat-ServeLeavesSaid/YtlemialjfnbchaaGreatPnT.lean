/- Pool.Pinned: a range over a map that only reads. Made by g24.py. -/
import Derived.Test.YtlemialjfnbchaaGreatVmS7
import Derived.Test.YtlemialjfnbchaaGreatStT

namespace Go.Proofs.YtlemialjfnbchaaGreat
open Go Go.Vm Go.RowKit Sm
set_option maxRecDepth 100000
namespace Pn
def opsOf : Code → Array Oper | .region _ ops _ => ops | _ => #[]
def oAt (ops : Array Oper) (i : Nat) : Oper := match ops[i]? with | some o => o | none => { dst := none, op := .load 0 (.tmp 0), type := 0, pos := "", after := #[], guard := none }
noncomputable def pn : Code := bodyOf Tryz.f25
noncomputable def pnB : Code := cI (cI (cR (cL (cN 2 pn))))
noncomputable def pnE : Code := cI (cN 2 pnB)
noncomputable def r0 : Array Oper := opsOf (cL pn)
noncomputable def r1 : Array Oper := opsOf (cL (cN 1 pn))
noncomputable def rO : Array Oper := opsOf (cL (cL (cN 2 pn)))
noncomputable def nO : Array Oper := opsOf (cL pnB)
noncomputable def eO : Array Oper := opsOf (cL pnE)
noncomputable def r5 : Array Oper := opsOf (cR pnE)
noncomputable def r6 : Array Oper := opsOf (cL (cN 3 pn))
theorem pn_eq : pn = .seq (.region 0 r0 false) (.seq (.region 1 r1 false) (.seq (.seq (.region 2 rO false) (.block 0 (.loop pnB))) (.seq (.region 6 r6 false) .ret))) := by kernel_rfl
theorem pnB_eq : pnB = .seq (.region 3 nO false) (.seq (.cond (.tmp 12) .skip (.exit 0)) (.block 1 (.seq (.region 4 eO false) (.region 5 r5 false)))) := by kernel_rfl
abbrev ipV (bm : Nat) : AV := .ip [.top, .top, .top, .p (.map (some bm))] 0
abbrev frA (n : Nat) (X : List AV) (p m : Nat) (Y : List AV) : List AV := [.lst n X, wN (Int.ofNat p), .lst m Y]
abbrev addV (c p : Nat) : AV := wN (IntKind.wrap .i64 (Int.ofNat c + (if (1 : Int) < Int.ofNat p then 1 else Int.ofNat p)))
section
variable (bm c p n m : Nat) (X Y : List AV) (it key : Value)
theorem q0 : (opsV Tryz.prog sV mS r0 ((r0.toList.drop 0).take 1) (mk ([0].zip [ipV bm])) []).map (fun q => ([0].map q.1.get, q.2)) = some ([ipV bm], []) := by kernel_rfl
theorem q1 : (opsV Tryz.prog sV mS r1 ((r1.toList.drop 0).take 1) (mk ([0].zip [ipV bm])) []).map (fun q => ([0, 3].map q.1.get, q.2)) = some ([ipV bm, wN (Int.ofNat 0)], []) := by kernel_rfl
theorem q2 : (opsV Tryz.prog sV mS rO ((rO.toList.drop 0).take 4) (mk ([0, 3].zip [ipV bm, wN (Int.ofNat 0)])) []).map (fun q => ([3, 9].map q.1.get, q.2)) = some ([wN (Int.ofNat 0), .p (.map (some bm))], []) := by kernel_rfl
theorem q3 : (opsV Tryz.prog sV mS nO ((nO.toList.drop 1).take 1) (mk ([3, 10, 11].zip [wN (Int.ofNat c), .p it, .tup [wB true, .top, .top]])) []).map (fun q => ([3, 10, 12].map q.1.get, q.2)) = some ([wN (Int.ofNat c), .p it, wB true], []) := by kernel_rfl
theorem q3' : (opsV Tryz.prog sV mS nO ((nO.toList.drop 1).take 1) (mk ([3, 10, 11].zip [wN (Int.ofNat c), .p it, .tup [wB false]])) []).map (fun q => ([3, 10, 12].map q.1.get, q.2)) = some ([wN (Int.ofNat c), .p it, wB false], []) := by kernel_rfl
theorem q4 : (opsV Tryz.prog sV mS eO ((eO.toList.drop 1).take 3) (mk ([3, 10, 13].zip [wN (Int.ofNat c), .p it, .tup [.p key, .agg (frA n X p m Y)]])) []).map (fun q => ([3, 5, 10].map q.1.get, q.2)) = some ([wN (Int.ofNat c), .ptr 0 0 0, .p it], [{ cells := frA n X p m Y, esz := 0, gen := 0, row := false, ro := false }]) := by kernel_rfl
theorem q5 : (opsV Tryz.prog sV mS r5 ((r5.toList.drop 0).take 6) (mk ([3, 5, 10].zip [wN (Int.ofNat c), .ptr 0 0 0, .p it])) [{ cells := frA n X p m Y, esz := 0, gen := 0, row := false, ro := false }]).map (fun q => ([3, 10].map q.1.get, q.2)) =
    some ([addV c p, .p it], [{ cells := frA n X p m Y, esz := 0, gen := 0, row := false, ro := false }]) := by kernel_rfl
theorem q6 : (opsV Tryz.prog sV mS r6 ((r6.toList.drop 0).take 2) (mk ([3].zip [wN (Int.ofNat c)])) []).map (fun q => ([2].map q.1.get, q.2)) = some ([wN (Int.ofNat c)], []) := by kernel_rfl
theorem oR : rO[4]? = some (oAt rO 4) ∧ (oAt rO 4).guard = none ∧ (oAt rO 4).op = Op.range 130 (.tmp 9) ∧ (oAt rO 4).dst = some 10 := ⟨by kernel_rfl, by kernel_rfl, by kernel_rfl, by kernel_rfl⟩
theorem oN : nO[0]? = some (oAt nO 0) ∧ (oAt nO 0).guard = none ∧ (oAt nO 0).op = Op.next (.tmp 10) false ∧ (oAt nO 0).dst = some 11 := ⟨by kernel_rfl, by kernel_rfl, by kernel_rfl, by kernel_rfl⟩
theorem oE : eO[0]? = some (oAt eO 0) ∧ (oAt eO 0).guard = none ∧ (oAt eO 0).op = Op.entry (.tmp 10) ∧ (oAt eO 0).dst = some 13 := ⟨by kernel_rfl, by kernel_rfl, by kernel_rfl, by kernel_rfl⟩
theorem z0 : r0.size = 1 := by kernel_rfl
theorem z1 : r1.size = 1 := by kernel_rfl
theorem zR : rO.size = 5 := by kernel_rfl
theorem zN : nO.size = 2 := by kernel_rfl
theorem zE : eO.size = 4 := by kernel_rfl
theorem z5 : r5.size = 6 := by kernel_rfl
theorem z6 : r6.size = 2 := by kernel_rfl
theorem dst_ok {l : List Oper} (h : (l.all fun o => match o.dst with | some d => Nat.blt d 21 | none => true) = true) : ∀ o ∈ l, ∀ d, o.dst = some d → d < 21 := by
  intro o ho d hd
  have := List.all_eq_true.1 h o ho
  rw [hd] at this
  exact Nat.le_of_ble_eq_true this
theorem mapTy : ∃ k e, Tryz.prog.underlying 130 = some (.map k e) := by
  have h : (match Tryz.prog.underlying 130 with | some (.map _ _) => true | _ => false) = true := by kernel_rfl
  split at h
  · exact ⟨_, _, by assumption⟩
  · cases h
end
/-- an entry's share -/
def gV (v : Value) : Nat := match v with
  | .agg a => (match a[1]? with | some (Value.int _ (Int.ofNat p)) => Nat.min p 1 | _ => 0)
  | _ => 0
def gE (x : MapEntry) : Nat := gV x.val
abbrev S0 (w : World) (b : Nat) : Prop := b < w.heap.size
def Inv (w : World) (r bm : Nat) (es : Array MapEntry) (clock : Nat) (a : Act) (wr : World) (seen : Array Nat) : Prop :=
  Below w.heap.size w wr ∧ a.eval (.tmp 3) = .int .i64 (Int.ofNat (seenN gE seen es.toList)) ∧ a.eval (.tmp 10) = .pointer (some ⟨r, 0, none⟩) ∧ a.tmps.size = 21 ∧ a.defers = [] ∧
    wr.heap[r]? = some (.mapIter (some bm) clock seen clock)
def Ent (w : World) (x : MapEntry) : Prop := ∃ n X p m Y, gE x = Nat.min p 1 ∧ R w (S0 w) noEM (.agg (frA n X p m Y)) x.val
theorem gV_le (v : Value) : gV v ≤ 1 := by
  unfold gV
  split
  · split
    · exact Nat.min_le_right _ _
    · omega
  · omega
theorem seenN_le (seen : Array Nat) : ∀ l : List MapEntry, seenN gE seen l ≤ l.length
  | [] => by simp [seenN]
  | x :: l => by
    have := seenN_le seen l
    have := gV_le x.val
    unfold seenN gE
    rw [List.length_cons]
    unfold gE at *
    split <;> omega
theorem addV_eq {c p : Nat} (h : c < 1000000) : addV c p = wN (Int.ofNat (c + Nat.min p 1)) := by
  have e : (if (1 : Int) < Int.ofNat p then 1 else Int.ofNat p) = Int.ofNat (Nat.min p 1) := by
    simp only [Int.ofNat_eq_natCast]
    have : Nat.min p 1 = if p ≤ 1 then p else 1 := rfl
    rw [this]
    by_cases hp : p ≤ 1
    · rw [if_neg (by omega), if_pos hp]
    · rw [if_pos (by omega), if_neg hp]; rfl
  have hm : Nat.min p 1 ≤ 1 := Nat.min_le_right _ _
  unfold addV
  rw [e]
  congr 2
  show (if (true && decide ((Int.ofNat c + Int.ofNat (Nat.min p 1)) % 18446744073709551616 ≥ 9223372036854775808)) = true then (Int.ofNat c + Int.ofNat (Nat.min p 1)) % 18446744073709551616 - 18446744073709551616 else (Int.ofNat c + Int.ofNat (Nat.min p 1)) % 18446744073709551616) = _
  generalize Nat.min p 1 = q at *
  simp only [Bool.true_and, decide_eq_true_eq, Int.ofNat_eq_natCast]
  split <;> omega
theorem round {w : World} {r bm : Nat} {es : Array MapEntry} {clock : Nat} (hb : w.heap[bm]? = some (.map es clock)) (hbm : bm < w.heap.size) (hst : MapKept.Stamped es clock) (hg : ∀ x ∈ es.toList, Ent w x) (hsz : es.size < 100000) (hwr : w.heap.size ≤ r) {a : Act} {wr : World} {seen : Array Nat} (hi : Inv w r bm es clock a wr seen) :
    pnB.wp Tryz.prog (fun e a' w' => (e = .normal ∧ ∃ seen', Inv w r bm es clock a' w' seen' ∧ (leftOf es seen').size < (leftOf es seen).size) ∨
      (e = .exit 0 ∧ Below w.heap.size w w' ∧ a'.eval (.tmp 3) = .int .i64 (Int.ofNat (es.toList.map gE).sum) ∧ a'.tmps.size = 21 ∧ a'.defers = [])) a wr := by
  obtain ⟨hbl, h3, h10, hN, hdf, hr⟩ := hi
  have hmap : wr.heap[bm]? = some (.map es clock) := by rw [hbl.block bm hbm, hb]
  have hNN : (21 : Nat) < 16383 := by decide
  have hc := seenN_le seen es.toList
  rw [Array.length_toList] at hc
  generalize hcn : seenN gE seen es.toList = c at h3 hc
  rw [pnB_eq]
  refine wp_seq (wp_region ?_)
  rw [zN]
  show wpOps _ _ _ [0, 1] _ _
  rw [wpOps_cons]
  rcases run_next_at (P := Tryz.prog) wr (oAt nO 0).type r bm clock clock seen es clock hr hmap hst.1 (Nat.le_refl _) with ⟨h0, hrun⟩ | ⟨e, he, w1, hw1, hrun⟩
  · refine op_val oN.1 oN.2.1 (v := .tuple #[.bool false]) (w' := wr) (by simp [execOp, oN.2.2.1, h10, hrun]) ?_
    have e1 : ∀ i, (a.put (oAt nO 0).dst (.tuple #[.bool false])).eval (.tmp i) = if 11 = i then .tuple #[.bool false] else a.eval (.tmp i) := fun i => by rw [oN.2.2.2]; exact eval_put_tmp a 11 i _ (by omega)
    refine wpOps_at (hp := []) (W0 := wr) (O := fun _ => False) (S0 := S0 wr) (m0 := noEM) 1 1 [] sRun hNN (dst_ok (by kernel_rfl)) (by rw [zN]; rfl) rfl (q3' c _) (sim_from (l := [3, 10, 11].zip [wN (Int.ofNat c), .p (.pointer (some ⟨r, 0, none⟩)), .tup [wB false]]) (fun b h => h) (by simp) ?_ (by rw [put_size, hN]) (by rw [put_defers, hdf])) (by rw [put_defers, hdf]) (fun a' w' hs' hdf' => ?_)
    · intro q hq
      simp only [List.zip_cons_cons, List.zip_nil_right, List.mem_cons, List.not_mem_nil, or_false] at hq
      rcases hq with rfl | rfl | rfl
      · rw [e1, if_neg (show ¬ (11 = 3) by decide), h3]; exact .p _ _
      · rw [e1, if_neg (show ¬ (11 = 10) by decide), h10]; exact .p _ _
      · rw [e1, if_pos rfl]
        exact R.tup noEM [wB false] [.bool false] rfl (fun j h1 h2 => by
          have : j = 0 := by simpa using h1
          subst this; exact .p _ _)
    obtain ⟨g1, g2, g3⟩ := sim_to hs'
    have k12 : a'.eval (.tmp 12) = .bool false := g2 12 _ rfl
    have k3 := g2 3 _ rfl
    refine wp_seq (wp_cond_false k12 ?_)
    refine wp_exit ?_
    refine .inr ⟨rfl, hbl.trans (g1.mono hbl.size), ?_, g3, hdf'⟩
    rw [k3, ← hcn, seenN_all (all_seen es seen h0)]
  · have hel := mem_left he
    have hw1h : w1.heap = wr.heap := by rcases hw1 with rfl | rfl <;> rfl
    have hrlt : r < wr.heap.size := by
      rcases Nat.lt_or_ge r wr.heap.size with q | q
      · exact q
      · rw [Array.getElem?_eq_none q] at hr; cases hr
    generalize hw2 : ChangeMaps.setBlock w1 r (.mapIter (some bm) clock (seen.push e.born) clock) = w2 at hrun
    have hheap : w2.heap = wr.heap.setIfInBounds r (.mapIter (some bm) clock (seen.push e.born) clock) := by rw [← hw2, ← hw1h]; rfl
    have hk2 : ∀ b, b ≠ r → w2.heap[b]? = wr.heap[b]? := fun b hne => by rw [hheap, Array.getElem?_setIfInBounds_ne (fun q => hne q.symm)]
    have hr2 : w2.heap[r]? = some (.mapIter (some bm) clock (seen.push e.born) clock) := by rw [hheap]; simp [hrlt]
    have hst2 : w2.os = wr.os ∧ w2.tape = wr.tape ∧ w2.output = wr.output := by
      rw [← hw2]; rcases hw1 with rfl | rfl <;> exact ⟨rfl, rfl, rfl⟩
    have hsz2 : w2.heap.size = wr.heap.size := by rw [hheap]; simp
    have hbl2 : Below w.heap.size w w2 := ⟨hst2.1.trans hbl.os, hst2.2.1.trans hbl.tape, hst2.2.2.trans hbl.output, hsz2 ▸ hbl.size, fun b hlt => (hk2 b (by omega)).trans (hbl.block b hlt)⟩
    have hmap2 : w2.heap[bm]? = some (.map es clock) := by rw [hk2 bm (by omega), hmap]
    refine op_val oN.1 oN.2.1 (v := .tuple #[.bool true, e.key, e.val]) (w' := w2) (by simp [execOp, oN.2.2.1, h10, hrun]) ?_
    have e1 : ∀ i, (a.put (oAt nO 0).dst (.tuple #[.bool true, e.key, e.val])).eval (.tmp i) = if 11 = i then .tuple #[.bool true, e.key, e.val] else a.eval (.tmp i) := fun i => by rw [oN.2.2.2]; exact eval_put_tmp a 11 i _ (by omega)
    refine wpOps_at (hp := []) (W0 := w2) (O := fun _ => False) (S0 := S0 w2) (m0 := noEM) 1 1 [] sRun hNN (dst_ok (by kernel_rfl)) (by rw [zN]; rfl) rfl (q3 c _) (sim_from (l := [3, 10, 11].zip [wN (Int.ofNat c), .p (.pointer (some ⟨r, 0, none⟩)), .tup [wB true, .top, .top]]) (fun b h => h) (by simp) ?_ (by rw [put_size, hN]) (by rw [put_defers, hdf])) (by rw [put_defers, hdf]) (fun a3 w3 hs3 hdf3 => ?_)
    · intro q hq
      simp only [List.zip_cons_cons, List.zip_nil_right, List.mem_cons, List.not_mem_nil, or_false] at hq
      rcases hq with rfl | rfl | rfl
      · rw [e1, if_neg (show ¬ (11 = 3) by decide), h3]; exact .p _ _
      · rw [e1, if_neg (show ¬ (11 = 10) by decide), h10]; exact .p _ _
      · rw [e1, if_pos rfl]
        exact R.tup noEM [wB true, .top, .top] [.bool true, e.key, e.val] rfl (fun j h1 h2 => by
          match j, h1 with
          | 0, _ => exact .p _ _
          | 1, _ => exact .top _ _
          | 2, _ => exact .top _ _)
    obtain ⟨g1, g2, g3⟩ := sim_to hs3
    have k12 : a3.eval (.tmp 12) = .bool true := g2 12 _ rfl
    have k3 := g2 3 _ rfl
    have k10 := g2 10 _ rfl
    have hbl3 : Below w.heap.size w w3 := hbl2.trans (g1.mono hbl2.size)
    have hr3 : w3.heap[r]? = some (.mapIter (some bm) clock (seen.push e.born) clock) := by rw [g1.block r (by omega), hr2]
    have hmap3 : w3.heap[bm]? = some (.map es clock) := by rw [hbl3.block bm hbm, hb]
    refine wp_seq (wp_cond_true k12 (wp_skip ?_))
    refine wp_block (wp_seq (wp_region ?_))
    rw [zE]
    show wpOps _ _ _ [0, 1, 2, 3] _ _
    rw [wpOps_cons]
    refine op_val oE.1 oE.2.1 (v := .tuple #[e.key, e.val]) (w' := w3) (by simp [execOp, oE.2.2.1, k10, run_entry_at (P := Tryz.prog) w3 r bm clock seen es clock e hr3 hmap3 hel.1 hst.2.1]) ?_
    obtain ⟨n, X, p, m, Y, hgp, hRv⟩ := hg e hel.1
    have hRv3 : R w3 (S0 w3) noEM (.agg (frA n X p m Y)) e.val := hRv.mono (show Keeps (S0 w) w w3 from fun b h => hbl3.block b h) (fun b h => Nat.lt_of_lt_of_le h hbl3.size) (Ext.refl _)
    have e2 : ∀ i, (a3.put (oAt eO 0).dst (.tuple #[e.key, e.val])).eval (.tmp i) = if 13 = i then .tuple #[e.key, e.val] else a3.eval (.tmp i) := fun i => by rw [oE.2.2.2]; exact eval_put_tmp a3 13 i _ (by omega)
    refine wpOps_at (hp := []) (W0 := w3) (O := fun _ => False) (S0 := S0 w3) (m0 := noEM) 1 3 [] sRun hNN (dst_ok (by kernel_rfl)) (by rw [zE]; rfl) rfl (q4 c p n m X Y _ _) (sim_from (l := [3, 10, 13].zip [wN (Int.ofNat c), .p (.pointer (some ⟨r, 0, none⟩)), .tup [.p e.key, .agg (frA n X p m Y)]]) (fun b h => h) (by simp) ?_ (by rw [put_size, g3]) (by rw [put_defers, hdf3])) (by rw [put_defers, hdf3]) (fun a4 w4 hs4 hdf4 => ?_)
    · intro q hq
      simp only [List.zip_cons_cons, List.zip_nil_right, List.mem_cons, List.not_mem_nil, or_false] at hq
      rcases hq with rfl | rfl | rfl
      · rw [e2, if_neg (show ¬ (13 = 3) by decide), k3]; exact .p _ _
      · rw [e2, if_neg (show ¬ (13 = 10) by decide), k10]; exact .p _ _
      · rw [e2, if_pos rfl]
        exact R.tup noEM [.p e.key, .agg (frA n X p m Y)] [e.key, e.val] rfl (fun j h1 h2 => by
          match j, h1 with
          | 0, _ => exact .p _ _
          | 1, _ => exact hRv3)
    refine wp_region ?_
    rw [z5]
    show wpOps _ _ _ (List.range' 0 6 ++ []) _ _
    refine wpOps_at 0 6 [] sRun hNN (dst_ok (by kernel_rfl)) (by rw [z5]; rfl) rfl (q5 c p n m X Y _) hs4 hdf4 (fun a5 w5 hs5 hdf5 => ?_)
    obtain ⟨f1, f2, f3⟩ := sim_to hs5
    rw [addV_eq (by omega)] at f2
    have hbl5 : Below w.heap.size w w5 := hbl3.trans (f1.mono hbl3.size)
    refine .inl ⟨rfl, seen.push e.born, ⟨hbl5, ?_, f2 10 _ rfl, f3, hdf5, ?_⟩, left_shrinks es seen e he⟩
    · rw [f2 3 _ rfl, seenN_push hel.2 hel.1 hst.2.1, hcn, hgp]
    · have h33 := g1.size
      rw [f1.block r (by omega), hr3]
theorem rounds_ok {w : World} {r bm : Nat} {es : Array MapEntry} {clock : Nat} (hb : w.heap[bm]? = some (.map es clock)) (hbm : bm < w.heap.size) (hst : MapKept.Stamped es clock) (hg : ∀ x ∈ es.toList, Ent w x) (hsz : es.size < 100000) (hwr : w.heap.size ≤ r) {Q : Exit → Act → World → Prop}
    (hQ : ∀ a' w', Below w.heap.size w w' → a'.eval (.tmp 3) = .int .i64 (Int.ofNat (es.toList.map gE).sum) → a'.tmps.size = 21 → a'.defers = [] → Q (.exit 0) a' w') :
    ∀ (k : Nat) (a : Act) (wr : World) (seen : Array Nat), (leftOf es seen).size ≤ k → Inv w r bm es clock a wr seen → Code.rounds Tryz.prog pnB Q (k + 1) a wr
  | 0, a, wr, seen, hk, hi => by
    rw [rounds_succ]
    refine wp_mono (round hb hbm hst hg hsz hwr hi) ?_
    rintro e a' w' (⟨rfl, seen', _, hlt⟩ | ⟨rfl, k1, k2, k3, k4⟩)
    · omega
    · exact hQ a' w' k1 k2 k3 k4
  | k + 1, a, wr, seen, hk, hi => by
    rw [rounds_succ]
    refine wp_mono (round hb hbm hst hg hsz hwr hi) ?_
    rintro e a' w' (⟨rfl, seen', hi', hlt⟩ | ⟨rfl, k1, k2, k3, k4⟩)
    · exact rounds_ok hb hbm hst hg hsz hwr hQ k a' w' seen' (by omega) hi'
    · exact hQ a' w' k1 k2 k3 k4
theorem ents {w : World} {S : Nat → Prop} {m : EM} (hS : ∀ b, S b → b < w.heap.size) : ∀ {ys : List AV} {l : List MapEntry} {n : Nat}, pinS ys = some n → RL w S m ys (l.map (·.val)) → (∀ x ∈ l, Ent w x) ∧ (l.map gE).sum = n
  | [], l, n, h, hr => by
    have hl : l = [] := by have := hr.1; simpa using this.symm
    subst hl
    have : n = 0 := by simpa [pinS] using h.symm
    exact ⟨by simp, by simp [this]⟩
  | y :: ys, [], n, h, hr => by have := hr.1; simp at this
  | y :: ys, x :: l, n, h, hr => by
    obtain ⟨n0, X, p, m', Y, n', rfl, h', rfl⟩ := pinS_cons h
    have hrl : RL w S m ys (l.map (·.val)) := ⟨by have := hr.1; simpa using this, fun j h1 h2 => by have := hr.2 (j + 1) (by simpa using h1) (by simpa using h2); simpa using this⟩
    obtain ⟨g1, g2⟩ := ents hS h' hrl
    have hx : R w S m (.agg [.lst n0 X, .p (.int .i64 (.ofNat p)), .lst m' Y]) x.val := by have := hr.2 0 (by simp) (by simp); simpa using this
    have hE : gE x = Nat.min p 1 ∧ R w (S0 w) noEM (.agg (frA n0 X p m' Y)) x.val := by
      unfold gE
      generalize x.val = v at hx
      cases hx with
      | agg _ _ vs hl hv =>
        obtain ⟨v0, v1, v2, rfl⟩ : ∃ v0 v1 v2, vs = [v0, v1, v2] := by
          match vs, hl with
          | [v0, v1, v2], _ => exact ⟨v0, v1, v2, rfl⟩
        have e0 := hv 0 (by simp) (by simp)
        have e1 := hv 1 (by simp) (by simp)
        have e2 := hv 2 (by simp) (by simp)
        simp only [List.getElem_cons_zero, List.getElem_cons_succ] at e0 e1 e2
        have e1' := isP_ok (x := .p (.int .i64 (.ofNat p))) rfl e1
        subst e1'
        refine ⟨rfl, ?_⟩
        have hk : Keeps S w w := Keeps.refl _ _
        refine R.agg noEM (frA n0 X p m' Y) [v0, .int .i64 (.ofNat p), v2] rfl (fun j h1 h2 => ?_)
        match j, h1 with
        | 0, _ => exact (R.noBlk noEM rfl e0).mono hk hS (Ext.refl _)
        | 1, _ => exact .p _ _
        | 2, _ => exact (R.noBlk noEM rfl e2).mono hk hS (Ext.refl _)
    refine ⟨fun z hz => ?_, ?_⟩
    · rcases List.mem_cons.1 hz with rfl | hz
      · exact ⟨n0, X, p, m', Y, hE⟩
      · exact g1 z hz
    · rw [List.map_cons, List.sum_cons, hE.1, g2]
theorem ev0 (u : Value) (n : Nat) : ({ tmps := [u].toArray ++ Array.replicate n undef, defers := [] } : Act).eval (.tmp 0) = u := by
  simp only [Act.eval, Array.getD_eq_getD_getElem?]
  rw [Array.getElem?_append_left (by simp)]
  rfl
set_option maxHeartbeats 1000000 in
theorem pinned_con {args : List AV} {hp hp' : List Blk} {r : AV} (h : pinnedV args hp = some (r, hp')) : FnOk Tryz.prog 25 args hp r hp' := by
  obtain ⟨i, g, k, b, x0, x1, x2, j, g', rest, ks, mb, n, rfl, hb, hrow, hd, hM, hlen, hpin, rfl, rfl⟩ := pinnedV_ok h
  refine fn_pure (fn := Tryz.f25) (c := pn) (N := 21) Tryz.func25 (by kernel_rfl) ?_
  intro m S w args' hs hr
  have hNN : (21 : Nat) < 16383 := by decide
  obtain ⟨u, rfl, hu⟩ : ∃ u, args' = [u] ∧ R w S m (.ptr i g k) u := by
    have hl := hr.1
    match args', hl with
    | [u], _ => exact ⟨u, rfl, hr.2 0 (by simp) (by simp)⟩
  obtain ⟨e1, e2, e, he, heg, henil, hblk⟩ := getB_ok hs hb
  obtain ⟨pl, hpl, rfl⟩ : ∃ pl, e.pl = some pl ∧ u = .pointer (some ⟨pl.b, pl.o + k, none⟩) := by
    generalize hx : AV.ptr i g k = x at hu
    cases hu <;> cases hx
    · rename_i e' pl h1 h2
      rw [he] at h2; cases h2
      exact ⟨pl, h1, rfl⟩
    · rename_i e' a h1 h2
      first
        | (rw [he] at h1; cases h1; omega)
        | (rw [he] at h2; cases h2; omega)
  obtain ⟨b1, b2, b3, b4, cs, b5, b6⟩ := hblk pl hpl
  rw [hrow, cond_false] at b6
  have b7 := b6.drop k
  rw [hd] at b7
  obtain ⟨c0, c1, c2, c3, crest, hcs⟩ : ∃ c0 c1 c2 c3 crest, cs.drop k = c0 :: c1 :: c2 :: c3 :: crest := by
    have := b7.1
    match hq : cs.drop k, this with
    | c0 :: c1 :: c2 :: c3 :: crest, _ => exact ⟨c0, c1, c2, c3, crest, rfl⟩
  rw [hcs] at b7
  have hc3 := b7.2 3 (by simp) (by simp)
  simp only [List.getElem_cons_zero, List.getElem_cons_succ] at hc3
  obtain ⟨_, _, _, e', pl', he', hpl', rfl, es, clock, hobj, hkeys, hvals, hst⟩ := getM_ok hs hM hc3
  have hbm : pl'.b < w.heap.size := by
    rcases Nat.lt_or_ge pl'.b w.heap.size with q | q
    · exact q
    · rw [Array.getElem?_eq_none q] at hobj; cases hobj
  obtain ⟨hent, hsum⟩ := ents hs.sok hpin hvals
  have hsz : es.size < 100000 := by
    have := hvals.1
    rw [List.length_map, Array.length_toList] at this
    omega
  have hcell : ∀ j' v, (c0 :: c1 :: c2 :: Value.map (some pl'.b) :: crest)[j']? = some v → w.cell? ⟨pl.b, pl.o + k + j', none⟩ = some v := by
    intro j' v hv
    rw [← hcs, List.getElem?_drop] at hv
    rw [Nat.add_assoc]; exact b5 _ _ hv
  have hip : R w (S0 w) noEM (ipV pl'.b) (.pointer (some ⟨pl.b, pl.o + k, none⟩)) := by
    have := R.ip (w := w) (S := S0 w) noEM [.top, .top, .top, .p (.map (some pl'.b))] 0 pl.b (pl.o + k) (fun j' => match j' with | 0 => c0 | 1 => c1 | 2 => c2 | _ => .map (some pl'.b)) b2 (fun j' hj' => by
      match j', hj' with
      | 0, _ => exact hcell 0 _ rfl
      | 1, _ => exact hcell 1 _ rfl
      | 2, _ => exact hcell 2 _ rfl
      | 3, _ => exact hcell 3 _ rfl) (fun j' hj' => by
      match j', hj' with
      | 0, _ => exact .top _ _
      | 1, _ => exact .top _ _
      | 2, _ => exact .top _ _
      | 3, _ => exact .p _ _)
    exact this
  have hnt : Tryz.f25.ntmps = 21 := by kernel_rfl
  rw [hnt]
  generalize ha : ({ tmps := [Value.pointer (some ⟨pl.b, pl.o + k, none⟩)].toArray ++ Array.replicate (21 - [Value.pointer (some ⟨pl.b, pl.o + k, none⟩)].toArray.size) undef, defers := [] } : Act) = a0
  have hN0 : a0.tmps.size = 21 := by rw [← ha]; simp
  have hd0 : a0.defers = [] := by rw [← ha]
  have h00 : a0.eval (.tmp 0) = .pointer (some ⟨pl.b, pl.o + k, none⟩) := by rw [← ha]; exact ev0 _ _
  rw [pn_eq]
  refine wp_seq (wp_region ?_)
  rw [z0]
  show wpOps _ _ _ (List.range' 0 1 ++ []) _ _
  refine wpOps_at (hp := []) (W0 := w) (O := fun _ => False) (S0 := S0 w) (m0 := noEM) 0 1 [] sRun hNN (dst_ok (by kernel_rfl)) (by rw [z0]; rfl) rfl (q0 pl'.b) (sim_from (l := [0].zip [ipV pl'.b]) (fun b h => h) (by simp) (fun q hq => by
    simp only [List.zip_cons_cons, List.zip_nil_right, List.mem_cons, List.not_mem_nil, or_false] at hq
    subst hq
    rw [h00]; exact hip) hN0 hd0) hd0 (fun a1 w1 hs1 hd1 => ?_)
  refine wp_seq (wp_region ?_)
  rw [z1]
  show wpOps _ _ _ (List.range' 0 1 ++ []) _ _
  refine wpOps_at 0 1 [] sRun hNN (dst_ok (by kernel_rfl)) (by rw [z1]; rfl) rfl (q1 pl'.b) hs1 hd1 (fun a2 w2 hs2 hd2 => ?_)
  refine wp_seq (wp_seq (wp_region ?_))
  rw [zR]
  show wpOps _ _ _ (List.range' 0 4 ++ [4]) _ _
  refine wpOps_at 0 4 [4] sRun hNN (dst_ok (by kernel_rfl)) (by rw [zR]; rfl) rfl (q2 pl'.b) hs2 hd2 (fun a3 w3 hs3 hd3 => ?_)
  obtain ⟨g1, g2, g3⟩ := sim_to hs3
  have k9 := g2 9 _ rfl
  have k3 := g2 3 _ rfl
  have hobj3 : w3.heap[pl'.b]? = some (.map es clock) := by rw [g1.block _ hbm, hobj]
  obtain ⟨kt, et, hty⟩ := mapTy
  rw [wpOps_cons]
  refine op_val oR.1 oR.2.1 (v := .pointer (some ⟨w3.heap.size, 0, none⟩)) (w' := w3.alloc (.mapIter (some pl'.b) clock #[] clock)) (by simp [execOp, oR.2.2.1, k9, run_range_map (P := Tryz.prog) w3 130 kt et pl'.b es clock hty hobj3]) ?_
  have e9 : ∀ i, (a3.put (oAt rO 4).dst (.pointer (some ⟨w3.heap.size, 0, none⟩))).eval (.tmp i) = if 10 = i then .pointer (some ⟨w3.heap.size, 0, none⟩) else a3.eval (.tmp i) := fun i => by rw [oR.2.2.2]; exact eval_put_tmp a3 10 i _ (by omega)
  have hbl3 : Below w.heap.size w (w3.alloc (.mapIter (some pl'.b) clock #[] clock)) := g1.alloc g1.size _
  refine wp_block (wp_loop_rounds (es.size + 1) (rounds_ok (r := w3.heap.size) hobj hbm hst hent hsz g1.size ?_ es.size _ _ #[] (by unfold leftOf; exact Array.size_filter_le ..) ⟨hbl3, ?_, ?_, by rw [put_size, g3], by rw [put_defers, hd3], (MapKept.heap_alloc w3 _).1⟩))
  · intro a' w' hbl h3 hN hdf
    refine wp_seq (wp_region ?_)
    rw [z6]
    show wpOps _ _ _ (List.range' 0 2 ++ []) _ _
    rw [hsum] at h3
    refine wpOps_at (hp := []) (W0 := w') (O := fun _ => False) (S0 := S0 w') (m0 := noEM) 0 2 [] sRun hNN (dst_ok (by kernel_rfl)) (by rw [z6]; rfl) rfl (q6 n) (sim_from (l := [3].zip [wN (Int.ofNat n)]) (fun b h => h) (by simp) (fun q hq => by
      simp only [List.zip_cons_cons, List.zip_nil_right, List.mem_cons, List.not_mem_nil, or_false] at hq
      subst hq
      rw [h3]; exact .p _ _) hN hdf) hdf (fun a6 w6 hs6 hd6 => ?_)
    obtain ⟨f1, f2, f3⟩ := sim_to hs6
    have hbl6 : Below w.heap.size w w6 := hbl.trans (f1.mono hbl.size)
    refine wp_ret ?_
    refine ⟨.ret, mk ([2].zip [wN (Int.ofNat n)]), S0 w, rfl, .inr rfl, ?_, ?_⟩
    · have : Tryz.f25.results.toList = [.tmp 2] := by kernel_rfl
      rw [this]; rfl
    · refine ⟨noEM, S0 w, hs_nil hbl6 (fun _ => rfl) (fun b h => Nat.lt_of_lt_of_le h hbl6.size) (fun b h => .inl h) (fun _ h => h), Ext.refl _, fr_mk (by simp) (fun q hq => ?_), f3, by rw [hd6]; exact Marks.nil _ _ _⟩
      simp only [List.zip_cons_cons, List.zip_nil_right, List.mem_cons, List.not_mem_nil, or_false] at hq
      subst hq
      rw [f2 2 _ rfl]; exact .p _ _
  · rw [e9, if_neg (show ¬ (10 = 3) by decide), k3, seenN_none]
  · rw [e9, if_pos rfl]
end Pn
end Go.Proofs.YtlemialjfnbchaaGreat

/- Contracts that the kit has proved (keys of a map, sorted), in the virtual memory. -/
import Derived.Test.YtlemialjfnbchaaGreatVmC
import Derived.Test.YtlemialjfnbchaaGreatVmV
import Derived.Lib.SlKeysI

namespace Go.Vm
open Go Go.RowKit

theorem after_row {w w' : World} {hp : List Blk} {m : EM} {S : Nat → Prop} (hs : HS w (own0 hp m) S m hp m S w) {e : TypeId} {v : Value} {n : Nat} {xs : List Value} (hb : Below w.heap.size w w')
    (hrow : w'.ownsRow w.heap.size e 1 v n xs) (hn : v ≠ .slice none 0 0) :
    After w (own0 hp m) S m (hp ++ [{ cells := xs.map .p, esz := 1, gen := 0, row := true, ro := false }]) m S w (.ref hp.length 0 0 n) (.returned v) w' := by
  obtain ⟨hlen, ⟨rfl, _⟩ | ⟨g, cap, cur, rfl, hg, hobj, hnc, _, hcs, htk⟩⟩ := hrow
  · exact absurd rfl hn
  rw [Nat.mul_one] at hlen hcs htk
  have hnone : m hp.length = none := by
    have := (hs.dom hp.length)
    cases hm : m hp.length with
    | none => rfl
    | some e => rw [hm] at this; simp at this
  have hcell : ∀ j, w'.cell? ⟨g, j, none⟩ = cur[j]? := fun j => by simp [World.cell?, hobj]
  have hlt : g < w'.heap.size := by
    rcases Nat.lt_or_ge g w'.heap.size with q | q
    · exact q
    · rw [Array.getElem?_eq_none q] at hobj; cases hobj
  have hthere : w'.there g 0 cap := by
    intro j hj
    refine ⟨?_, ?_⟩
    · rw [Nat.zero_add, hcell]; simp; omega
    · simp [World.frozen?, hobj]
  have hrange : w'.rangeAt g 0 xs := by
    intro j u hj
    rw [Nat.zero_add, hcell, ← Array.getElem?_toList]
    have : (cur.toList.take n)[j]? = some u := by rw [htk]; exact hj
    rw [List.getElem?_take] at this
    split at this
    · exact this
    · cases this
  have key := hs.upd (w' := w') hp.length (Nat.le_refl _) { cells := xs.map .p, esz := 1, gen := 0, row := true, ro := false } ⟨some ⟨g, 0, cap, 1⟩, 0⟩ (get_push hp _) none (fun b hb => by cases hb) hb.os hb.tape hb.output hb.size
    (fun b hlt _ => hb.block b hlt) rfl (fun k => by cases k) (fun e he => by rw [hnone] at he; cases he) rfl (by
      intro pl' hq
      cases hq
      refine ⟨BlkR.x ⟨rfl, hlt, ⟨?_, fun _ => rfl⟩, hthere, xs, hrange, RL.pmap _ _ _ _⟩ rfl, .inl hg⟩
      simp only [List.length_map, Nat.zero_add]; omega)
  refine ⟨_, _, S, rfl, key.1, key.2.1, fun _ h => h, key.2.2, ?_⟩
  have := R.ref (w := w') (S := S) (updM m hp.length ⟨some ⟨g, 0, cap, 1⟩, 0⟩) hp.length 0 n ⟨some ⟨g, 0, cap, 1⟩, 0⟩ ⟨g, 0, cap, 1⟩ cap (updM_same _ _ _) rfl hnc (by simp)
  simpa using this
theorem after_nil {w w' : World} {hp : List Blk} {m : EM} {S : Nat → Prop} (hs : HS w (own0 hp m) S m hp m S w) {v : Value} (hb : Below w.heap.size w w') :
    After w (own0 hp m) S m hp m S w (.p v) (.returned v) w' := by
  have hk : Keeps S w w' := fun b h => hb.block b (hs.sok b h)
  refine ⟨_, m, S, rfl, ?_, Ext.refl _, fun _ h => h, hk, .p _ _⟩
  refine ⟨hs.dom, ?_, hs.inj, fun b h => Nat.lt_of_lt_of_le (hs.sok b h) hb.size, hs.ro, hs.org, hb.os, hb.tape, hb.output, hb.size, fun b h _ => hb.block b h, hs.snew, hs.smono⟩
  intro i b e h1 h2
  obtain ⟨a1, a2, a3⟩ := hs.blk i b e h1 h2
  exact ⟨a1, a2, fun pl hpl => (a3 pl hpl).mono (hb.block _ (a3 pl hpl).lt) hb.size hk (fun _ h => h) (Ext.refl _)⟩
/-! sorted numbers -/
def insI (x : Int) : List Int → List Int
  | [] => [x]
  | y :: r => cond (decide (x ≤ y)) (x :: y :: r) (y :: insI x r)
def sortI : List Int → List Int
  | [] => []
  | x :: r => insI x (sortI r)
theorem insI_perm (x : Int) : ∀ l, (insI x l).Perm (x :: l)
  | [] => .refl _
  | y :: r => by
    unfold insI
    cases decide (x ≤ y)
    · exact ((insI_perm x r).cons y).trans (.swap x y r)
    · exact .refl _
theorem insI_sorted (x : Int) : ∀ l : List Int, l.Pairwise (· ≤ ·) → (insI x l).Pairwise (· ≤ ·)
  | [], _ => by simp [insI]
  | y :: r, h => by
    unfold insI
    have hy := List.pairwise_cons.1 h
    cases hd : decide (x ≤ y) with
    | true =>
      have hxy := of_decide_eq_true hd
      refine List.pairwise_cons.2 ⟨fun z hz => ?_, h⟩
      rcases List.mem_cons.1 hz with rfl | hz
      · exact hxy
      · exact Int.le_trans hxy (hy.1 z hz)
    | false =>
      have hxy := of_decide_eq_false hd
      refine List.pairwise_cons.2 ⟨fun z hz => ?_, insI_sorted x r hy.2⟩
      rcases List.mem_cons.1 ((insI_perm x r).mem_iff.1 hz) with rfl | hz
      · omega
      · exact hy.1 z hz
theorem sortI_perm : ∀ l, (sortI l).Perm l
  | [] => .refl _
  | x :: r => (insI_perm x _).trans ((sortI_perm r).cons x)
theorem sortI_sorted : ∀ l, (sortI l).Pairwise (· ≤ ·)
  | [] => .nil
  | x :: r => insI_sorted x _ (sortI_sorted r)
theorem sortI_eq {l l' : List Int} (h : l'.Perm l) : l'.mergeSort (fun x y => decide (x ≤ y)) = sortI l := by
  have tr : ∀ a b c : Int, leI a b = true → leI b c = true → leI a c = true := fun a b c h1 h2 => by simp only [leI, decide_eq_true_eq] at *; exact Int.le_trans h1 h2
  have to : ∀ a b : Int, (leI a b || leI b a) = true := fun a b => by simp only [leI, Bool.or_eq_true, decide_eq_true_eq]; exact Int.le_total a b
  refine List.Perm.eq_of_pairwise (le := fun a b => leI a b = true) (fun a b _ _ h1 h2 => ?_) (List.pairwise_mergeSort tr to l') ((sortI_sorted l).imp fun h => by simpa [leI] using h) (((List.mergeSort_perm l' leI).trans h).trans (sortI_perm l).symm)
  simp only [leI, decide_eq_true_eq] at h1 h2
  exact Int.le_antisymm h1 h2
/-- numbers of 64 bits -/
def i64s : List Value → Option (List Int)
  | [] => some []
  | .int .i64 n :: r => cond (decide (-9223372036854775808 ≤ n) && decide (n < 9223372036854775808)) (match i64s r with | some l => some (n :: l) | none => none) none
  | _ => none
theorem i64s_ok : ∀ {ks : List Value} {l : List Int}, i64s ks = some l → ks = l.map (Value.int .i64) ∧ ∀ n ∈ l, (Lit.int .i64 n).wf = true
  | [], l, h => by
    have : l = [] := by simpa [i64s] using h.symm
    subst this
    exact ⟨rfl, by simp⟩
  | x :: r, l, h => by
    unfold i64s at h
    split at h
    · rename_i e; cases e
    · rename_i n r' e
      cases e
      cases hb : (decide (-9223372036854775808 ≤ n) && decide (n < 9223372036854775808)) with
      | false => rw [hb] at h; cases h
      | true =>
        rw [hb] at h
        cases hl : i64s r with
        | none => rw [hl] at h; cases h
        | some l' =>
          rw [hl] at h
          cases h
          obtain ⟨q1, q2⟩ := i64s_ok hl
          refine ⟨by rw [q1]; rfl, fun x hx => ?_⟩
          rcases List.mem_cons.1 hx with rfl | hx
          · simp only [Bool.and_eq_true, decide_eq_true_eq] at hb
            simp [Lit.wf, IntKind.min, IntKind.max, IntKind.signed, IntKind.bits]
            omega
          · exact q2 x hx
    · cases h
/-- slices.Sorted of maps.Keys of a map of ints -/
def sortedKV (kf : Nat) (args : List AV) (hp : List Blk) : Option (AV × List Blk) :=
  match args with
  | [.fn (.func f) [] [.ptr i g 0]] => cond (Nat.beq f kf)
    (match getB hp i g with
     | some b => cond (Nat.beq b.esz 0 && !b.row) (match b.cells with
       | [.mp j g'] => (match getM hp j g' with
         | some (ks, _) => (match i64s ks with
           | some [] => some (.p (.slice none 0 0), hp)
           | some (k :: r) => cond (Nat.blt r.length 100000) (some (.ref hp.length 0 0 (r.length + 1), hp ++ [{ cells := (sortI (k :: r)).map fun n => .p (.int .i64 n), esz := 1, gen := 0, row := true, ro := false }])) none
           | none => none)
         | none => none)
       | _ => none) none
     | none => none) none
  | _ => none
/-- what the kit has proved of it -/
def SortedKit (P : Program) (f kf : FuncId) (T : TypeId) : Prop := ∀ (w : World) (Bm b : Nat) (es : Array MapEntry) (clock : Nat) (l : List Int), Bm < w.heap.size → w.cell? ⟨Bm, 0, none⟩ = some (.map (some b)) → w.heap[b]? = some (.map es clock) →
  MapKept.Stamped es clock → es.toList.map (·.key) = l.map (Value.int .i64) → (∀ n ∈ l, (Lit.int .i64 n).wf = true) → l.length ≤ 100000 →
  Calls P f #[.func (.func kf) #[] #[.pointer (some ⟨Bm, 0, none⟩)]] w fun e w' => ∃ (v : Value), e = .returned v ∧ w'.ownsRow w.heap.size T 1 v l.length ((sortI l).map (Value.int .i64)) ∧ (v = .slice none 0 0 ↔ l = []) ∧ Below w.heap.size w w'
theorem sorted_con {P : Program} {f kf : FuncId} {T : TypeId} (hk : SortedKit P f kf T) {args : List AV} {hp hp' : List Blk} {r : AV} (h : sortedKV kf args hp = some (r, hp')) : FnOk P f args hp r hp' := by
  unfold sortedKV at h
  split at h
  · rename_i f' i g
    cases hf : Nat.beq f' kf with
    | false => rw [hf] at h; cases h
    | true =>
      rw [hf, cond_true] at h
      obtain rfl := Nat.eq_of_beq_eq_true hf
      split at h
      · rename_i b hb
        cases hz : (Nat.beq b.esz 0 && !b.row) with
        | false => rw [hz] at h; cases h
        | true =>
          rw [hz, cond_true] at h
          rw [Bool.and_eq_true] at hz
          split at h
          · rename_i j g' hcells
            split at h
            · rename_i ks mb hM
              intro m S w args' hs hr
              obtain ⟨u, rfl, hu⟩ : ∃ u, args' = [u] ∧ R w S m (.fn (.func f') [] [.ptr i g 0]) u := by
                have hl := hr.1
                match args', hl with
                | [u], _ => exact ⟨u, rfl, hr.2 0 (by simp) (by simp)⟩
              obtain ⟨e1, e2, e, he, heg, henil, hblk⟩ := getB_ok hs hb
              cases hu with
              | fn _ _ _ _ ys vs hy1 hy2 hv1 hv2 =>
                have : ys = [] := List.length_eq_zero_iff.1 hy1.symm
                subst this
                obtain ⟨v0, rfl⟩ : ∃ v0, vs = [v0] := by
                  match vs, hv1 with
                  | [v0], _ => exact ⟨v0, rfl⟩
                have hv := hv2 0 (by simp) (by simp)
                simp only [List.getElem_cons_zero] at hv
                obtain ⟨pl, hpl, rfl⟩ : ∃ pl, e.pl = some pl ∧ v0 = .pointer (some ⟨pl.b, pl.o + 0, none⟩) := by
                  generalize hx : AV.ptr i g 0 = x at hv
                  cases hv <;> cases hx
                  · rename_i e' pl h1 h2
                    rw [he] at h2; cases h2
                    exact ⟨pl, h1, rfl⟩
                  · rename_i e' a h1 h2
                    first
                      | (rw [he] at h1; cases h1; omega)
                      | (rw [he] at h2; cases h2; omega)
                obtain ⟨q1, q2, q3, q4, cs, q5, q6⟩ := hblk pl hpl
                have hrow : b.row = false := by simpa using hz.2
                rw [hrow, cond_false, hcells] at q6
                have ho := q3.2 (Nat.eq_of_beq_eq_true hz.1)
                obtain ⟨c0, rfl⟩ : ∃ c0, cs = [c0] := by
                  have := q6.1
                  match cs, this with
                  | [c0], _ => exact ⟨c0, rfl⟩
                have hc0 := q6.2 0 (by simp) (by simp)
                simp only [List.getElem_cons_zero] at hc0
                obtain ⟨_, _, _, e', pl', he', hpl', rfl, es, clock, hobj, hkeys, _, hst⟩ := getM_ok hs hM hc0
                have hcell := q5 0 _ rfl
                rw [ho] at hcell ⊢
                split at h
                · rename_i hks
                  cases h
                  obtain ⟨k1, k2⟩ := i64s_ok hks
                  refine (hk w pl.b pl'.b es clock [] q2 hcell hobj hst (by rw [hkeys, k1]) k2 (by simp)).mono ?_
                  rintro e w' ⟨v, rfl, _, hnil, hbelow⟩
                  rw [hnil.2 rfl]
                  exact after_nil hs hbelow
                · rename_i k0 r0 hks
                  cases hlt : Nat.blt r0.length 100000 with
                  | false => rw [hlt] at h; cases h
                  | true =>
                    rw [hlt] at h
                    cases h
                    obtain ⟨k1, k2⟩ := i64s_ok hks
                    have hlt' : r0.length < 100000 := Nat.le_of_ble_eq_true hlt
                    refine (hk w pl.b pl'.b es clock (k0 :: r0) q2 hcell hobj hst (by rw [hkeys, k1]) k2 (by simp; omega)).mono ?_
                    rintro e w' ⟨v, rfl, hrw, hnil, hbelow⟩
                    have := after_row hs hbelow hrw (fun hv => by have := hnil.1 hv; cases this)
                    rw [List.map_map] at this
                    exact this
                · cases h
            · cases h
          · cases h
      · cases h
  · cases h
end Go.Vm

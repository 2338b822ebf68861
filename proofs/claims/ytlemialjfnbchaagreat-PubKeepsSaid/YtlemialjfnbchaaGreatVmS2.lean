/- Words of 32 bits as the model reckons them; a contract for a row that is looked at alone. -/
import Derived.Test.YtlemialjfnbchaaGreatVmCrc
import Derived.Test.YtlemialjfnbchaaGreatVmM
import Derived.Test.YtlemialjfnbchaaGreatVmZ

namespace Go.Vm
open Go
abbrev xorA (s x : Nat) : AV := .p (.int .u32 (IntKind.wrap .u32 (Int.ofNat (BitVec.ofInt 32 (Int.ofNat s) ^^^ BitVec.ofInt 32 (Int.ofNat x)).toNat)))
abbrev andA (s : Nat) : AV := .p (.int .u32 (IntKind.wrap .u32 (Int.ofNat (BitVec.ofInt 32 (Int.ofNat s) &&& BitVec.ofInt 32 (Int.ofNat 1)).toNat)))
abbrev shrA (s : Nat) : AV := .p (.int .u32 (Int.fdiv (Int.ofNat s) (2 ^ (min (Int.toNat 1) IntKind.u32.bits))))
abbrev wrapA (x : Nat) : AV := .p (.int .u32 (IntKind.wrap .u32 (Int.ofNat x)))
abbrev notA (s : Nat) : AV := .p (.int .u32 (IntKind.wrap .u32 (Int.ofNat (BitVec.ofInt 32 (Int.ofNat 4294967295) ^^^ BitVec.ofInt 32 (Int.ofNat s)).toNat)))
theorem wrap32 {m : Nat} (h : m < 2 ^ 32) : IntKind.wrap .u32 (Int.ofNat m) = Int.ofNat m := by
  show (if (false && decide ((Int.ofNat m) % 4294967296 ≥ 2147483648)) = true then (Int.ofNat m) % 4294967296 - 4294967296 else (Int.ofNat m) % 4294967296) = _
  simp only [Bool.false_and, Bool.false_eq_true, if_false, Int.ofNat_eq_natCast]; omega
theorem bv32 {m : Nat} (h : m < 2 ^ 32) : (BitVec.ofInt 32 (Int.ofNat m)).toNat = m := by
  rw [BitVec.toNat_ofInt, Int.ofNat_eq_natCast, ← Int.natCast_emod, Int.toNat_natCast, Nat.mod_eq_of_lt h]
theorem xorA_eq {s x : Nat} (h : s < 2 ^ 32) (k : x < 2 ^ 32) : xorA s x = .p (.int .u32 (Int.ofNat (Nat.xor s x))) := by
  have e : (BitVec.ofInt 32 (Int.ofNat s) ^^^ BitVec.ofInt 32 (Int.ofNat x)).toNat = Nat.xor s x := by rw [BitVec.toNat_xor, bv32 h, bv32 k]; rfl
  unfold xorA
  rw [e, wrap32 (show Nat.xor s x < 2 ^ 32 from Nat.xor_lt_two_pow h k)]
theorem andA_eq {s : Nat} (h : s < 2 ^ 32) : andA s = .p (.int .u32 (Int.ofNat (s % 2))) := by
  have e : (BitVec.ofInt 32 (Int.ofNat s) &&& BitVec.ofInt 32 (Int.ofNat 1)).toNat = s % 2 := by rw [BitVec.toNat_and, bv32 h, bv32 (by decide), Nat.and_one_is_mod]
  unfold andA
  rw [e, wrap32 (by omega)]
theorem shrA_eq (s : Nat) : shrA s = .p (.int .u32 (Int.ofNat (s / 2))) := by
  have e : (2 : Int) ^ (min (Int.toNat 1) IntKind.u32.bits) = Int.ofNat 2 := by decide
  unfold shrA
  rw [e]
  cases s <;> rfl
theorem notA_eq {s : Nat} (h : s < 2 ^ 32) : notA s = .p (.int .u32 (Int.ofNat (Nat.xor s 4294967295))) := by
  have e : (BitVec.ofInt 32 (Int.ofNat 4294967295) ^^^ BitVec.ofInt 32 (Int.ofNat s)).toNat = Nat.xor s 4294967295 := by rw [BitVec.toNat_xor, bv32 h, bv32 (by decide)]; exact Nat.xor_comm _ _
  unfold notA
  rw [e, wrap32 (show Nat.xor s 4294967295 < 2 ^ 32 from Nat.xor_lt_two_pow h (by decide))]
theorem crcB_lt {s : Nat} (h : s < 2 ^ 32) : crcB s < 2 ^ 32 := by
  unfold crcB
  cases Nat.beq (s % 2) 1
  · show s / 2 < _; omega
  · exact Nat.xor_lt_two_pow (by omega) (by decide)
theorem crcB0 {s : Nat} (h : s % 2 = 0) : crcB s = s / 2 := by unfold crcB; rw [h]; rfl
theorem crcB1 {s : Nat} (h : s % 2 = 1) : crcB s = Nat.xor (s / 2) 3988292384 := by unfold crcB; rw [h]; rfl
def itB : Nat → Nat → Nat
  | 0, s => s
  | k + 1, s => itB k (crcB s)
theorem itB_lt : ∀ {k s : Nat}, s < 2 ^ 32 → itB k s < 2 ^ 32
  | 0, _, h => h
  | k + 1, _, h => itB_lt (k := k) (crcB_lt h)
theorem crc8_it (s : Nat) : crc8 s = itB 8 s := rfl
theorem crcL_drop {l : List Nat} {i : Nat} (h : i < l.length) (s : Nat) : crcL (l.drop i) s = crcL (l.drop (i + 1)) (crc8 (Nat.xor s l[i])) := by
  rw [List.drop_eq_getElem_cons h]
  show ask _ _ = _
  rw [ask_eq]
/-- bytes in cells -/
abbrev u8A (l : List Nat) : List AV := l.map fun n => .p (.int .u8 (Int.ofNat n))
theorem u8s_ok : ∀ {xs : List AV} {l : List Nat}, u8s xs = some l → xs = u8A l ∧ ∀ x ∈ l, x < 256
  | [], l, h => by
    have : l = [] := by simpa [u8s] using h.symm
    subst this
    exact ⟨rfl, by simp⟩
  | x :: r, l, h => by
    unfold u8s at h
    split at h
    · rename_i e; cases e
    · rename_i n r' e
      cases e
      cases hb : Nat.blt n 256 with
      | false => rw [hb] at h; cases h
      | true =>
        rw [hb] at h
        cases hl : u8s r with
        | none => rw [hl] at h; cases h
        | some l' =>
          rw [hl] at h
          cases h
          obtain ⟨q1, q2⟩ := u8s_ok hl
          have hn : n < 256 := Nat.le_of_ble_eq_true hb
          exact ⟨by rw [q1]; rfl, fun x hx => by rcases List.mem_cons.1 hx with rfl | hx; exact hn; exact q2 x hx⟩
    · cases h
/-- what a function tells of a row that stays, it tells of a row in a block -/
theorem FnOk.of_frz {P : Program} {f : FuncId} {hp hp1 : List Blk} {v y : AV} {x : Value} (hy : frz hp v = some (y, hp1)) (hn : noBlk y = true) (h : FnOk P f [y] [] (.p x) []) : FnOk P f [v] hp (.p x) hp := by
  intro m S w args' hs hr
  obtain ⟨u, rfl, hu⟩ : ∃ u, args' = [u] ∧ R w S m v u := by
    have hl := hr.1
    match args', hl with
    | [u], _ => exact ⟨u, rfl, hr.2 0 (by simp) (by simp)⟩
  obtain ⟨S', g1, g2, g3⟩ := frz_ok hs hy hu
  obtain ⟨k1, k2, _⟩ := g1.sub (js := []) List.nodup_nil (fun i hi => by cases hi) (sub := []) rfl
  have hd := h _ S' w [u] k1 (.cons (R.noBlk _ hn g3) .nil)
  refine hd.mono ?_
  rintro e w' ⟨v', m', S2, rfl, q1, q2, q3, q4, q5⟩
  have hno : ∀ b, ¬ own0 ([] : List Blk) (fun j => match ([] : List Nat)[j]? with | some i => m i | none => none) b := by
    rintro b ⟨i, blk, e, pl, k, _⟩; simp at k
  have hfr : ∀ b, b < w.heap.size → w'.heap[b]? = w.heap[b]? := fun b hb => q1.frame b hb (hno b)
  have hK : Keeps S w w' := fun b hb => hfr b (hs.sok b hb)
  refine ⟨v', m, S, rfl, ?_, Ext.refl _, fun _ h => h, hK, ?_⟩
  · refine ⟨hs.dom, ?_, hs.inj, fun b hb => Nat.lt_of_lt_of_le (hs.sok b hb) q1.size, hs.ro, hs.org, q1.os, q1.tape, q1.out, q1.size, fun b hb _ => hfr b hb, hs.snew, hs.smono⟩
    intro i b e hb he
    obtain ⟨a1, a2, a3⟩ := hs.blk i b e hb he
    refine ⟨a1, a2, fun pl hpl => ?_⟩
    have hx := a3 pl hpl
    have hlt : pl.b < w.heap.size := by
      cases hk : b.keys with
      | none => exact (hx.row hk).lt
      | some ks =>
        obtain ⟨_, es, c, h2, _⟩ := hx.map ks hk
        rcases Nat.lt_or_ge pl.b w.heap.size with q | q
        · exact q
        · rw [Array.getElem?_eq_none q] at h2; cases h2
    exact hx.mono (hfr _ hlt) q1.size hK (fun _ h => h) (Ext.refl _)
  · have := isP_ok (x := .p x) rfl q5
    rw [this]
    exact .p _ _
theorem crcL_lt : ∀ {l : List Nat}, (∀ x ∈ l, x < 256) → ∀ {s : Nat}, s < 2 ^ 32 → crcL l s < 2 ^ 32
  | [], _, s, h => h
  | x :: l, hl, s, h => by
    show ask _ _ < _
    rw [ask_eq]
    refine crcL_lt (fun y hy => hl y (List.mem_cons_of_mem _ hy)) ?_
    rw [crc8_it]
    have := hl x (List.mem_cons_self ..)
    exact itB_lt (Nat.xor_lt_two_pow h (by omega))
theorem up64L {i : Nat} (h : i < 9223372036854775807) : (AV.p (.int .i64 (IntKind.wrap .i64 (Int.ofNat i + 1)))) = .p (.int .i64 (Int.ofNat (i + 1))) := by
  congr 2
  show (if (true && decide ((Int.ofNat i + 1) % 18446744073709551616 ≥ 9223372036854775808)) = true then (Int.ofNat i + 1) % 18446744073709551616 - 18446744073709551616 else (Int.ofNat i + 1) % 18446744073709551616) = _
  simp only [Bool.true_and, decide_eq_true_eq, Int.ofNat_eq_natCast]
  split <;> omega
theorem up64 {i : Nat} (h : i < 9223372036854775807) : (AV.p (.int .i64 (IntKind.wrap .i64 (Int.ofNat i + 1)))) = .p (.int .i64 (Int.ofNat (i + 1))) := up64L h
theorem sumV_ok {args : List AV} {hp hp' : List Blk} {r : AV} (h : sumV args hp = some (r, hp')) : ∃ v n xs hp1 l, args = [v] ∧ frz hp v = some (.lst n xs, hp1) ∧ xs = u8A l ∧ (∀ x ∈ l, x < 256) ∧ n = l.length ∧ l.length < 9223372036854775807 ∧ r = .p (.int .u32 (Int.ofNat (crc l))) ∧ hp' = hp := by
  unfold sumV at h
  split at h
  · rename_i v
    split at h
    · rename_i n xs hp1 hf
      cases hb : Nat.beq xs.length n && Nat.blt n 1000000 with
      | false => rw [hb] at h; cases h
      | true =>
        rw [hb] at h
        cases hu : u8s xs with
        | none => rw [hu] at h; cases h
        | some l =>
          rw [hu] at h
          cases h
          rw [Bool.and_eq_true] at hb
          have h1 := Nat.eq_of_beq_eq_true hb.1
          have h2 : n < 1000000 := Nat.le_of_ble_eq_true hb.2
          obtain ⟨q1, q2⟩ := u8s_ok hu
          have hlen : n = l.length := by rw [← h1, q1]; simp
          exact ⟨v, n, xs, hp1, l, rfl, hf, q1, q2, hlen, by omega, rfl, rfl⟩
    · cases h
  · cases h
end Go.Vm

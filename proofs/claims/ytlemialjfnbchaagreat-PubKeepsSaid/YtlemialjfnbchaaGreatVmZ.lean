/- A quick way through the virtual memory: what it gives, the virtual memory gives. -/
import Derived.Test.YtlemialjfnbchaaGreatVmF
import Derived.Test.YtlemialjfnbchaaGreatVmCrc

namespace Go.Vm
open Go

/-! ### frames by paths -/
/-- where a slot lies: true is left -/
def pathF : Nat → Nat → List Bool
  | 0, _ => []
  | f + 1, i => Nat.rec [] (fun j _ => cond (Nat.beq (j % 2) 0) (true :: pathF f (j / 2)) (false :: pathF f (j / 2))) i
def pathOf (i : Nat) : List Bool := pathF 14 i
noncomputable def getP (p : List Bool) : Tr → AV :=
  List.rec (motive := fun _ => Tr → AV) (fun t => Tr.rec (motive := fun _ => AV) .top (fun _ v _ _ _ => v) t)
    (fun b _ ih t => Tr.rec (motive := fun _ => AV) .top (fun l _ r _ _ => cond b (ih l) (ih r)) t) p
/-- told ahead of going on -/
noncomputable def fr {α : Type} (k : Tr → α) (c : Tr) : α := Tr.rec (motive := fun _ => α) (k .lf) (fun l v r _ _ => k (.nd l v r)) c
theorem fr_eq {α : Type} (k : Tr → α) (c : Tr) : fr k c = k c := by cases c <;> rfl
noncomputable def setP' (v : AV) (p : List Bool) : Tr → Tr :=
  List.rec (motive := fun _ => Tr → Tr) (fun t => Tr.rec (motive := fun _ => Tr) (.nd .lf v .lf) (fun l _ r _ _ => .nd l v r) t)
    (fun b _ ih t => Tr.rec (motive := fun _ => Tr) (cond b (fr (fun c => .nd c .top .lf) (ih .lf)) (fr (fun c => .nd .lf .top c) (ih .lf))) (fun l u r _ _ => cond b (fr (fun c => .nd c u r) (ih l)) (fr (fun c => .nd l u c) (ih r))) t) p
theorem setP_lf (v : AV) (b : Bool) (p : List Bool) : setP' v (b :: p) .lf = cond b (.nd (setP' v p .lf) .top .lf) (.nd .lf .top (setP' v p .lf)) := by
  show cond b (fr _ (setP' v p .lf)) (fr _ (setP' v p .lf)) = _
  rw [fr_eq, fr_eq]
theorem setP_nd (v : AV) (b : Bool) (p : List Bool) (l r : Tr) (u : AV) : setP' v (b :: p) (.nd l u r) = cond b (.nd (setP' v p l) u r) (.nd l u (setP' v p r)) := by
  show cond b (fr _ (setP' v p l)) (fr _ (setP' v p r)) = _
  rw [fr_eq, fr_eq]

theorem pathF_get : ∀ (f i : Nat) (t : Tr), i + 1 < 2 ^ f → getP (pathF f i) t = t.get i
  | 0, i, t, h => by simp at h
  | f + 1, i, t, h => by
    have hp : (2 : Nat) ^ (f + 1) = 2 * 2 ^ f := by rw [Nat.pow_succ]; omega
    cases i with
    | zero => cases t <;> rfl
    | succ j =>
      show getP (cond (Nat.beq (j % 2) 0) (true :: pathF f (j / 2)) (false :: pathF f (j / 2))) t = _
      cases t with
      | lf => cases Nat.beq (j % 2) 0 <;> rfl
      | nd l v r =>
        rw [Tr.get_ndS]
        have ih := fun t => pathF_get f (j / 2) t (by omega)
        cases Nat.beq (j % 2) 0 with
        | true => exact ih l
        | false => exact ih r
theorem pathF_set (v : AV) : ∀ (f i : Nat) (t : Tr), setP' v (pathF f i) t = Tr.setF (f + 1) t i v ∨ i + 1 ≥ 2 ^ f
  | 0, i, t => .inr (by simp)
  | f + 1, i, t => by
    have hp : (2 : Nat) ^ (f + 1) = 2 * 2 ^ f := by rw [Nat.pow_succ]; omega
    cases i with
    | zero => cases t <;> exact .inl rfl
    | succ j =>
      by_cases hb : j + 1 + 1 ≥ 2 ^ (f + 1)
      · exact .inr hb
      · refine .inl ?_
        have ih := fun t => (pathF_set v f (j / 2) t).resolve_right (by omega)
        show setP' v (cond (Nat.beq (j % 2) 0) (true :: pathF f (j / 2)) (false :: pathF f (j / 2))) t = _
        cases t with
        | lf =>
          rw [Tr.setF_lfS]
          cases Nat.beq (j % 2) 0 with
          | true => rw [cond_true, setP_lf, cond_true, ih, cond_true]
          | false => rw [cond_false, setP_lf, cond_false, ih, cond_false]
        | nd l u r =>
          rw [Tr.setF_ndS]
          cases Nat.beq (j % 2) 0 with
          | true => rw [cond_true, setP_nd, cond_true, ih, cond_true]
          | false => rw [cond_false, setP_nd, cond_false, ih, cond_false]
theorem setF_more (v : AV) : ∀ (d e i : Nat) (t : Tr), i + 1 < 2 ^ d → i + 1 < 2 ^ e → Tr.setF d t i v = Tr.setF e t i v
  | 0, e, i, t, h, _ => by simp at h
  | d + 1, 0, i, t, _, h => by simp at h
  | d + 1, e + 1, i, t, h, h' => by
    have hp : (2 : Nat) ^ (d + 1) = 2 * 2 ^ d := by rw [Nat.pow_succ]; omega
    have hp' : (2 : Nat) ^ (e + 1) = 2 * 2 ^ e := by rw [Nat.pow_succ]; omega
    cases i with
    | zero => cases t <;> rfl
    | succ j =>
      have ih := fun t => setF_more v d e (j / 2) t (by omega) (by omega)
      cases t with
      | lf => rw [Tr.setF_lfS, Tr.setF_lfS, ih]
      | nd l u r => rw [Tr.setF_ndS, Tr.setF_ndS, ih, ih]
theorem path_get (i : Nat) (t : Tr) (h : i < 16383) : getP (pathOf i) t = t.get i := pathF_get 14 i t (by omega)
theorem path_set (v : AV) (i : Nat) (t : Tr) (h : i < 16383) : setP' v (pathOf i) t = t.set i v := by
  unfold pathOf Tr.set
  rw [(pathF_set v 14 i t).resolve_right (by omega)]
  exact setF_more v 15 14 i t (by omega) (by omega)

/-! ### numbers -/
def wrapN (k : IntKind) (s : Nat) : Int :=
  let m := s % 2 ^ k.bits
  cond (k.signed && Nat.ble (2 ^ (k.bits - 1)) m) (.negSucc (2 ^ k.bits - m - 1)) (.ofNat m)
theorem wrapN_ok (k : IntKind) (s : Nat) : wrapN k s = k.wrap (s : Int) := by
  have hlt : s % 2 ^ k.bits < 2 ^ k.bits := Nat.mod_lt _ (Nat.pow_pos (by decide))
  unfold wrapN IntKind.wrap
  have e : ((s : Int) % (2 ^ k.bits : Int)) = ((s % 2 ^ k.bits : Nat) : Int) := by
    rw [Int.natCast_emod]; simp
  simp only [e]
  have e2 : (2 ^ k.bits : Int) = ((2 ^ k.bits : Nat) : Int) := by simp
  have e3 : (2 ^ (k.bits - 1) : Int) = ((2 ^ (k.bits - 1) : Nat) : Int) := by simp
  rw [e2, e3]
  cases hs : k.signed with
  | false => rfl
  | true =>
    simp only [Bool.true_and, decide_eq_true_eq]
    by_cases hc : 2 ^ (k.bits - 1) ≤ s % 2 ^ k.bits
    · rw [Nat.ble_eq_true_of_le hc, cond_true, if_pos (by omega)]
      rw [Int.negSucc_eq]
      omega
    · have : Nat.ble (2 ^ (k.bits - 1)) (s % 2 ^ k.bits) = false := by
        rw [Bool.eq_false_iff]; intro h; exact hc (Nat.le_of_ble_eq_true h)
      rw [this, cond_false, if_neg (by omega)]
      rfl
def fastNat (op : BinOp) (k k' : IntKind) (m n : Nat) : Option Value :=
  match op with
  | .add => cond (k == k') (some (.int k (wrapN k (m + n)))) none
  | .sub => cond (k == k' && Nat.ble n m) (some (.int k (wrapN k (m - n)))) none
  | .mul => cond (k == k') (some (.int k (wrapN k (m * n)))) none
  | .lss => cond (k == k') (some (.bool (Nat.blt m n))) none
  | .leq => cond (k == k') (some (.bool (Nat.ble m n))) none
  | .gtr => cond (k == k') (some (.bool (Nat.blt n m))) none
  | .geq => cond (k == k') (some (.bool (Nat.ble n m))) none
  | .eql => cond (k == k') (some (.bool (Nat.beq m n))) none
  | .neq => cond (k == k') (some (.bool (!(Nat.beq m n)))) none
  | .and => cond (k == k' && Nat.blt m (2 ^ k.bits) && Nat.blt n (2 ^ k.bits)) (some (.int k (wrapN k (Nat.land m n)))) none
  | .or => cond (k == k' && Nat.blt m (2 ^ k.bits) && Nat.blt n (2 ^ k.bits)) (some (.int k (wrapN k (Nat.lor m n)))) none
  | .xor => cond (k == k' && Nat.blt m (2 ^ k.bits) && Nat.blt n (2 ^ k.bits)) (some (.int k (wrapN k (Nat.xor m n)))) none
  | .shr => some (.int k (.ofNat (m / 2 ^ Nat.min n k.bits)))
  | .shl => some (.int k (wrapN k (m * 2 ^ Nat.min n k.bits)))
  | .quo => cond (k == k' && Nat.ble 1 n) (some (.int k (wrapN k (m / n)))) none
  | .rem => cond (k == k' && Nat.ble 1 n) (some (.int k (.ofNat (m % n)))) none
  | _ => none
theorem cond_some {α : Type} {c : Bool} {x y : α} (h : cond c (some x) none = some y) : c = true ∧ x = y := by
  cases c with
  | false => cases h
  | true => cases h; exact ⟨rfl, rfl⟩
theorem fastNat_ok {_P : Program} {op : BinOp} {k k' : IntKind} {m n : Nat} {v : Value} (t : TypeId) (h : fastNat op k k' m n = some v) :
    binOp op t (.int k (m : Int)) (.int k' (n : Int)) = pure v ∧ (op = .eql ∨ op = .neq → ∃ b, v = .bool b) := by
  have kk : (k == k') = true → k = k' := fun e => by simpa using e
  cases op <;> simp only [fastNat] at h
  case add =>
    obtain ⟨h1, rfl⟩ := cond_some h
    cases kk h1
    refine ⟨?_, fun e => by rcases e with e | e <;> cases e⟩
    simp [binOp, Op.intArith, wrapN_ok]
  case sub =>
    obtain ⟨h1, rfl⟩ := cond_some h
    rw [Bool.and_eq_true] at h1
    cases kk h1.1
    refine ⟨?_, fun e => by rcases e with e | e <;> cases e⟩
    have := Nat.le_of_ble_eq_true h1.2
    simp [binOp, Op.intArith, wrapN_ok, Int.ofNat_sub this]
  case mul =>
    obtain ⟨h1, rfl⟩ := cond_some h
    cases kk h1
    refine ⟨?_, fun e => by rcases e with e | e <;> cases e⟩
    simp [binOp, Op.intArith, wrapN_ok]
  case quo =>
    obtain ⟨h1, rfl⟩ := cond_some h
    rw [Bool.and_eq_true] at h1
    cases kk h1.1
    refine ⟨?_, fun e => by rcases e with e | e <;> cases e⟩
    have hn := Nat.le_of_ble_eq_true h1.2
    have hn0 : ¬ ((n : Int) = 0) := by omega
    have hd : (m : Int).tdiv (n : Int) = ((m / n : Nat) : Int) := by simp
    simp only [binOp, Op.intDiv, ne_eq, not_true, if_false, hn0, wrapN_ok, hd]
  case rem =>
    obtain ⟨h1, rfl⟩ := cond_some h
    rw [Bool.and_eq_true] at h1
    cases kk h1.1
    refine ⟨?_, fun e => by rcases e with e | e <;> cases e⟩
    have hn := Nat.le_of_ble_eq_true h1.2
    have hn0 : ¬ ((n : Int) = 0) := by omega
    have hd : (m : Int).tmod (n : Int) = ((m % n : Nat) : Int) := rfl
    simp only [binOp, Op.intDiv, ne_eq, not_true, if_false, hn0, hd]
    rfl
  case and =>
    obtain ⟨h1, rfl⟩ := cond_some h
    simp only [Bool.and_eq_true] at h1
    cases kk h1.1.1
    have hm : m < 2 ^ k.bits := Nat.le_of_ble_eq_true h1.1.2
    have hn : n < 2 ^ k.bits := Nat.le_of_ble_eq_true h1.2
    refine ⟨?_, fun e => by rcases e with e | e <;> cases e⟩
    have e1 : (BitVec.ofInt k.bits (m : Int)).toNat = m := by rw [BitVec.toNat_ofInt, ← Int.natCast_emod, Int.toNat_natCast, Nat.mod_eq_of_lt hm]
    have e2 : (BitVec.ofInt k.bits (n : Int)).toNat = n := by rw [BitVec.toNat_ofInt, ← Int.natCast_emod, Int.toNat_natCast, Nat.mod_eq_of_lt hn]
    simp only [binOp, Op.intBits, ne_eq, not_true, if_false, BitVec.toNat_and, e1, e2, wrapN_ok]
    rfl
  case or =>
    obtain ⟨h1, rfl⟩ := cond_some h
    simp only [Bool.and_eq_true] at h1
    cases kk h1.1.1
    have hm : m < 2 ^ k.bits := Nat.le_of_ble_eq_true h1.1.2
    have hn : n < 2 ^ k.bits := Nat.le_of_ble_eq_true h1.2
    refine ⟨?_, fun e => by rcases e with e | e <;> cases e⟩
    have e1 : (BitVec.ofInt k.bits (m : Int)).toNat = m := by rw [BitVec.toNat_ofInt, ← Int.natCast_emod, Int.toNat_natCast, Nat.mod_eq_of_lt hm]
    have e2 : (BitVec.ofInt k.bits (n : Int)).toNat = n := by rw [BitVec.toNat_ofInt, ← Int.natCast_emod, Int.toNat_natCast, Nat.mod_eq_of_lt hn]
    simp only [binOp, Op.intBits, ne_eq, not_true, if_false, BitVec.toNat_or, e1, e2, wrapN_ok]
    rfl
  case xor =>
    obtain ⟨h1, rfl⟩ := cond_some h
    simp only [Bool.and_eq_true] at h1
    cases kk h1.1.1
    have hm : m < 2 ^ k.bits := Nat.le_of_ble_eq_true h1.1.2
    have hn : n < 2 ^ k.bits := Nat.le_of_ble_eq_true h1.2
    refine ⟨?_, fun e => by rcases e with e | e <;> cases e⟩
    have e1 : (BitVec.ofInt k.bits (m : Int)).toNat = m := by rw [BitVec.toNat_ofInt, ← Int.natCast_emod, Int.toNat_natCast, Nat.mod_eq_of_lt hm]
    have e2 : (BitVec.ofInt k.bits (n : Int)).toNat = n := by rw [BitVec.toNat_ofInt, ← Int.natCast_emod, Int.toNat_natCast, Nat.mod_eq_of_lt hn]
    simp only [binOp, Op.intBits, ne_eq, not_true, if_false, BitVec.toNat_xor, e1, e2, wrapN_ok]
    rfl
  case shl =>
    cases h
    refine ⟨?_, fun e => by rcases e with e | e <;> cases e⟩
    have hn0 : ¬ ((n : Int) < 0) := by omega
    have e3 : (m : Int) * 2 ^ (Nat.min n k.bits) = ((m * 2 ^ (Nat.min n k.bits) : Nat) : Int) := by simp
    simp only [binOp, Op.shift, hn0, if_false, Int.toNat_natCast, wrapN_ok]
    rw [← e3]
  case shr =>
    cases h
    refine ⟨?_, fun e => by rcases e with e | e <;> cases e⟩
    have hn0 : ¬ ((n : Int) < 0) := by omega
    have e3 : (m : Int).fdiv (2 ^ (Nat.min n k.bits)) = ((m / 2 ^ (Nat.min n k.bits) : Nat) : Int) := by
      have : (2 ^ (Nat.min n k.bits) : Int) = ((2 ^ (Nat.min n k.bits) : Nat) : Int) := by simp
      rw [this, Int.ofNat_fdiv]
    simp only [binOp, Op.shift, hn0, if_false, Int.toNat_natCast]
    show (pure (Value.int k ((m : Int).fdiv (2 ^ (Nat.min n k.bits)))) : Sem Value) = _
    rw [e3]; rfl
  case eql =>
    obtain ⟨h1, rfl⟩ := cond_some h
    cases kk h1
    refine ⟨?_, fun _ => ⟨_, rfl⟩⟩
    have : ((m : Int) == (n : Int)) = Nat.beq m n := by rw [Bool.eq_iff_iff]; simp; exact Int.ofNat_inj
    simp [binOp, Op.intCmp, this]
  case neq =>
    obtain ⟨h1, rfl⟩ := cond_some h
    cases kk h1
    refine ⟨?_, fun _ => ⟨_, rfl⟩⟩
    have h0 : ((m : Int) == (n : Int)) = Nat.beq m n := by rw [Bool.eq_iff_iff]; simp; exact Int.ofNat_inj
    have : ((m : Int) != (n : Int)) = !(Nat.beq m n) := by rw [bne, h0]
    simp [binOp, Op.intCmp, this]
  case lss =>
    obtain ⟨h1, rfl⟩ := cond_some h
    cases kk h1
    refine ⟨?_, fun e => by rcases e with e | e <;> cases e⟩
    have : decide ((m : Int) < (n : Int)) = Nat.blt m n := by rw [Bool.eq_iff_iff]; simp
    simp only [binOp, Op.intCmp, ne_eq, not_true, if_false, this]
  case leq =>
    obtain ⟨h1, rfl⟩ := cond_some h
    cases kk h1
    refine ⟨?_, fun e => by rcases e with e | e <;> cases e⟩
    have : decide ((m : Int) ≤ (n : Int)) = Nat.ble m n := by rw [Bool.eq_iff_iff]; simp
    simp only [binOp, Op.intCmp, ne_eq, not_true, if_false, this]
  case gtr =>
    obtain ⟨h1, rfl⟩ := cond_some h
    cases kk h1
    refine ⟨?_, fun e => by rcases e with e | e <;> cases e⟩
    have : decide ((m : Int) > (n : Int)) = Nat.blt n m := by rw [Bool.eq_iff_iff]; simp
    simp only [binOp, Op.intCmp, ne_eq, not_true, if_false, this]
  case geq =>
    obtain ⟨h1, rfl⟩ := cond_some h
    cases kk h1
    refine ⟨?_, fun e => by rcases e with e | e <;> cases e⟩
    have : decide ((m : Int) ≥ (n : Int)) = Nat.ble n m := by rw [Bool.eq_iff_iff]; simp
    simp only [binOp, Op.intCmp, ne_eq, not_true, if_false, this]
  all_goals cases h

/-! ### rows and blocks -/
noncomputable def nth {α : Type} (l : List α) : Nat → Option α :=
  List.rec (motive := fun _ => Nat → Option α) (fun _ => none) (fun a _ ih i => Nat.rec (motive := fun _ => Option α) (some a) (fun j _ => ih j) i) l
theorem nth_eq {α : Type} : ∀ (l : List α) (i : Nat), nth l i = l[i]?
  | [], i => by simp [nth]
  | a :: l, 0 => rfl
  | a :: l, i + 1 => by rw [List.getElem?_cons_succ, ← nth_eq l i]; rfl
noncomputable def frL {α β : Type} (k : List α → β) (c : List α) : β := List.rec (motive := fun _ => β) (k []) (fun a r _ => k (a :: r)) c
theorem frL_eq {α β : Type} (k : List α → β) (c : List α) : frL k c = k c := by cases c <;> rfl
noncomputable def setL {α : Type} (v : α) (l : List α) : Nat → List α :=
  List.rec (motive := fun _ => Nat → List α) (fun _ => []) (fun a r ih i => Nat.rec (motive := fun _ => List α) (v :: r) (fun j _ => frL (fun r' => a :: r') (ih j)) i) l
theorem setL_eq {α : Type} (v : α) : ∀ (l : List α) (i : Nat), setL v l i = l.set i v
  | [], i => rfl
  | a :: l, 0 => rfl
  | a :: l, i + 1 => by
    show frL (fun r' => a :: r') (setL v l i) = _
    rw [frL_eq, setL_eq v l i]; rfl
noncomputable def nthB (hp : List Blk) (i g : Nat) : Option Blk :=
  match nth hp i with
  | some b => cond (Nat.beq b.gen g && noKeys b) (some b) none
  | none => none
theorem nthB_eq (hp : List Blk) (i g : Nat) : nthB hp i g = getB hp i g := by unfold nthB getB; rw [nth_eq]; cases hp[i]? <;> rfl
def hasB (l : Option AV) : Bool := match l with | some _ => true | none => false

/-! ### operations, made ready -/
inductive QO where
  | t (p : List Bool)
  | c (v : AV)
def qo : Operand → QO
  | .tmp i => .t (pathOf i)
  | .const v => .c (.p v)
  | .global g => .c (.p (.pointer (some ⟨g, 0, none⟩)))
  | .func f => .c (.p (.func (.func f) #[] #[]))
noncomputable def evO (t : Tr) : QO → AV
  | .t p => getP p t
  | .c v => v
def small : Operand → Bool
  | .tmp i => Nat.blt i 16383
  | _ => true
theorem evO_ok {t : Tr} {x : Operand} (h : small x = true) : evO t (qo x) = ev t x := by
  cases x with
  | tmp i => exact path_get i t (Nat.le_of_ble_eq_true h)
  | _ => rfl
inductive QF where
  | mv (d : List Bool) (x : QO)
  | bin (d : List Bool) (op : BinOp) (x y : QO)
  | ld1 (d : List Bool) (x : QO)
  | ldn (d : List Bool) (x : QO) (n : Nat)
  | st (x y : QO)
  | fa (d : List Bool) (x : QO) (off : Nat)
  | ixs (d : List Bool) (x i : QO) (sz : Nat)
  | ixa (d : List Bool) (x i : QO) (n sz : Nat)
  | len (d : List Bool) (x : QO)
  | ext (d : List Bool) (x : QO) (i : Nat)
  | fld (d : List Bool) (x : QO) (off : Nat)
  | cnv (d : List Bool) (x : QO) (k : IntKind)
  | nil (d : List Bool) (x : QO)
  | not (d : List Bool) (x : QO)
  | gen
/-- a number that is not below nought -/
noncomputable def asN {α : Type} (f : IntKind → Nat → α) (d : α) (v : AV) : α :=
  match v with
  | .p (.int k (.ofNat n)) => f k n
  | _ => d
abbrev QR := Option (Tr × List Blk)
noncomputable def fMv (d : List Bool) (x : QO) (t : Tr) (hp : List Blk) : QR := some (setP' (evO t x) d t, hp)
noncomputable def putN (d : List Bool) (t : Tr) (hp : List Blk) (k : IntKind) (r : Nat) : QR :=
  Nat.rec (some (setP' (.p (.int k (.ofNat 0))) d t, hp)) (fun r _ => some (setP' (.p (.int k (.ofNat (Nat.succ r)))) d t, hp)) r
noncomputable def putV' (d : List Bool) (t : Tr) (hp : List Blk) (v : Option Value) : QR :=
  match v with
  | some (.int k (.ofNat r)) => putN d t hp k r
  | some (.bool b) => cond b (some (setP' (.p (.bool true)) d t, hp)) (some (setP' (.p (.bool false)) d t, hp))
  | _ => none
noncomputable def fBin (d : List Bool) (op : BinOp) (x y : QO) (t : Tr) (hp : List Blk) : QR :=
  asN (fun k m => asN (fun k' n => putV' d t hp (fastNat op k k' m n)) none (evO t y)) none (evO t x)
noncomputable def optP (d : List Bool) (t : Tr) (hp : List Blk) (v : Option AV) : QR :=
  match v with
  | some v => some (setP' v d t, hp)
  | none => none
noncomputable def optA (d : List Bool) (t : Tr) (hp : List Blk) (v : Option (List AV)) : QR :=
  match v with
  | some l => some (setP' (.agg l) d t, hp)
  | none => none
noncomputable def optB {α : Type} (f : Blk → Option α) (b : Option Blk) : Option α :=
  match b with
  | some b => f b
  | none => none
/-- a pointer: into a block, or into cells that stay -/
noncomputable def asPtr {α : Type} (f : Nat → Nat → Nat → α) (g : List AV → Nat → α) (d : α) (v : AV) : α :=
  match v with
  | .ptr i g' k => f i g' k
  | .ip xs k => g xs k
  | _ => d
noncomputable def fLd1 (d : List Bool) (x : QO) (t : Tr) (hp : List Blk) : QR :=
  asPtr (fun i g k => optB (fun b => optP d t hp (nth b.cells k)) (nthB hp i g)) (fun xs k => optP d t hp (nth xs k)) none (evO t x)
noncomputable def fLdn (d : List Bool) (x : QO) (n : Nat) (t : Tr) (hp : List Blk) : QR :=
  asPtr (fun i g k => optB (fun b => optA d t hp (ldN b.cells k n)) (nthB hp i g)) (fun xs k => optA d t hp (ldN xs k n)) none (evO t x)
noncomputable def stB (b : Blk) (t : Tr) (hp : List Blk) (i k : Nat) (v : AV) : QR :=
  match v with
  | .p (.int kd n) => cond (!b.ro && hasB (nth b.cells k)) (some (t, setL { b with cells := setL (.p (.int kd n)) b.cells k } hp i)) none
  | .p (.bool q) => cond (!b.ro && hasB (nth b.cells k)) (some (t, setL { b with cells := setL (.p (.bool q)) b.cells k } hp i)) none
  | .ptr i' g' k' => cond (!b.row && !b.ro && hasB (nth b.cells k)) (some (t, setL { b with cells := setL (.ptr i' g' k') b.cells k } hp i)) none
  | .ref i' g' k' n' => cond (!b.row && !b.ro && hasB (nth b.cells k)) (some (t, setL { b with cells := setL (.ref i' g' k' n') b.cells k } hp i)) none
  | _ => none
noncomputable def fSt (x y : QO) (t : Tr) (hp : List Blk) : QR :=
  asPtr (fun i g k => optB (fun b => stB b t hp i k (evO t y)) (nthB hp i g)) (fun _ _ => none) none (evO t x)
noncomputable def fFa (d : List Bool) (x : QO) (off : Nat) (t : Tr) (hp : List Blk) : QR :=
  asPtr (fun i g k => some (setP' (.ptr i g (k + off)) d t, hp)) (fun xs k => some (setP' (.ip xs (k + off)) d t, hp)) none (evO t x)
noncomputable def ixs1 (d : List Bool) (sz : Nat) (t : Tr) (hp : List Blk) (j : Nat) (v : AV) : QR :=
  match v with
  | .lst n xs => cond (Nat.blt j n) (some (setP' (.ip xs (j * sz)) d t, hp)) none
  | .lit n xs => cond (Nat.blt j n) (some (setP' (.ip xs (j * sz)) d t, hp)) none
  | .ref b g k n => optB (fun bl => cond (Nat.blt j n && Nat.beq bl.esz sz && hasB (nth bl.cells ((j + 1) * sz + k - 1))) (some (setP' (.ptr b g (k + j * sz)) d t, hp)) none) (nthB hp b g)
  | _ => none
noncomputable def fIxs (d : List Bool) (x i : QO) (sz : Nat) (t : Tr) (hp : List Blk) : QR :=
  asN (fun _ j => ixs1 d sz t hp j (evO t x)) none (evO t i)
noncomputable def fIxa (d : List Bool) (x i : QO) (n sz : Nat) (t : Tr) (hp : List Blk) : QR :=
  asN (fun _ j => asPtr (fun b g k => cond (Nat.blt j n) (some (setP' (.ptr b g (k + j * sz)) d t, hp)) none) (fun xs k => cond (Nat.blt j n) (some (setP' (.ip xs (k + j * sz)) d t, hp)) none) none (evO t x)) none (evO t i)
noncomputable def len1 (d : List Bool) (t : Tr) (hp : List Blk) (v : AV) : QR :=
  match v with
  | .lst n _ => putN d t hp .i64 n
  | .lit n _ => putN d t hp .i64 n
  | .ref i g _ n => optB (fun _ => putN d t hp .i64 n) (nthB hp i g)
  | .emp => putN d t hp .i64 0
  | _ => none
noncomputable def fLen (d : List Bool) (x : QO) (t : Tr) (hp : List Blk) : QR := len1 d t hp (evO t x)
noncomputable def ext1 (d : List Bool) (i : Nat) (t : Tr) (hp : List Blk) (v : AV) : QR :=
  match v with
  | .tup xs => optP d t hp (nth xs i)
  | _ => none
noncomputable def fExt (d : List Bool) (x : QO) (i : Nat) (t : Tr) (hp : List Blk) : QR := ext1 d i t hp (evO t x)
noncomputable def fld1 (d : List Bool) (off : Nat) (t : Tr) (hp : List Blk) (v : AV) : QR :=
  match v with
  | .agg xs => optP d t hp (nth xs off)
  | _ => none
noncomputable def fFld (d : List Bool) (x : QO) (off : Nat) (t : Tr) (hp : List Blk) : QR := fld1 d off t hp (evO t x)
noncomputable def cnv1 (d : List Bool) (k : IntKind) (t : Tr) (hp : List Blk) (v : Int) : QR :=
  match v with
  | .ofNat r => putN d t hp k r
  | _ => none
noncomputable def fCnv (d : List Bool) (x : QO) (k : IntKind) (t : Tr) (hp : List Blk) : QR := asN (fun _ m => cnv1 d k t hp (wrapN k m)) none (evO t x)
noncomputable def fNil (d : List Bool) (x : QO) (t : Tr) (hp : List Blk) : QR :=
  asPtr (fun i g k => some (setP' (.ptr i g k) d t, hp)) (fun xs k => some (setP' (.ip xs k) d t, hp)) none (evO t x)
noncomputable def not1 (d : List Bool) (t : Tr) (hp : List Blk) (v : AV) : QR :=
  match v with
  | .p (.bool b) => cond b (some (setP' (.p (.bool false)) d t, hp)) (some (setP' (.p (.bool true)) d t, hp))
  | _ => none
noncomputable def fNot (d : List Bool) (x : QO) (t : Tr) (hp : List Blk) : QR := not1 d t hp (evO t x)
noncomputable def fGen (_ : Tr) (_ : List Blk) : QR := none
noncomputable def evF (f : QF) : Tr → List Blk → QR :=
  QF.rec (motive := fun _ => Tr → List Blk → QR) fMv fBin fLd1 fLdn fSt fFa fIxs fIxa fLen fExt fFld fCnv fNil fNot fGen f

def qd (o : Option Tmp) (f : List Bool → QF) : QF := match o with
  | some d => cond (Nat.blt d 16383) (f (pathOf d)) .gen
  | none => .gen
def qf (P : Program) (o : Oper) : QF :=
  match o.guard with
  | some _ => .gen
  | none => match o.op with
    | .move x | .assign x => cond (small x) (qd o.dst fun d => .mv d (qo x)) .gen
    | .binOp op _ x y _ => cond (small x && small y) (qd o.dst fun d => .bin d op (qo x) (qo y)) .gen
    | .load ty x => cond (small x) (match isAggT P ty with
      | some false => qd o.dst fun d => .ld1 d (qo x)
      | some true => (match szT P ty with | some n => qd o.dst fun d => .ldn d (qo x) n | none => .gen)
      | none => .gen) .gen
    | .store ty x y => cond (small x && small y) (match o.dst, szT P ty with | none, some 1 => .st (qo x) (qo y) | _, _ => .gen) .gen
    | .fieldAddr s x f => cond (small x) (match P.underlying s with
      | some (.struct fields) => (match fields[f]? with
        | some fd => (match szT P fd.type with | some (_ + 1) => qd o.dst fun d => .fa d (qo x) fd.offset | _ => .gen)
        | none => .gen)
      | _ => .gen) .gen
    | .indexAddr ty x i => cond (small x && small i) (match P.underlying ty with
      | some (.slice e) => (match szT P e with | some (n + 1) => qd o.dst fun d => .ixs d (qo x) (qo i) (n + 1) | _ => .gen)
      | some (.array n e) => (match szT P e with | some sz => qd o.dst fun d => .ixa d (qo x) (qo i) n sz | none => .gen)
      | _ => .gen) .gen
    | .extract x i => cond (small x) (qd o.dst fun d => .ext d (qo x) i) .gen
    | .field s x f => cond (small x) (match P.underlying s with
      | some (.struct fields) => (match fields[f]? with
        | some fd => (match isAggT P fd.type with | some false => qd o.dst fun d => .fld d (qo x) fd.offset | _ => .gen)
        | none => .gen)
      | _ => .gen) .gen
    | .convert src dst x => cond (small x) (match P.underlying src, P.underlying dst with
      | some (.int _), some (.int k) => qd o.dst fun d => .cnv d (qo x) k
      | _, _ => .gen) .gen
    | .nilCheck x => cond (small x) (qd o.dst fun d => .nil d (qo x)) .gen
    | .unOp op _ x => cond (small x) (match op with | .not => qd o.dst fun d => .not d (qo x) | _ => .gen) .gen
    | .call c => (match c.callee, c.args.toList, c.argTypes.toList with
      | .builtin .len, [x], [ty] => cond (small x) (match P.underlying ty with | some (.slice _) => qd o.dst fun d => .len d (qo x) | _ => .gen) .gen
      | _, _, _ => .gen)
    | _ => .gen
structure Q where
  f : QF
  o : Oper
def qs (P : Program) : List Oper → List Q
  | [] => []
  | o :: r => ⟨qf P o, o⟩ :: qs P r

/-! ### what it gives, the virtual memory gives -/
section
variable {P : Program} {run : FuncId → List AV → List Blk → Option (AV × List Blk)} {M : Mode} {ops : Array Oper} {o : Oper} {t t' : Tr} {hp hp' : List Blk}

theorem qd_not {d : Option Tmp} {f : List Bool → QF} {r : Tr × List Blk} (h : evF (qd d f) t hp = some r) : ∃ i, d = some i ∧ i < 16383 ∧ evF (f (pathOf i)) t hp = some r := by
  unfold qd at h
  split at h
  · rename_i d
    cases hb : Nat.blt d 16383 with
    | false => rw [hb] at h; cases h
    | true => rw [hb, cond_true] at h; exact ⟨d, rfl, Nat.le_of_ble_eq_true hb, h⟩
  · cases h
theorem gen_not {r : Tr × List Blk} {α : Prop} (h : evF .gen t hp = some r) : α := by cases h
theorem opV_val {v : AV} (hg : o.guard = none) (hv : vop P o t hp = some (.val v hp')) : opV P run M ops o t hp = some (putV t o.dst v, hp') := by
  unfold opV
  have : guardV ops t o = some true := by unfold guardV; rw [hg]
  rw [this]
  simp only [hv]
theorem put_path {i : Nat} {d : Option Tmp} {v : AV} (hd : d = some i) (hi : i < 16383) : setP' v (pathOf i) t = putV t d v := by
  rw [hd]; exact path_set v i t hi
theorem pv_pure {α : Type} (a : α) : pv P (pure a : Sem α) = some a := rfl
theorem pv_bind {α β : Type} : ∀ (s : Sem α) (f : α → Sem β), pv P (s >>= f) = (match pv P s with | some a => pv P (f a) | none => none) := by
  intro s f
  show pv P (s.bind f) = _
  induction s with
  | pure a => rfl
  | program k ih => exact ih P
  | mark m k ih => exact ih
  | _ => rfl
theorem conc_p (v : Value) : conc (.p v) = some v := rfl
theorem rho_p {x : Operand} {v : Value} (h : ev t x = .p v) : rho t x = v := by unfold rho; rw [h]; rfl
theorem pure1_of {v : Value} (hs : noSel o.op = true) (hc : allConc t o.op.operands.toList = true) (h : pv P (execOp (rho t) o) = some (.value v)) : pure1 P t hp o = some (.val (abs v) hp) := by
  unfold pure1
  rw [hs, hc]
  simp only [Bool.and_self, cond_true, h]
theorem fastV_pure {op : BinOp} {ty z : TypeId} {x y : Operand} {k k' : IntKind} {m n : Nat} {v : Value} (ho : o.op = .binOp op ty x y z) (hx : ev t x = .p (.int k (.ofNat m))) (hy : ev t y = .p (.int k' (.ofNat n))) (hv : fastNat op k k' m n = some v) :
    vop P o t hp = some (.val (abs v) hp) := by
  have h1 : pure1 P t hp o = some (.val (abs v) hp) := by
    refine pure1_of (by rw [ho]; rfl) (by rw [ho]; simp [Op.operands, allConc, hx, hy, conc]) ?_
    have hg : pv P (eqGuard op ty x y (.int k (.ofNat m)) (.int k' (.ofNat n))) = some () := by cases op <;> rfl
    have hb : pv P (binOp op ty (.int k (.ofNat m)) (.int k' (.ofNat n))) = some v := by
      have := (fastNat_ok (_P := P) ty hv).1
      show pv P (binOp op ty (.int k (m : Int)) (.int k' (n : Int))) = some v
      rw [this]; rfl
    simp only [execOp, ho, rho_p hx, rho_p hy, pv_bind, hg, hb, pv_pure]
  have he : eqOf P ty (.p (.int k (.ofNat m))) (.p (.int k' (.ofNat n))) = none := by
    unfold eqOf
    have : isNilOf (P.underlying ty) (.p (.int k (.ofNat m))) (.p (.int k' (.ofNat n))) = none := by
      unfold isNilOf
      split <;> rfl
    rw [this]; rfl
  unfold vop
  rw [ho]
  simp only
  cases op <;> simp only [hx, hy, he] <;> exact h1
theorem hasB_lt {l : List AV} {k : Nat} (h : hasB (nth l k) = true) : k < l.length := by
  rw [nth_eq] at h
  unfold hasB at h
  split at h
  · rename_i v hv; exact (List.getElem?_eq_some_iff.1 hv).1
  · cases h
/-- what an operation without a guard gives -/
def Fits (P : Program) (o : Oper) (t : Tr) (hp : List Blk) (r : Tr × List Blk) : Prop := o.guard = none ∧ ∃ v, vop P o t hp = some (.val v r.2) ∧ r.1 = putV t o.dst v
theorem fits_mk {v : AV} (hg : o.guard = none) (hv : vop P o t hp = some (.val v hp')) : Fits P o t hp (putV t o.dst v, hp') := ⟨hg, v, hv, rfl⟩
theorem asN_some {α : Type} {f : IntKind → Nat → Option α} {v : AV} {r : α} (h : asN f none v = some r) : ∃ k n, v = .p (.int k (.ofNat n)) ∧ f k n = some r := by
  unfold asN at h
  split at h
  · exact ⟨_, _, rfl, h⟩
  · cases h
theorem asPtr_some {α : Type} {f : Nat → Nat → Nat → Option α} {g : List AV → Nat → Option α} {v : AV} {r : α} (h : asPtr f g none v = some r) : (∃ i g' k, v = .ptr i g' k ∧ f i g' k = some r) ∨ ∃ xs k, v = .ip xs k ∧ g xs k = some r := by
  unfold asPtr at h
  split at h
  · exact .inl ⟨_, _, _, rfl, h⟩
  · exact .inr ⟨_, _, rfl, h⟩
  · cases h
theorem optB_some {α : Type} {f : Blk → Option α} {b : Option Blk} {r : α} (h : optB f b = some r) : ∃ bl, b = some bl ∧ f bl = some r := by
  unfold optB at h
  split at h
  · exact ⟨_, rfl, h⟩
  · cases h
theorem optP_some {d : List Bool} {v : Option AV} {r : Tr × List Blk} (h : optP d t hp v = some r) : ∃ u, v = some u ∧ r = (setP' u d t, hp) := by
  unfold optP at h
  split at h
  · cases h; exact ⟨_, rfl, rfl⟩
  · cases h
theorem optA_some {d : List Bool} {v : Option (List AV)} {r : Tr × List Blk} (h : optA d t hp v = some r) : ∃ u, v = some u ∧ r = (setP' (.agg u) d t, hp) := by
  unfold optA at h
  split at h
  · cases h; exact ⟨_, rfl, rfl⟩
  · cases h
theorem putN_eq (d : List Bool) (k : IntKind) (n : Nat) : putN d t hp k n = some (setP' (.p (.int k (.ofNat n))) d t, hp) := by cases n <;> rfl
theorem putV_some {d : List Bool} {v : Option Value} {r : Tr × List Blk} (h : putV' d t hp v = some r) : ∃ u, v = some u ∧ abs u = .p u ∧ r = (setP' (.p u) d t, hp) := by
  unfold putV' at h
  split at h
  · rw [putN_eq] at h; cases h; exact ⟨_, rfl, rfl, rfl⟩
  · rename_i b
    cases b <;> (cases h; exact ⟨_, rfl, rfl, rfl⟩)
  · cases h
theorem small_case {c : Bool} {f : QF} {r : Tr × List Blk} (h : evF (cond c f .gen) t hp = some r) : c = true ∧ evF f t hp = some r := by
  cases c with
  | false => cases h
  | true => exact ⟨rfl, h⟩
theorem evF_ok {r : Tr × List Blk} (h : evF (qf P o) t hp = some r) : Fits P o t hp r := by
  unfold qf at h
  split at h
  · cases h
  rename_i hg
  have mvcase : ∀ x, (o.op = .move x ∨ o.op = .assign x) → evF (cond (small x) (qd o.dst fun d => .mv d (qo x)) .gen) t hp = some r → Fits P o t hp r := by
    intro x ho h
    obtain ⟨hs, h⟩ := small_case h
    obtain ⟨i, hd, hi, h⟩ := qd_not h
    change fMv _ (qo x) t hp = some r at h
    unfold fMv at h
    rw [evO_ok hs, put_path hd hi] at h
    cases h
    refine fits_mk hg ?_
    unfold vop
    rcases ho with ho | ho <;> rw [ho]
  split at h
  · rename_i x ho; exact mvcase x (.inl ho) h
  · rename_i x ho; exact mvcase x (.inr ho) h
  · rename_i op ty x y z ho
    obtain ⟨hs, h⟩ := small_case h
    rw [Bool.and_eq_true] at hs
    obtain ⟨i, hd, hi, h⟩ := qd_not h
    change fBin _ op (qo x) (qo y) t hp = some r at h
    unfold fBin at h
    rw [evO_ok hs.1, evO_ok hs.2] at h
    obtain ⟨k, m, hx, h⟩ := asN_some h
    obtain ⟨k', n, hy, h⟩ := asN_some h
    obtain ⟨u, hu, hab, rfl⟩ := putV_some h
    rw [put_path hd hi, ← hab]
    exact fits_mk hg (fastV_pure (P := P) (hp := hp) ho hx hy hu)
  · rename_i ty x ho
    obtain ⟨hs, h⟩ := small_case h
    split at h
    · rename_i ha
      obtain ⟨i, hd, hi, h⟩ := qd_not h
      change fLd1 _ (qo x) t hp = some r at h
      unfold fLd1 at h
      rw [evO_ok hs] at h
      rcases asPtr_some h with ⟨b, g, k, hx, h⟩ | ⟨xs, k, hx, h⟩
      · obtain ⟨bl, hb, h⟩ := optB_some h
        obtain ⟨v, hv, rfl⟩ := optP_some h
        rw [nthB_eq] at hb
        rw [nth_eq] at hv
        rw [put_path hd hi]
        refine fits_mk hg ?_
        unfold vop
        rw [ho]
        simp only [hx, cellsAt, hb, ld, ha, hv]
      · obtain ⟨v, hv, rfl⟩ := optP_some h
        rw [nth_eq] at hv
        rw [put_path hd hi]
        refine fits_mk hg ?_
        unfold vop
        rw [ho]
        simp only [hx, cellsAt, ld, ha, hv]
    · rename_i ha
      split at h
      · rename_i n hn
        obtain ⟨i, hd, hi, h⟩ := qd_not h
        change fLdn _ (qo x) n t hp = some r at h
        unfold fLdn at h
        rw [evO_ok hs] at h
        rcases asPtr_some h with ⟨b, g, k, hx, h⟩ | ⟨xs, k, hx, h⟩
        · obtain ⟨bl, hb, h⟩ := optB_some h
          obtain ⟨v, hv, rfl⟩ := optA_some h
          rw [nthB_eq] at hb
          rw [put_path hd hi]
          refine fits_mk hg ?_
          unfold vop
          rw [ho]
          simp only [hx, cellsAt, hb, ld, ha, hn, hv]
        · obtain ⟨v, hv, rfl⟩ := optA_some h
          rw [put_path hd hi]
          refine fits_mk hg ?_
          unfold vop
          rw [ho]
          simp only [hx, cellsAt, ld, ha, hn, hv]
      · cases h
    · cases h
  · rename_i ty x y ho
    obtain ⟨hs, h⟩ := small_case h
    rw [Bool.and_eq_true] at hs
    split at h
    · rename_i hd hn
      change fSt (qo x) (qo y) t hp = some r at h
      unfold fSt at h
      rw [evO_ok hs.1, evO_ok hs.2] at h
      rcases asPtr_some h with ⟨i, g, k, hx, h⟩ | ⟨xs, k, hx, h⟩
      · obtain ⟨b, hb, h⟩ := optB_some h
        rw [nthB_eq] at hb
        have fin : ∀ (v : AV), ev t y = v → cellsA v = [v] → one v = true → (frz hp v = some (v, hp)) ∨ b.row = false → (b.row = true → imm0 v = true) → b.ro = false → hasB (nth b.cells k) = true →
            (t, setL { b with cells := setL v b.cells k } hp i) = r → Fits P o t hp r := by
          intro v hy hcv hone hfz himm hro hlen h
          cases h
          have hk := hasB_lt hlen
          have hf : vop.frzS hp (.ptr i g k) v = some (v, hp) := by
            unfold vop.frzS
            simp only [hb]
            cases hrow : b.row with
            | false => rfl
            | true => rcases hfz with e | e; exact e; rw [hrow] at e; cases e
          have hsp : splice b.cells k [v] = b.cells.set k v := by
            unfold splice
            rw [List.set_eq_take_append_cons_drop, if_pos hk]
            simp
          have hvop : vop P o t hp = some (.val (.p undef) (setL { b with cells := setL v b.cells k } hp i)) := by
            unfold vop
            rw [ho]
            simp only [hx, hy, hn, hf, hcv, List.length_cons, List.length_nil]
            show cond true _ _ = _
            rw [cond_true]
            unfold stV
            rw [hb]
            simp only [List.length_cons, List.length_nil, List.all_cons, List.all_nil, hone, hro, hsp, setL_eq]
            have h1 : Nat.ble (k + (0 + 1)) b.cells.length = true := Nat.ble_eq_true_of_le (by omega)
            have h2 : (!b.row || (imm0 v && true)) = true := by
              cases hrow : b.row with
              | false => rfl
              | true => rw [himm hrow]; rfl
            rw [h1, h2]
            rfl
          have := fits_mk hg hvop
          rw [hd] at this
          exact this
        unfold stB at h
        split at h
        · rename_i kd n hy
          obtain ⟨hc, e⟩ := cond_some h
          rw [Bool.and_eq_true, Bool.not_eq_true'] at hc
          exact fin _ hy rfl rfl (.inl rfl) (fun _ => rfl) hc.1 hc.2 e
        · rename_i q hy
          obtain ⟨hc, e⟩ := cond_some h
          rw [Bool.and_eq_true, Bool.not_eq_true'] at hc
          exact fin _ hy rfl rfl (.inl rfl) (fun _ => rfl) hc.1 hc.2 e
        · rename_i i' g' k' hy
          obtain ⟨hc, e⟩ := cond_some h
          simp only [Bool.and_eq_true, Bool.not_eq_true'] at hc
          exact fin _ hy rfl rfl (.inr hc.1.1) (fun hr => by rw [hc.1.1] at hr; cases hr) hc.1.2 hc.2 e
        · rename_i i' g' k' n' hy
          obtain ⟨hc, e⟩ := cond_some h
          simp only [Bool.and_eq_true, Bool.not_eq_true'] at hc
          exact fin _ hy rfl rfl (.inr hc.1.1) (fun hr => by rw [hc.1.1] at hr; cases hr) hc.1.2 hc.2 e
        · cases h
      · cases h
    · cases h
  · rename_i s x f ho
    obtain ⟨hs, h⟩ := small_case h
    split at h
    · rename_i fields hu
      split at h
      · rename_i fd hfd
        split at h
        · rename_i n hn
          obtain ⟨i, hd, hi, h⟩ := qd_not h
          change fFa _ (qo x) fd.offset t hp = some r at h
          unfold fFa at h
          rw [evO_ok hs] at h
          have hn0 : Nat.beq (n + 1) 0 = false := rfl
          rcases asPtr_some h with ⟨b, g, k, hx, h⟩ | ⟨xs, k, hx, h⟩
          · cases h; rw [put_path hd hi]
            refine fits_mk hg ?_
            unfold vop
            rw [ho]
            simp only [hu, hfd, hn, hn0, cond_false, hx]
          · cases h; rw [put_path hd hi]
            refine fits_mk hg ?_
            unfold vop
            rw [ho]
            simp only [hu, hfd, hn, hn0, cond_false, hx]
        · cases h
      · cases h
    · cases h
  · rename_i ty x ix ho
    obtain ⟨hs, h⟩ := small_case h
    rw [Bool.and_eq_true] at hs
    split at h
    · rename_i e hu
      split at h
      · rename_i sz hsz
        obtain ⟨i, hd, hi, h⟩ := qd_not h
        change fIxs _ (qo x) (qo ix) (sz + 1) t hp = some r at h
        unfold fIxs at h
        rw [evO_ok hs.1, evO_ok hs.2] at h
        obtain ⟨kk, j, hix, h⟩ := asN_some h
        unfold ixs1 at h
        split at h
        · rename_i n xs hx
          obtain ⟨hc, e⟩ := cond_some h
          cases e; rw [put_path hd hi]
          refine fits_mk hg ?_
          unfold vop
          rw [ho]
          simp only [hix, natOf, hu, hsz, hx, hc, cond_true]
        · rename_i n xs hx
          obtain ⟨hc, e⟩ := cond_some h
          cases e; rw [put_path hd hi]
          refine fits_mk hg ?_
          unfold vop
          rw [ho]
          simp only [hix, natOf, hu, hsz, hx, hc, cond_true]
        · rename_i b g k n hx
          obtain ⟨bl, hb, h⟩ := optB_some h
          rw [nthB_eq] at hb
          obtain ⟨hc, e⟩ := cond_some h
          cases e; rw [put_path hd hi]
          simp only [Bool.and_eq_true] at hc
          have hk := hasB_lt hc.2
          have hle : Nat.ble ((j + 1) * (sz + 1) + k) bl.cells.length = true := by
            have : 1 ≤ (j + 1) * (sz + 1) := Nat.mul_pos (by omega) (by omega)
            exact Nat.ble_eq_true_of_le (by omega)
          refine fits_mk hg ?_
          unfold vop
          rw [ho]
          simp only [hix, natOf, hu, hsz, hx, hb, hc.1.1, hc.1.2, hle, Bool.and_self, cond_true]
        · cases h
      · cases h
    · rename_i n e hu
      split at h
      · rename_i sz hsz
        obtain ⟨i, hd, hi, h⟩ := qd_not h
        change fIxa _ (qo x) (qo ix) n sz t hp = some r at h
        unfold fIxa at h
        rw [evO_ok hs.1, evO_ok hs.2] at h
        obtain ⟨kk, j, hix, h⟩ := asN_some h
        rcases asPtr_some h with ⟨b, g, k, hx, h⟩ | ⟨xs, k, hx, h⟩
        · obtain ⟨hc, e⟩ := cond_some h
          cases e; rw [put_path hd hi]
          refine fits_mk hg ?_
          unfold vop
          rw [ho]
          simp only [hix, natOf, hu, hsz, hx, hc, cond_true]
        · obtain ⟨hc, e⟩ := cond_some h
          cases e; rw [put_path hd hi]
          refine fits_mk hg ?_
          unfold vop
          rw [ho]
          simp only [hix, natOf, hu, hsz, hx, hc, cond_true]
      · cases h
    · cases h
  · rename_i x ix ho
    obtain ⟨hs, h⟩ := small_case h
    obtain ⟨i, hd, hi, h⟩ := qd_not h
    change ext1 _ ix t hp (evO t (qo x)) = some r at h
    rw [evO_ok hs] at h
    unfold ext1 at h
    split at h
    · rename_i xs hx
      obtain ⟨v, hv, rfl⟩ := optP_some h
      rw [nth_eq] at hv
      rw [put_path hd hi]
      refine fits_mk hg ?_
      unfold vop
      rw [ho]
      simp only [hx, getTup, hv]
    · cases h
  · rename_i s x f ho
    obtain ⟨hs, h⟩ := small_case h
    split at h
    · rename_i fields hu
      split at h
      · rename_i fd hfd
        split at h
        · rename_i ha
          obtain ⟨i, hd, hi, h⟩ := qd_not h
          change fld1 _ fd.offset t hp (evO t (qo x)) = some r at h
          rw [evO_ok hs] at h
          unfold fld1 at h
          split at h
          · rename_i xs hx
            obtain ⟨v, hv, rfl⟩ := optP_some h
            rw [nth_eq] at hv
            rw [put_path hd hi]
            refine fits_mk hg ?_
            unfold vop
            rw [ho]
            simp only [hx, hu, hfd, ld, ha, hv]
          · cases h
        · cases h
      · cases h
    · cases h
  · rename_i src dst x ho
    obtain ⟨hs, h⟩ := small_case h
    split at h
    · rename_i k0 k hsrc hdst
      obtain ⟨i, hd, hi, h⟩ := qd_not h
      change fCnv _ (qo x) k t hp = some r at h
      unfold fCnv at h
      rw [evO_ok hs] at h
      obtain ⟨kx, m, hx, h⟩ := asN_some h
      have key : ∀ q, wrapN k m = .ofNat q → vop P o t hp = some (.val (.p (.int k (.ofNat q))) hp) := by
        intro q hq
        have h1 : pure1 P t hp o = some (.val (abs (.int k (.ofNat q))) hp) := by
          refine pure1_of (by rw [ho]; rfl) (by rw [ho]; simp [Op.operands, allConc, hx, conc]) ?_
          have hc : pv P (convert src dst (.int kx (.ofNat m))) = some (.int k (.ofNat q)) := by
            unfold convert
            have hu : ∀ ty d, P.underlying ty = some d → pv P (underlying ty) = some d := by
              intro ty d hd
              unfold underlying
              have hp : pv P program = some P := rfl
              simp only [pv_bind, hp, hd]
              rfl
            simp only [pv_bind, hu _ _ hsrc, hu _ _ hdst]
            show pv P (Conv.intToInt k (m : Int)) = _
            unfold Conv.intToInt
            rw [pv_pure, ← wrapN_ok, hq]
          simp only [execOp, ho, rho_p hx, pv_bind, hc, pv_pure]
        unfold vop
        rw [ho]
        simp only [hsrc, hdst]
        exact h1
      unfold cnv1 at h
      split at h
      · rename_i q hq
        rw [putN_eq] at h
        cases h; rw [put_path hd hi]
        exact fits_mk hg (key q hq)
      · cases h
    · cases h
  · rename_i x ho
    obtain ⟨hs, h⟩ := small_case h
    obtain ⟨i, hd, hi, h⟩ := qd_not h
    change fNil _ (qo x) t hp = some r at h
    unfold fNil at h
    rw [evO_ok hs] at h
    rcases asPtr_some h with ⟨b, g, k, hx, h⟩ | ⟨xs, k, hx, h⟩
    · cases h; rw [put_path hd hi]
      refine fits_mk hg ?_
      unfold vop
      rw [ho]
      simp only [hx]
    · cases h; rw [put_path hd hi]
      refine fits_mk hg ?_
      unfold vop
      rw [ho]
      simp only [hx]
  · rename_i op ty x ho
    obtain ⟨hs, h⟩ := small_case h
    split at h
    · obtain ⟨i, hd, hi, h⟩ := qd_not h
      change not1 _ t hp (evO t (qo x)) = some r at h
      rw [evO_ok hs] at h
      unfold not1 at h
      split at h
      · rename_i b hx
        have h' : r = (setP' (.p (.bool (!b))) (pathOf i) t, hp) := by cases b <;> (cases h; rfl)
        subst h'
        rw [put_path hd hi]
        refine fits_mk hg ?_
        have h1 : pure1 P t hp o = some (.val (abs (.bool (!b))) hp) := by
          refine pure1_of (by rw [ho]; rfl) (by rw [ho]; simp [Op.operands, allConc, hx, conc]) ?_
          have hc : pv P (Op.unary .not (.bool b)) = some (.bool (!b)) := rfl
          simp only [execOp, ho, rho_p hx, pv_bind, hc, pv_pure]
        unfold vop
        rw [ho]
        exact h1
      · cases h
    · cases h
  · rename_i c ho
    split at h
    · rename_i x ty hcal hargs htys
      obtain ⟨hs, h⟩ := small_case h
      split at h
      · rename_i e hu
        obtain ⟨i, hd, hi, h⟩ := qd_not h
        have fin : ∀ n, lenV hp (ev t x) = some n → putN (pathOf i) t hp .i64 n = some r → Fits P o t hp r := by
          intro n hn h
          rw [putN_eq, put_path hd hi] at h
          cases h
          refine fits_mk hg ?_
          unfold vop
          rw [ho]
          simp only [hcal, hargs, htys, hn, hu]
          rfl
        change len1 _ t hp (evO t (qo x)) = some r at h
        rw [evO_ok hs] at h
        unfold len1 at h
        split at h
        · rename_i n xs hx
          exact fin n (by rw [hx]; rfl) h
        · rename_i n xs hx
          exact fin n (by rw [hx]; rfl) h
        · rename_i b g k n hx
          obtain ⟨bl, hb, h⟩ := optB_some h
          rw [nthB_eq] at hb
          exact fin n (by rw [hx]; simp only [lenV, hb]) h
        · rename_i hx
          exact fin 0 (by rw [hx]; rfl) h
        · cases h
      · cases h
    · cases h
  · cases h
theorem Fits.op {r : Tr × List Blk} (h : Fits P o t hp r) : opV P run M ops o t hp = some r := by
  obtain ⟨hg, v, hv, e⟩ := h
  rw [opV_val hg hv, ← e]
def isSt : QF → Bool
  | .st _ _ => true
  | _ => false
theorem qf_light {r : Tr × List Blk} (h : evF (qf P o) t hp = some r) (hs : isSt (qf P o) = false) : plainB t o.op = true ∧ writes o.op = false := by
  cases ho : o.op
  case buildSlice ty n ps =>
    unfold qf at h
    split at h
    · cases h
    · rw [ho] at h; cases h
  case mapUpdate ty x k y =>
    unfold qf at h
    split at h
    · cases h
    · rw [ho] at h; cases h
  case store ty x y =>
    unfold qf at h hs
    split at h
    · cases h
    · rename_i hg
      rw [hg, ho] at hs
      rw [ho] at h
      simp only at h hs
      cases hc : (small x && small y) with
      | false => rw [hc] at h; cases h
      | true =>
        rw [hc, cond_true] at h hs
        split at h
        · rename_i e1 e2
          rw [e1, e2] at hs
          cases hs
        · cases h
  case call c =>
    refine ⟨rfl, ?_⟩
    unfold qf at h
    split at h
    · cases h
    · rw [ho] at h
      simp only at h
      split at h
      · rename_i x ty h1 h2 h3
        simp only [writes, h1]
      · cases h
  all_goals exact ⟨rfl, rfl⟩
theorem Fits.opG {r : Tr × List Blk} {mask : Nat} {pend : Pend} (h : Fits P o t hp r) (hp1 : plainB t o.op = true) (hw : writes o.op = false) : Vm.opG P run M mask pend ops o t hp = some r := by
  obtain ⟨hg, v, hv, e⟩ := h
  unfold Vm.opG
  have : guardV ops t o = some true := by unfold guardV; rw [hg]
  rw [this]
  simp only [hp1, Bool.true_or, cond_true, hv, hw, Bool.not_false]
  rw [← e]

/-! ### code -/
noncomputable def contQ (ih : Tr → List Blk → Option (Tr × List Blk)) : Option (Tr × List Blk) → Option (Tr × List Blk)
  | some (t, hp) => fr (fun t' => frL (fun hp' => ih t' hp') hp) t
  | none => none
theorem contQ_some (ih : Tr → List Blk → Option (Tr × List Blk)) (t : Tr) (hp : List Blk) : contQ ih (some (t, hp)) = ih t hp := by
  unfold contQ
  simp only
  rw [fr_eq, frL_eq]
noncomputable def stepQ (P : Program) (run : FuncId → List AV → List Blk → Option (AV × List Blk)) (M : Mode) (ops : Array Oper) (ih : Tr → List Blk → Option (Tr × List Blk)) (q : Q) (t : Tr) (hp : List Blk) : Option (Tr × List Blk) :=
  match evF q.f t hp with
  | some (t', hp') => fr (fun t'' => ih t'' hp') t'
  | none => contQ ih (opV P run M ops q.o t hp)
noncomputable def opsQ (P : Program) (run : FuncId → List AV → List Blk → Option (AV × List Blk)) (M : Mode) (ops : Array Oper) (l : List Q) : Tr → List Blk → Option (Tr × List Blk) :=
  List.rec (motive := fun _ => Tr → List Blk → Option (Tr × List Blk)) (fun t hp => some (t, hp)) (fun q _ ih t hp => stepQ P run M ops ih q t hp) l
theorem opsQ_ok : ∀ (l : List Oper) (t : Tr) (hp : List Blk) (r : Tr × List Blk), opsQ P run M ops (qs P l) t hp = some r → opsV P run M ops l t hp = some r
  | [], t, hp, r, h => h
  | o :: l, t, hp, r, h => by
    have h' : stepQ P run M ops (opsQ P run M ops (qs P l)) ⟨qf P o, o⟩ t hp = some r := h
    unfold stepQ at h'
    simp only at h'
    unfold opsV
    split at h'
    · rename_i t' hp' he
      rw [fr_eq] at h'
      rw [(evF_ok he).op]
      exact opsQ_ok l _ _ _ h'
    · cases ho : opV P run M ops o t hp with
      | none => rw [ho] at h'; cases h'
      | some q =>
        obtain ⟨t', hp'⟩ := q
        rw [ho, contQ_some] at h'
        exact opsQ_ok l _ _ _ h'
noncomputable def planQ (P : Program) (run : FuncId → List AV → List Blk → Option (AV × List Blk)) (M : Mode) (ops : Array Oper) (ms : List Nat) : List Nat → Pend → Tr → List Blk → Option (Tr × List Blk)
  | [], _, t, hp => some (t, hp)
  | i :: r, pend, t, hp => match ops[i]? with
    | none => none
    | some o => match cond (isSt (qf P o)) none (evF (qf P o) t hp) with
      | some (t', hp') => planQ P run M ops ms r ((i, readR t o) :: pend) t' hp'
      | none => match opG P run M (ms.getD i 0) pend ops o t hp with
        | some (t', hp') => planQ P run M ops ms r ((i, readR t o) :: pend) t' hp'
        | none => none
theorem planQ_ok {ms : List Nat} : ∀ (l : List Nat) (pend : Pend) (t : Tr) (hp : List Blk) (r : Tr × List Blk), planQ P run M ops ms l pend t hp = some r → planV P run M ops ms l pend t hp = some r
  | [], pend, t, hp, r, h => h
  | i :: l, pend, t, hp, r, h => by
    unfold planQ at h
    unfold planV
    split at h
    · cases h
    · rename_i o ho
      split at h
      · rename_i t' hp' he
        cases hs : isSt (qf P o) with
        | true => rw [hs] at he; cases he
        | false =>
          rw [hs, cond_false] at he
          obtain ⟨h1, h2⟩ := qf_light he hs
          simp only [ho, (evF_ok he).opG h1 h2]
          exact planQ_ok l _ _ _ _ h
      · split at h
        · rename_i t' hp' ho2
          simp only [ho, ho2]
          exact planQ_ok l _ _ _ _ h
        · cases h
noncomputable def regQ (P : Program) (run : FuncId → List AV → List Blk → Option (AV × List Blk)) (M : Mode) (N : Nat) (ops : Array Oper) (draw : Bool) (t : Tr) (hp : List Blk) : Option (Tr × List Blk) :=
  cond (dstsOk N ops)
    (cond draw (match cond (P.follows .mixedOrders && planOk ops (planOf ops)) (planQ P run M ops (masks ops.toList) (planOf ops) [] t hp) none with
      | some r => some r
      | none => regV P run M N ops true t hp) (opsQ P run M ops (qs P ops.toList) t hp)) none
theorem regQ_ok {N : Nat} {draw : Bool} {r : Tr × List Blk} (h : regQ P run M N ops draw t hp = some r) : regV P run M N ops draw t hp = some r := by
  unfold regQ at h
  unfold regV
  cases hd : dstsOk N ops with
  | false => rw [hd] at h; cases h
  | true =>
    rw [hd, cond_true] at h
    rw [cond_true]
    cases draw with
    | false => exact opsQ_ok _ _ _ _ h
    | true =>
      rw [cond_true] at h
      split at h
      · rename_i r' h1
        cases h
        cases hq : (P.follows .mixedOrders && planOk ops (planOf ops)) with
        | false => rw [hq] at h1; cases h1
        | true =>
          rw [hq, cond_true] at h1
          rw [Bool.and_eq_true] at hq
          rw [cond_true, hq.1, hq.2, cond_true, cond_true]
          simp only [planQ_ok _ _ _ _ _ h1]
      · unfold regV at h
        rw [hd, cond_true] at h
        exact h
noncomputable def evX (t : Tr) (x : Operand) : AV := cond (small x) (evO t (qo x)) (ev t x)
theorem evX_eq (t : Tr) (x : Operand) : evX t x = ev t x := by
  unfold evX
  cases hs : small x with
  | false => rfl
  | true => exact evO_ok hs
noncomputable def regX (r : Option (Tr × List Blk)) : Option (Ex × Tr × List Blk) := match r with | some (t, hp) => some (.nrm, t, hp) | none => none
noncomputable def seqX (ih : Code → Tr → List Blk → Option (Ex × Tr × List Blk)) (b : Code) : Option (Ex × Tr × List Blk) → Option (Ex × Tr × List Blk)
  | some (.nrm, t, hp) => ih b t hp
  | r => r
noncomputable def condX (ih : Code → Tr → List Blk → Option (Ex × Tr × List Blk)) (a b : Code) (t : Tr) (hp : List Blk) : AV → Option (Ex × Tr × List Blk)
  | .p (.bool v) => cond v (ih a t hp) (ih b t hp)
  | _ => none
noncomputable def blockX (id : Nat) : Option (Ex × Tr × List Blk) → Option (Ex × Tr × List Blk)
  | some (.exit id', t, hp) => cond (Nat.beq id' id) (some (.nrm, t, hp)) (some (.exit id', t, hp))
  | r => r
noncomputable def rangeX (t : Tr) : Option (Bool × List Blk) → Option (Ex × Tr × List Blk)
  | some (q, hp) => cond q (some (.ret, t, hp)) (some (.nrm, t, hp))
  | none => none
abbrev XR := Option (Ex × Tr × List Blk)
abbrev XF := Code → Tr → List Blk → XR
noncomputable def xNrm (t : Tr) (hp : List Blk) : XR := some (.nrm, t, hp)
noncomputable def xReg (P : Program) (run : FuncId → List AV → List Blk → Option (AV × List Blk)) (M : Mode) (N : Nat) (ops : Array Oper) (draw : Bool) (t : Tr) (hp : List Blk) : XR := regX (regQ P run M N ops draw t hp)
noncomputable def xSeq (ih : XF) (a b : Code) (t : Tr) (hp : List Blk) : XR := seqX ih b (ih a t hp)
noncomputable def xCond (ih : XF) (x : Operand) (a b : Code) (t : Tr) (hp : List Blk) : XR := condX ih a b t hp (evX t x)
noncomputable def xBlock (ih : XF) (id : Nat) (a : Code) (t : Tr) (hp : List Blk) : XR := blockX id (ih a t hp)
noncomputable def xLoop (ih : XF) (a : Code) (t : Tr) (hp : List Blk) : XR := seqX ih (.loop a) (ih a t hp)
noncomputable def xScope (n : Nat) (ih : XF) (a : Code) (t : Tr) (hp : List Blk) : XR := scopeR ih a n a t hp
noncomputable def xRange (P : Program) (run : FuncId → List AV → List Blk → Option (AV × List Blk)) (M : Mode) (N n : Nat) (g : Operand) (ps : Array Tmp) (c1 c2 : Code) (t : Tr) (hp : List Blk) : XR := rangeX t (rangeE P run M N n g ps c1 c2 t hp)
noncomputable def bodyQ (P : Program) (run : FuncId → List AV → List Blk → Option (AV × List Blk)) (M : Mode) (N n : Nat) (ih : XF) (c : Code) : Tr → List Blk → XR :=
  Code.rec (motive := fun _ => Tr → List Blk → XR)
    xNrm
    (fun _ => xReg P run M N)
    (fun a b _ _ => xSeq ih a b)
    (fun x a b _ _ => xCond ih x a b)
    (fun id a _ => xBlock ih id a)
    (fun a _ => xLoop ih a)
    (fun g ps c1 c2 _ _ => xRange P run M N n g ps c1 c2)
    (fun id t hp => some (.exit id, t, hp))
    (fun a _ => xScope n ih a)
    (fun _ => xNrm)
    (fun l t hp => some (.goto l, t, hp))
    (fun t hp => some (.ret, t, hp))
    (fun _ _ _ => none) c
noncomputable def exQ (P : Program) (run : FuncId → List AV → List Blk → Option (AV × List Blk)) (M : Mode) (N n : Nat) : Code → Tr → List Blk → Option (Ex × Tr × List Blk) :=
  Nat.rec (motive := fun _ => Code → Tr → List Blk → Option (Ex × Tr × List Blk)) (fun _ _ _ => none) (fun n ih c t hp => bodyQ P run M N n ih c t hp) n
theorem scopeR_mono {e1 e2 : Code → Tr → List Blk → Option (Ex × Tr × List Blk)} (h : ∀ c t hp r, e1 c t hp = some r → e2 c t hp = some r) (a : Code) : ∀ (k : Nat) (c : Code) (t : Tr) (hp : List Blk) (r : Ex × Tr × List Blk), scopeR e1 a k c t hp = some r → scopeR e2 a k c t hp = some r
  | 0, c, t, hp, r, hr => hr
  | k + 1, c, t, hp, r, hr => by
    unfold scopeR at hr ⊢
    cases h1 : e1 c t hp with
    | none => rw [h1] at hr; cases hr
    | some q =>
      rw [h1] at hr
      rw [h c t hp q h1]
      obtain ⟨x, t', hp'⟩ := q
      cases x <;> first | exact hr | skip
      rename_i l
      simp only at hr ⊢
      split at hr
      · rename_i rest hl
        exact scopeR_mono h a k rest t' hp' r hr
      · exact hr
theorem exQ_ok {N : Nat} : ∀ (n : Nat) (c : Code) (t : Tr) (hp : List Blk) (r : Ex × Tr × List Blk), exQ P run M N n c t hp = some r → exV P run M N n c t hp = some r
  | 0, c, t, hp, r, h => by cases h
  | n + 1, c, t, hp, r, h => by
    have h' : bodyQ P run M N n (exQ P run M N n) c t hp = some r := h
    have ih := fun c t hp r => exQ_ok (N := N) n c t hp r
    have sq : ∀ (a b : Code), seqX (exQ P run M N n) b (exQ P run M N n a t hp) = some r → (match exV P run M N n a t hp with | some (.nrm, t', hp') => exV P run M N n b t' hp' | r => r) = some r := by
      intro a b h
      cases h1 : exQ P run M N n a t hp with
      | none => rw [h1] at h; cases h
      | some q =>
        rw [h1] at h
        rw [ih a t hp q h1]
        obtain ⟨x, t', hp'⟩ := q
        cases x <;> first | exact h | exact ih b t' hp' r h
    unfold exV
    cases c
    case skip => exact h'
    case label l => exact h'
    case region id ops draw =>
      have h2 : regX (regQ P run M N ops draw t hp) = some r := h'
      cases h1 : regQ P run M N ops draw t hp with
      | none => rw [h1] at h2; cases h2
      | some q =>
        rw [h1] at h2
        simp only [regQ_ok h1]
        exact h2
    case seq a b => exact sq a b h'
    case cond x a b =>
      have h2 : condX (exQ P run M N n) a b t hp (evX t x) = some r := h'
      rw [evX_eq] at h2
      unfold condX at h2
      simp only
      split at h2
      · rename_i v hv
        rw [hv]
        simp only
        cases v with
        | true => exact ih _ _ _ _ h2
        | false => exact ih _ _ _ _ h2
      · cases h2
    case block id a =>
      have h2 : blockX id (exQ P run M N n a t hp) = some r := h'
      cases h1 : exQ P run M N n a t hp with
      | none => rw [h1] at h2; cases h2
      | some q =>
        rw [h1] at h2
        simp only [ih a t hp q h1]
        obtain ⟨x, t', hp'⟩ := q
        cases x <;> exact h2
    case loop a => exact sq a (.loop a) h'
    case exit id => exact h'
    case goto l => exact h'
    case scope a => exact scopeR_mono ih a n a t hp r h'
    case ret => exact h'
    case rangeFunc g ps c1 c2 =>
      have h2 : rangeX t (rangeE P run M N n g ps c1 c2 t hp) = some r := h'
      cases h1 : rangeE P run M N n g ps c1 c2 t hp with
      | none => rw [h1] at h2; cases h2
      | some q =>
        rw [h1] at h2
        obtain ⟨q, hp2⟩ := q
        cases q <;> (simp only [h1]; exact h2)
    all_goals cases h'
end
noncomputable def resQ (P : Program) (n : Nat) (rs : List ResultVar) : Option (Ex × Tr × List Blk) → Option (AV × List Blk)
  | some (.nrm, t, hp') | some (.ret, t, hp') => (match resV P t hp' rs with
    | some [v] => gcV n v hp'
    | some vs => gcV n (.tup vs) hp'
    | none => none)
  | _ => none
noncomputable def runQ (P : Program) (M : Mode) : Nat → FuncId → List AV → List Blk → Option (AV × List Blk)
  | 0, _, _, _ => none
  | n + 1, f, args, hp =>
    match P.funcs[f]? with
    | none => none
    | some fn =>
      match fn.body with
      | none => none
      | some c =>
        cond (Nat.blt (Nat.max args.length fn.ntmps) 16383)
          (resQ P hp.length fn.results.toList (exQ P (fun f args hp => match M.ov f with | some F => F args hp | none => runQ P M n f args hp) M (Nat.max args.length fn.ntmps) n c (frameOf 0 args .lf) hp)) none
theorem runQ_ok {P : Program} {M : Mode} (hov : ∀ f F, M.ov f = some F → ∀ args hp r hp', F args hp = some (r, hp') → FnOk P f args hp r hp') : ∀ n, RunOk P (runQ P M n)
  | 0 => fun f args hp r hp' h => by simp [runQ] at h
  | n + 1 => fun f args hp r hp' h => by
    have ih := runQ_ok hov n
    have hrun : RunOk P (fun f args hp => match M.ov f with | some F => F args hp | none => runQ P M n f args hp) := by
      intro f args hp r hp' h
      simp only at h
      split at h
      · rename_i F hF; exact hov f F hF args hp r hp' h
      · exact ih f args hp r hp' h
    unfold runQ at h
    split at h
    · cases h
    · rename_i fn hfn
      split at h
      · cases h
      · rename_i c hbody
        cases hN : Nat.blt (Nat.max args.length fn.ntmps) 16383 with
        | false => rw [hN] at h; cases h
        | true =>
          rw [hN, cond_true] at h
          have hN' : Nat.max args.length fn.ntmps < 16383 := Nat.le_of_ble_eq_true hN
          have fin : ∀ (x : Ex) (t : Tr) (hp1 : List Blk), (x = .nrm ∨ x = .ret) → exQ P (fun f args hp => match M.ov f with | some F => F args hp | none => runQ P M n f args hp) M (Nat.max args.length fn.ntmps) n c (frameOf 0 args .lf) hp = some (x, t, hp1) →
              (match resV P t hp1 fn.results.toList with | some [v] => gcV hp.length v hp1 | some vs => gcV hp.length (.tup vs) hp1 | none => none) = some (r, hp') → FnOk P f args hp r hp' := by
            intro x t hp1 hx hex hres
            refine fn_of_tri hfn hbody hN' ?_
            intro W0 O S0 m0 a w _ hs
            refine wp_mono ((exV_both hrun hN' n).1 c _ hp x t hp1 a w (exQ_ok n _ _ _ _ hex) hs) ?_
            rintro e a1 w1 ⟨rfl, hs1⟩
            exact ⟨x, t, hp1, rfl, ⟨hx, hres⟩, hs1⟩
          unfold resQ at h
          split at h
          · rename_i t hp1 hex; exact fin .nrm t hp1 (.inl rfl) hex h
          · rename_i t hp1 hex; exact fin .ret t hp1 (.inr rfl) hex h
          · cases h
end Go.Vm

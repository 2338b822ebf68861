/- The quick way once more, in a form that costs the kernel less: what is asked comes last in each recursor, and goes on by a continuation. -/
import Derived.Test.YtlemialjfnbchaaGreatVmZ

namespace Go.Vm
open Go
abbrev KS := Tr → List Blk → QR
def matchK (r : QR) (k : KS) (g : QR) : QR := match r with
  | some (t, hp) => k t hp
  | none => g
/-! ### frames -/
noncomputable def tV (t : Tr) : AV := Tr.rec (motive := fun _ => AV) .top (fun _ v _ _ _ => v) t
noncomputable def tL (t : Tr) : (Tr → AV) → AV := Tr.rec (motive := fun _ => (Tr → AV) → AV) (fun _ => .top) (fun l _ _ _ _ k => k l) t
noncomputable def tR (t : Tr) : (Tr → AV) → AV := Tr.rec (motive := fun _ => (Tr → AV) → AV) (fun _ => .top) (fun _ _ r _ _ k => k r) t
noncomputable def gB (b : Bool) : Tr → (Tr → AV) → AV := Bool.rec (motive := fun _ => Tr → (Tr → AV) → AV) tR tL b
noncomputable def getC (p : List Bool) : Tr → AV := List.rec (motive := fun _ => Tr → AV) tV (fun b _ ih t => gB b t ih) p
theorem getC_eq : ∀ (p : List Bool) (t : Tr), getC p t = getP p t
  | [], t => rfl
  | b :: p, t => by
    show gB b t (getC p) = _
    cases t with
    | lf => cases b <;> rfl
    | nd l v r => cases b <;> exact getC_eq p _
abbrev KT := Tr → QR
abbrev SI := Tr → AV → KT → QR
noncomputable def sV (t : Tr) : AV → KT → QR := Tr.rec (motive := fun _ => AV → KT → QR) (fun v k => k (.nd .lf v .lf)) (fun l _ r _ _ v k => k (.nd l v r)) t
def kL (u : AV) (r : Tr) (k : KT) (c : Tr) : QR := k (.nd c u r)
def kR (l : Tr) (u : AV) (k : KT) (c : Tr) : QR := k (.nd l u c)
noncomputable def sL (t : Tr) : SI → AV → KT → QR := Tr.rec (motive := fun _ => SI → AV → KT → QR) (fun ih v k => ih .lf v (kL .top .lf k)) (fun l u r _ _ ih v k => ih l v (kL u r k)) t
noncomputable def sR (t : Tr) : SI → AV → KT → QR := Tr.rec (motive := fun _ => SI → AV → KT → QR) (fun ih v k => ih .lf v (kR .lf .top k)) (fun l u r _ _ ih v k => ih r v (kR l u k)) t
noncomputable def sB (b : Bool) : Tr → SI → AV → KT → QR := Bool.rec (motive := fun _ => Tr → SI → AV → KT → QR) sR sL b
noncomputable def setC (p : List Bool) : SI := List.rec (motive := fun _ => SI) sV (fun b _ ih t => sB b t ih) p
theorem setC_eq : ∀ (p : List Bool) (t : Tr) (v : AV) (k : KT), setC p t v k = k (setP' v p t)
  | [], t, v, k => by cases t <;> rfl
  | b :: p, t, v, k => by
    show sB b t (setC p) v k = _
    cases t with
    | lf =>
      rw [setP_lf]
      cases b
      · show setC p .lf v (kR .lf .top k) = _
        rw [setC_eq]; rfl
      · show setC p .lf v (kL .top .lf k) = _
        rw [setC_eq]; rfl
    | nd l u r =>
      rw [setP_nd]
      cases b
      · show setC p r v (kR l u k) = _
        rw [setC_eq]; rfl
      · show setC p l v (kL u r k) = _
        rw [setC_eq]; rfl
noncomputable def evC (x : QO) : Tr → AV := QO.rec (motive := fun _ => Tr → AV) getC (fun v _ => v) x
theorem evC_eq (x : QO) (t : Tr) : evC x t = evO t x := by cases x; exact getC_eq _ _; rfl
def kH (k : KS) (hp : List Blk) (t : Tr) : QR := k t hp
/-- a slot is filled -/
noncomputable def putC (d : List Bool) (v : AV) (k : KS) (t : Tr) (hp : List Blk) : QR := setC d t v (kH k hp)
theorem putC_eq (d : List Bool) (v : AV) (k : KS) (g : QR) (t : Tr) (hp : List Blk) : putC d v k t hp = matchK (some (setP' v d t, hp)) k g := by
  unfold putC; rw [setC_eq]; rfl
/-! ### numbers -/
abbrev FN := IntKind → Nat → QR
noncomputable def iN (n : Int) : IntKind → FN → QR → QR := Int.rec (motive := fun _ => IntKind → FN → QR → QR) (fun n k f _ => f k n) (fun _ _ _ g => g) n
def dN (_ : FN) (g : QR) : QR := g
noncomputable def pN (v : Value) : FN → QR → QR := Value.rec (motive_1 := fun _ => FN → QR → QR) (motive_2 := fun _ => Unit) (motive_3 := fun _ => Unit)
  (fun _ => dN) (fun k n => iN n k) (fun _ _ => dN) (fun _ _ _ => dN) (fun _ => dN) (fun _ => dN) (fun _ _ _ => dN) (fun _ => dN) (fun _ => dN) (fun _ _ _ _ _ => dN) dN (fun _ _ _ => dN) dN (fun _ _ => dN) (fun _ _ => dN) (fun _ _ => ()) () (fun _ _ _ _ => ()) v
noncomputable def valN (v : AV) : FN → QR → QR := AV.rec (motive_1 := fun _ => FN → QR → QR) (motive_2 := fun _ => Unit)
  pN (fun _ _ _ => dN) (fun _ _ _ => dN) (fun _ _ _ => dN) (fun _ _ _ _ => dN) (fun _ _ _ => dN) (fun _ _ => dN) (fun _ _ => dN) (fun _ _ _ _ _ => dN) (fun _ _ _ => dN) (fun _ _ => dN) dN dN () (fun _ _ _ _ => ()) v
theorem valN_eq (v : AV) (f : FN) (g : QR) : valN v f g = asN f g v := by
  cases v with
  | p u => cases u with
    | int k n => cases n <;> rfl
    | _ => rfl
  | _ => rfl
noncomputable def frN (r : Nat) : (Nat → QR) → QR := Nat.rec (motive := fun _ => (Nat → QR) → QR) (fun f => f 0) (fun r _ f => f (Nat.succ r)) r
theorem frN_eq (r : Nat) (f : Nat → QR) : frN r f = f r := by cases r <;> rfl
noncomputable def kIx (k : IntKind) : Nat := IntKind.rec (motive := fun _ => Nat) 0 1 2 3 4 5 6 7 k
theorem kIx_eq (k k' : IntKind) : Nat.beq (kIx k) (kIx k') = (k == k') := by cases k <;> cases k' <;> rfl
/-- one past the greatest -/
noncomputable def kLim (k : IntKind) : Nat := IntKind.rec (motive := fun _ => Nat) 128 32768 2147483648 9223372036854775808 256 65536 4294967296 18446744073709551616 k
theorem wr_s {B H s : Nat} (X : Int) (h : s < H) (hB : H ≤ B) : cond (true && Nat.ble H (s % B)) X (.ofNat (s % B)) = Int.ofNat s := by
  have e : s % B = s := Nat.mod_eq_of_lt (by omega)
  have : Nat.ble H s = false := by rw [Bool.eq_false_iff]; intro q; have := Nat.le_of_ble_eq_true q; omega
  rw [e, this]; rfl
theorem wr_u {B H s : Nat} (X : Int) (h : s < B) : cond (false && Nat.ble H (s % B)) X (.ofNat (s % B)) = Int.ofNat s := by
  have e : s % B = s := Nat.mod_eq_of_lt h
  rw [e]; rfl
theorem kLim_wrap {k : IntKind} {s : Nat} (h : Nat.blt s (kLim k) = true) : wrapN k s = .ofNat s := by
  have h' : s < kLim k := Nat.le_of_ble_eq_true h
  cases k
  · exact wr_s (B := 256) (H := 128) _ h' (by decide)
  · exact wr_s (B := 65536) (H := 32768) _ h' (by decide)
  · exact wr_s (B := 4294967296) (H := 2147483648) _ h' (by decide)
  · exact wr_s (B := 18446744073709551616) (H := 9223372036854775808) _ h' (by decide)
  · exact wr_u (B := 256) (H := 128) (.negSucc (256 - s % 256 - 1)) h'
  · exact wr_u (B := 65536) (H := 32768) (.negSucc (65536 - s % 65536 - 1)) h'
  · exact wr_u (B := 4294967296) (H := 2147483648) (.negSucc (4294967296 - s % 4294967296 - 1)) h'
  · exact wr_u (B := 18446744073709551616) (H := 9223372036854775808) (.negSucc (18446744073709551616 - s % 18446744073709551616 - 1)) h'
noncomputable def wrapS (k : IntKind) (s : Nat) (f : Nat → QR) (g : QR) : QR := Int.rec (motive := fun _ => (Nat → QR) → QR → QR) (fun n f _ => f n) (fun _ _ g => g) (wrapN k s) f g
noncomputable def wrapC (k : IntKind) (s : Nat) (f : Nat → QR) (g : QR) : QR := cond (Nat.blt s (kLim k)) (frN s f) (wrapS k s f g)
theorem wrapC_eq (k : IntKind) (s : Nat) (f : Nat → QR) (g : QR) : wrapC k s f g = (match wrapN k s with | .ofNat n => f n | .negSucc _ => g) := by
  unfold wrapC
  cases h : Nat.blt s (kLim k) with
  | true => rw [cond_true, frN_eq, kLim_wrap h]
  | false =>
    rw [cond_false]
    unfold wrapS
    cases wrapN k s <;> rfl
/-! operations on two numbers -/
noncomputable def iS (d : List Bool) (k : KS) (t : Tr) (hp : List Blk) (kd : IntKind) (r : Nat) : QR := putC d (.p (.int kd (.ofNat r))) k t hp
noncomputable def bS (d : List Bool) (k : KS) (t : Tr) (hp : List Blk) (b : Bool) : QR := cond b (putC d (.p (.bool true)) k t hp) (putC d (.p (.bool false)) k t hp)
abbrev OPN := IntKind → IntKind → Nat → Nat → (IntKind → Nat → QR) → (Bool → QR) → QR → QR
noncomputable def sameKd (k k' : IntKind) (x g : QR) : QR := cond (Nat.beq (kIx k) (kIx k')) x g
noncomputable def addN : OPN := fun k k' m n f _ g => sameKd k k' (wrapC k (Nat.add m n) (f k) g) g
noncomputable def subN : OPN := fun k k' m n f _ g => sameKd k k' (cond (Nat.ble n m) (wrapC k (Nat.sub m n) (f k) g) g) g
noncomputable def mulN : OPN := fun k k' m n f _ g => sameKd k k' (wrapC k (Nat.mul m n) (f k) g) g
noncomputable def remN : OPN := fun k k' m n f _ g => sameKd k k' (cond (Nat.ble 1 n) (frN (Nat.mod m n) (f k)) g) g
noncomputable def lssN : OPN := fun k k' m n _ b g => sameKd k k' (b (Nat.blt m n)) g
noncomputable def leqN : OPN := fun k k' m n _ b g => sameKd k k' (b (Nat.ble m n)) g
noncomputable def gtrN : OPN := fun k k' m n _ b g => sameKd k k' (b (Nat.blt n m)) g
noncomputable def geqN : OPN := fun k k' m n _ b g => sameKd k k' (b (Nat.ble n m)) g
noncomputable def eqlN : OPN := fun k k' m n _ b g => sameKd k k' (b (Nat.beq m n)) g
noncomputable def neqN : OPN := fun k k' m n _ b g => sameKd k k' (b (!(Nat.beq m n))) g
noncomputable def kPow (k : IntKind) : Nat := IntKind.rec (motive := fun _ => Nat) 256 65536 4294967296 18446744073709551616 256 65536 4294967296 18446744073709551616 k
theorem kPow_eq (k : IntKind) : kPow k = 2 ^ k.bits := by cases k <;> rfl
noncomputable def kBit (k : IntKind) : Nat := IntKind.rec (motive := fun _ => Nat) 8 16 32 64 8 16 32 64 k
theorem kBit_eq (k : IntKind) : kBit k = k.bits := by cases k <;> rfl
noncomputable def inK (k : IntKind) (m n : Nat) (x g : QR) : QR := cond (Nat.blt m (kPow k)) (cond (Nat.blt n (kPow k)) x g) g
noncomputable def andN : OPN := fun k k' m n f _ g => sameKd k k' (inK k m n (wrapC k (Nat.land m n) (f k) g) g) g
noncomputable def orN : OPN := fun k k' m n f _ g => sameKd k k' (inK k m n (wrapC k (Nat.lor m n) (f k) g) g) g
noncomputable def xorN : OPN := fun k k' m n f _ g => sameKd k k' (inK k m n (wrapC k (Nat.xor m n) (f k) g) g) g
noncomputable def shrN : OPN := fun k _ m n f _ _ => frN (Nat.div m (Nat.pow 2 (Nat.min n (kBit k)))) (f k)
noncomputable def shlN : OPN := fun k _ m n f _ g => wrapC k (Nat.mul m (Nat.pow 2 (Nat.min n (kBit k)))) (f k) g
noncomputable def quoN : OPN := fun k k' m n f _ g => sameKd k k' (cond (Nat.ble 1 n) (wrapC k (Nat.div m n) (f k) g) g) g
/-- how a number or a truth goes on -/
def onV (f : IntKind → Nat → QR) (b : Bool → QR) (g : QR) (v : Option Value) : QR := match v with
  | some (.int k (.ofNat r)) => f k r
  | some (.bool q) => b q
  | _ => g
def restN (op : BinOp) : OPN := fun k k' m n f b g => onV f b g (fastNat op k k' m n)
noncomputable def opNC (op : BinOp) : OPN := BinOp.rec (motive := fun _ => OPN) addN subN mulN quoN remN andN orN xorN shlN shrN (restN .andNot) eqlN neqN lssN leqN gtrN geqN op
theorem opNC_eq (op : BinOp) (k k' : IntKind) (m n : Nat) (f : IntKind → Nat → QR) (b : Bool → QR) (g : QR) : opNC op k k' m n f b g = onV f b g (fastNat op k k' m n) := by
  have cnd : ∀ (c : Bool) (x : QR) (v : Value), (x = onV f b g (some v)) → cond c x g = onV f b g (cond c (some v) none) := by
    intro c x v h; cases c
    · rfl
    · exact h
  have wr : ∀ s, wrapC k s (f k) g = onV f b g (some (.int k (wrapN k s))) := by
    intro s
    rw [wrapC_eq]
    cases wrapN k s <;> rfl
  have cnd2 : ∀ (c c' : Bool) (x : QR) (v : Value), (x = onV f b g (some v)) → cond c (cond c' x g) g = onV f b g (cond (c && c') (some v) none) := by
    intro c c' x v h; cases c <;> cases c' <;> first | rfl | exact h
  have cnd3 : ∀ (c c' c2 : Bool) (x : QR) (v : Value), (x = onV f b g (some v)) → cond c (cond c' (cond c2 x g) g) g = onV f b g (cond (c && c' && c2) (some v) none) := by
    intro c c' c2 x v h; cases c <;> cases c' <;> cases c2 <;> first | rfl | exact h
  cases op <;> first | rfl | skip
  case add => show sameKd k k' _ g = _; unfold sameKd; rw [kIx_eq]; exact cnd _ _ _ (wr _)
  case sub => show sameKd k k' _ g = _; unfold sameKd; rw [kIx_eq]; exact cnd2 _ _ _ _ (wr _)
  case mul => show sameKd k k' _ g = _; unfold sameKd; rw [kIx_eq]; exact cnd _ _ _ (wr _)
  case rem => show sameKd k k' _ g = _; unfold sameKd; rw [kIx_eq]; exact cnd2 _ _ _ _ (frN_eq _ _)
  case quo => show sameKd k k' _ g = _; unfold sameKd; rw [kIx_eq]; exact cnd2 _ _ _ _ (wr _)
  case and => show sameKd k k' (inK k m n _ g) g = _; unfold sameKd inK; rw [kIx_eq, kPow_eq]; exact cnd3 _ _ _ _ _ (wr _)
  case or => show sameKd k k' (inK k m n _ g) g = _; unfold sameKd inK; rw [kIx_eq, kPow_eq]; exact cnd3 _ _ _ _ _ (wr _)
  case xor => show sameKd k k' (inK k m n _ g) g = _; unfold sameKd inK; rw [kIx_eq, kPow_eq]; exact cnd3 _ _ _ _ _ (wr _)
  case shr => show frN (Nat.div m (Nat.pow 2 (Nat.min n (kBit k)))) (f k) = _; rw [frN_eq, kBit_eq]; rfl
  case shl => show wrapC k (Nat.mul m (Nat.pow 2 (Nat.min n (kBit k)))) (f k) g = _; rw [kBit_eq]; exact wr _
  all_goals (show sameKd k k' _ g = _; unfold sameKd; rw [kIx_eq]; exact cnd _ _ _ rfl)
noncomputable def kJ (k : KS) (g : QR) : QR → QR := fun r => matchK r k g
noncomputable def bin2 (d : List Bool) (op : BinOp) (k : KS) (g : QR) (t : Tr) (hp : List Blk) (kx : IntKind) (m : Nat) (ky : IntKind) (n : Nat) : QR := opNC op kx ky m n (iS d k t hp) (bS d k t hp) g
noncomputable def bin1 (d : List Bool) (op : BinOp) (y : QO) (k : KS) (g : QR) (t : Tr) (hp : List Blk) (kx : IntKind) (m : Nat) : QR := valN (evC y t) (bin2 d op k g t hp kx m) g
noncomputable def binC (d : List Bool) (op : BinOp) (x y : QO) (k : KS) (g : QR) (t : Tr) (hp : List Blk) : QR := valN (evC x t) (bin1 d op y k g t hp) g
theorem onV_put (d : List Bool) (k : KS) (g : QR) (t : Tr) (hp : List Blk) (v : Option Value) : onV (iS d k t hp) (bS d k t hp) g v = matchK (putV' d t hp v) k g := by
  cases v with
  | none => rfl
  | some u => cases u with
    | int kd n => cases n with
      | ofNat r =>
        show iS d k t hp kd r = matchK (putN d t hp kd r) k g
        unfold putN iS
        rw [putC_eq d _ k g]
        cases r <;> rfl
      | negSucc r => rfl
    | bool b =>
      show bS d k t hp b = _
      unfold bS
      rw [putC_eq d _ k g, putC_eq d _ k g]
      cases b <;> rfl
    | _ => rfl
theorem binC_eq (d : List Bool) (op : BinOp) (x y : QO) (k : KS) (g : QR) (t : Tr) (hp : List Blk) : binC d op x y k g t hp = matchK (fBin d op x y t hp) k g := by
  unfold binC fBin
  rw [valN_eq, evC_eq]
  generalize evO t x = vx
  unfold bin1
  have h2 : ∀ kx m, valN (evC y t) (bin2 d op k g t hp kx m) g = matchK (asN (fun k' n => putV' d t hp (fastNat op kx k' m n)) none (evO t y)) k g := by
    intro kx m
    rw [valN_eq, evC_eq]
    generalize evO t y = vy
    unfold asN
    split
    · rename_i ky n
      show opNC op kx ky m n _ _ g = _
      rw [opNC_eq, onV_put]
    · rfl
  unfold asN
  split
  · exact h2 _ _
  · rfl
noncomputable def mvC (d : List Bool) (x : QO) (k : KS) (_ : QR) (t : Tr) (hp : List Blk) : QR := putC d (evC x t) k t hp
theorem mvC_eq (d : List Bool) (x : QO) (k : KS) (g : QR) (t : Tr) (hp : List Blk) : mvC d x k g t hp = matchK (fMv d x t hp) k g := by
  unfold mvC fMv
  rw [evC_eq]; exact putC_eq d _ k g t hp
/-! rows and blocks -/
noncomputable def nB {α : Type} (i : Nat) : α → (Nat → (α → QR) → QR → QR) → (α → QR) → QR → QR := Nat.rec (motive := fun _ => α → (Nat → (α → QR) → QR → QR) → (α → QR) → QR → QR) (fun a _ f _ => f a) (fun j _ _ ih f g => ih j f g) i
noncomputable def nthC {α : Type} (l : List α) : Nat → (α → QR) → QR → QR := List.rec (motive := fun _ => Nat → (α → QR) → QR → QR) (fun _ _ g => g) (fun a _ ih i f g => nB i a ih f g) l
theorem nthC_eq {α : Type} : ∀ (l : List α) (i : Nat) (f : α → QR) (g : QR), nthC l i f g = (match nth l i with | some a => f a | none => g)
  | [], _i, _f, _g => rfl
  | _a :: _l, 0, _f, _g => rfl
  | _a :: l, i + 1, f, g => nthC_eq l i f g
def consK {α : Type} (a : α) (k : List α → QR) (r : List α) : QR := k (a :: r)
noncomputable def sN {α : Type} (i : Nat) : α → List α → (Nat → α → (List α → QR) → QR) → α → (List α → QR) → QR := Nat.rec (motive := fun _ => α → List α → (Nat → α → (List α → QR) → QR) → α → (List α → QR) → QR) (fun _ r _ v k => k (v :: r)) (fun j _ a _ ih v k => ih j v (consK a k)) i
noncomputable def setLC {α : Type} (l : List α) : Nat → α → (List α → QR) → QR := List.rec (motive := fun _ => Nat → α → (List α → QR) → QR) (fun _ _ k => k []) (fun a r ih i v k => sN i a r ih v k) l
theorem setLC_eq {α : Type} (v : α) : ∀ (l : List α) (i : Nat) (k : List α → QR), setLC l i v k = k (setL v l i)
  | [], i, k => rfl
  | a :: l, 0, k => rfl
  | a :: l, i + 1, k => by
    show setLC l i v (consK a k) = k (frL (fun r' => a :: r') (setL v l i))
    rw [setLC_eq v l i, frL_eq]; rfl
abbrev FB := List AV → Nat → Nat → Bool → Bool → Option (List Value) → QR
noncomputable def blkC (b : Blk) : FB → QR := Blk.rec (motive := fun _ => FB → QR) (fun c e g r o ks F => F c e g r o ks) b
noncomputable def noK (ks : Option (List Value)) : Bool := Option.rec (motive := fun _ => Bool) true (fun _ => false) ks
abbrev FP := Nat → Nat → Nat → QR
abbrev FI := List AV → Nat → QR
def dP (_ : FP) (_ : FI) (g : QR) : QR := g
noncomputable def ptrC (v : AV) : FP → FI → QR → QR := AV.rec (motive_1 := fun _ => FP → FI → QR → QR) (motive_2 := fun _ => Unit)
  (fun _ => dP) (fun _ _ _ => dP) (fun _ _ _ => dP) (fun xs k _ _ f _ => f xs k) (fun _ _ _ _ => dP) (fun i g k f _ _ => f i g k) (fun _ _ => dP) (fun _ _ => dP) (fun _ _ _ _ _ => dP) (fun _ _ _ => dP) (fun _ _ => dP) dP dP () (fun _ _ _ _ => ()) v
theorem ptrC_eq (v : AV) (f : FP) (f2 : FI) (g : QR) : ptrC v f f2 g = asPtr f f2 g v := by cases v <;> rfl
theorem asPtr_K (f : Nat → Nat → Nat → QR) (f2 : List AV → Nat → QR) (f' : Nat → Nat → Nat → QR) (f2' : List AV → Nat → QR) (k : KS) (g : QR) (v : AV) (h1 : ∀ i j l, f i j l = matchK (f' i j l) k g) (h2 : ∀ xs j, f2 xs j = matchK (f2' xs j) k g) : asPtr f f2 g v = matchK (asPtr f' f2' none v) k g := by
  unfold asPtr
  split
  · exact h1 _ _ _
  · exact h2 _ _
  · rfl
noncomputable def ld5 (d : List Bool) (k : KS) (t : Tr) (hp : List Blk) (v : AV) : QR := putC d v k t hp
noncomputable def ld6 (d : List Bool) (k : KS) (q : QR) (t : Tr) (hp : List Blk) (g off : Nat) (c : List AV) (_ : Nat) (gen : Nat) (_ _ : Bool) (ks : Option (List Value)) : QR := cond (Nat.beq gen g && noK ks) (nthC c off (ld5 d k t hp) q) q
noncomputable def ld4 (d : List Bool) (k : KS) (q : QR) (t : Tr) (hp : List Blk) (g off : Nat) (b : Blk) : QR := blkC b (ld6 d k q t hp g off)
noncomputable def ld2 (d : List Bool) (k : KS) (q : QR) (t : Tr) (hp : List Blk) (i g off : Nat) : QR := nthC hp i (ld4 d k q t hp g off) q
noncomputable def ld3 (d : List Bool) (k : KS) (q : QR) (t : Tr) (hp : List Blk) (xs : List AV) (off : Nat) : QR := nthC xs off (ld5 d k t hp) q
noncomputable def ldC (d : List Bool) (x : QO) (k : KS) (q : QR) (t : Tr) (hp : List Blk) : QR := ptrC (evC x t) (ld2 d k q t hp) (ld3 d k q t hp) q
theorem noK_eq (b : Blk) : noKeys b = noK b.keys := by unfold noKeys; cases b.keys <;> rfl
theorem nth_put (d : List Bool) (k : KS) (q : QR) (t : Tr) (hp : List Blk) (l : List AV) (i : Nat) : nthC l i (ld5 d k t hp) q = matchK (optP d t hp (nth l i)) k q := by
  rw [nthC_eq]
  cases nth l i with
  | none => rfl
  | some v => exact putC_eq d v k q t hp
theorem ldC_eq (d : List Bool) (x : QO) (k : KS) (q : QR) (t : Tr) (hp : List Blk) : ldC d x k q t hp = matchK (fLd1 d x t hp) k q := by
  unfold ldC fLd1
  rw [ptrC_eq, evC_eq]
  refine asPtr_K _ _ _ _ k q _ (fun i g off => ?_) (fun xs off => nth_put d k q t hp xs off)
  unfold ld2 nthB
  rw [nthC_eq]
  cases nth hp i with
  | none => rfl
  | some b =>
    obtain ⟨c, e, gen, r, o, ks⟩ := b
    show cond (Nat.beq gen g && noK ks) (nthC c off (ld5 d k t hp) q) q = _
    simp only [noK_eq]
    cases (Nat.beq gen g && noK ks)
    · rfl
    · exact nth_put d k q t hp c off
/-! stores, addresses, lengths -/
abbrev FV := AV → QR
def dV (_ _ : FV) (g : QR) : QR := g
noncomputable def pV (v : Value) : FV → FV → QR → QR := Value.rec (motive_1 := fun _ => FV → FV → QR → QR) (motive_2 := fun _ => Unit) (motive_3 := fun _ => Unit)
  (fun b f _ _ => f (.p (.bool b))) (fun k n f _ _ => f (.p (.int k n))) (fun _ _ => dV) (fun _ _ _ => dV) (fun _ => dV) (fun _ => dV) (fun _ _ _ => dV) (fun _ => dV) (fun _ => dV) (fun _ _ _ _ _ => dV) dV (fun _ _ _ => dV) dV (fun _ _ => dV) (fun _ _ => dV) (fun _ _ => ()) () (fun _ _ _ _ => ()) v
noncomputable def stvC (v : AV) : FV → FV → QR → QR := AV.rec (motive_1 := fun _ => FV → FV → QR → QR) (motive_2 := fun _ => Unit)
  (fun v => pV v) (fun _ _ _ => dV) (fun _ _ _ => dV) (fun _ _ _ => dV) (fun i g k n _ f _ => f (.ref i g k n)) (fun i g k _ f _ => f (.ptr i g k)) (fun _ _ => dV) (fun _ _ => dV) (fun _ _ _ _ _ => dV) (fun _ _ _ => dV) (fun _ _ => dV) dV dV () (fun _ _ _ _ => ()) v
def okC {α : Type} (x : QR) (_ : α) : QR := x
noncomputable def stW (k : KS) (t : Tr) (hp : List Blk) (i : Nat) (e gen : Nat) (r o : Bool) (ks : Option (List Value)) (c' : List AV) : QR := setLC hp i ⟨c', e, gen, r, o, ks⟩ (k t)
noncomputable def stI (k : KS) (q : QR) (t : Tr) (hp : List Blk) (i off : Nat) (c : List AV) (e gen : Nat) (r o : Bool) (ks : Option (List Value)) (v : AV) : QR := cond (!o) (nthC c off (okC (setLC c off v (stW k t hp i e gen r o ks))) q) q
noncomputable def stP (k : KS) (q : QR) (t : Tr) (hp : List Blk) (i off : Nat) (c : List AV) (e gen : Nat) (r o : Bool) (ks : Option (List Value)) (v : AV) : QR := cond (!r) (stI k q t hp i off c e gen r o ks v) q
noncomputable def st6 (y : QO) (k : KS) (q : QR) (t : Tr) (hp : List Blk) (i g off : Nat) (c : List AV) (e gen : Nat) (r o : Bool) (ks : Option (List Value)) : QR := cond (Nat.beq gen g && noK ks) (stvC (evC y t) (stI k q t hp i off c e gen r o ks) (stP k q t hp i off c e gen r o ks) q) q
noncomputable def st4 (y : QO) (k : KS) (q : QR) (t : Tr) (hp : List Blk) (i g off : Nat) (b : Blk) : QR := blkC b (st6 y k q t hp i g off)
noncomputable def st2 (y : QO) (k : KS) (q : QR) (t : Tr) (hp : List Blk) (i g off : Nat) : QR := nthC hp i (st4 y k q t hp i g off) q
def noI (q : QR) (_ : List AV) (_ : Nat) : QR := q
noncomputable def stC (x y : QO) (k : KS) (q : QR) (t : Tr) (hp : List Blk) : QR := ptrC (evC x t) (st2 y k q t hp) (noI q) q
theorem stI_eq (k : KS) (q : QR) (t : Tr) (hp : List Blk) (i off : Nat) (c : List AV) (e gen : Nat) (r o : Bool) (ks : Option (List Value)) (v : AV) : stI k q t hp i off c e gen r o ks v = matchK (cond (!o && hasB (nth c off)) (some (t, setL (⟨setL v c off, e, gen, r, o, ks⟩ : Blk) hp i)) none) k q := by
  unfold stI
  rw [nthC_eq]
  cases o with
  | true => rfl
  | false =>
    simp only [Bool.not_false, cond_true, Bool.true_and]
    cases nth c off with
    | none => rfl
    | some a =>
      show setLC c off v (stW k t hp i e gen r false ks) = k t _
      rw [setLC_eq]
      unfold stW
      rw [setLC_eq]
theorem stP_eq (k : KS) (q : QR) (t : Tr) (hp : List Blk) (i off : Nat) (c : List AV) (e gen : Nat) (r o : Bool) (ks : Option (List Value)) (v : AV) : stP k q t hp i off c e gen r o ks v = matchK (cond (!r && !o && hasB (nth c off)) (some (t, setL (⟨setL v c off, e, gen, r, o, ks⟩ : Blk) hp i)) none) k q := by
  unfold stP
  cases r with
  | true => rfl
  | false =>
    simp only [Bool.not_false, cond_true, Bool.true_and]
    exact stI_eq k q t hp i off c e gen false o ks v
theorem stC_eq (x y : QO) (k : KS) (q : QR) (t : Tr) (hp : List Blk) : stC x y k q t hp = matchK (fSt x y t hp) k q := by
  unfold stC fSt
  rw [ptrC_eq, evC_eq]
  refine asPtr_K _ _ _ _ k q _ (fun i g off => ?_) (fun xs off => rfl)
  unfold st2 nthB
  rw [nthC_eq]
  cases nth hp i with
  | none => rfl
  | some b =>
    obtain ⟨c, e, gen, r, o, ks⟩ := b
    show cond (Nat.beq gen g && noK ks) (stvC (evC y t) _ _ q) q = _
    simp only [noK_eq]
    cases (Nat.beq gen g && noK ks)
    · rfl
    · rw [evC_eq]
      show stvC (evO t y) (stI k q t hp i off c e gen r o ks) (stP k q t hp i off c e gen r o ks) q = matchK (stB ⟨c, e, gen, r, o, ks⟩ t hp i off (evO t y)) k q
      cases evO t y with
      | p v => cases v with
        | int kd n => exact stI_eq k q t hp i off c e gen r o ks _
        | bool b => exact stI_eq k q t hp i off c e gen r o ks _
        | _ => rfl
      | ptr i' g' k' => exact stP_eq k q t hp i off c e gen r o ks _
      | ref i' g' k' n' => exact stP_eq k q t hp i off c e gen r o ks _
      | _ => rfl
noncomputable def fa3 (d : List Bool) (k : KS) (t : Tr) (hp : List Blk) (i g : Nat) (r : Nat) : QR := putC d (.ptr i g r) k t hp
noncomputable def fa4 (d : List Bool) (k : KS) (t : Tr) (hp : List Blk) (xs : List AV) (r : Nat) : QR := putC d (.ip xs r) k t hp
noncomputable def fa1 (d : List Bool) (off : Nat) (k : KS) (t : Tr) (hp : List Blk) (i g j : Nat) : QR := frN (Nat.add j off) (fa3 d k t hp i g)
noncomputable def fa2 (d : List Bool) (off : Nat) (k : KS) (t : Tr) (hp : List Blk) (xs : List AV) (j : Nat) : QR := frN (Nat.add j off) (fa4 d k t hp xs)
noncomputable def faC (d : List Bool) (x : QO) (off : Nat) (k : KS) (q : QR) (t : Tr) (hp : List Blk) : QR := ptrC (evC x t) (fa1 d off k t hp) (fa2 d off k t hp) q
theorem faC_eq (d : List Bool) (x : QO) (off : Nat) (k : KS) (q : QR) (t : Tr) (hp : List Blk) : faC d x off k q t hp = matchK (fFa d x off t hp) k q := by
  unfold faC fFa
  rw [ptrC_eq, evC_eq]
  refine asPtr_K _ _ _ _ k q _ (fun i g j => ?_) (fun xs j => ?_)
  · unfold fa1; rw [frN_eq]; exact putC_eq d _ k q t hp
  · unfold fa2; rw [frN_eq]; exact putC_eq d _ k q t hp
noncomputable def niC (d : List Bool) (x : QO) (k : KS) (q : QR) (t : Tr) (hp : List Blk) : QR := ptrC (evC x t) (fa3 d k t hp) (fa4 d k t hp) q
theorem niC_eq (d : List Bool) (x : QO) (k : KS) (q : QR) (t : Tr) (hp : List Blk) : niC d x k q t hp = matchK (fNil d x t hp) k q := by
  unfold niC fNil
  rw [ptrC_eq, evC_eq]
  exact asPtr_K _ _ _ _ k q _ (fun i g j => putC_eq d _ k q t hp) (fun xs j => putC_eq d _ k q t hp)
abbrev FL := Nat → List AV → QR
abbrev FR := Nat → Nat → Nat → Nat → QR
def dR (_ : FL) (_ : FR) (_ g : QR) : QR := g
def eR (_ : FL) (_ : FR) (e _ : QR) : QR := e
noncomputable def rowC (v : AV) : FL → FR → QR → QR → QR := AV.rec (motive_1 := fun _ => FL → FR → QR → QR → QR) (motive_2 := fun _ => Unit)
  (fun _ => dR) (fun n xs _ f _ _ _ => f n xs) (fun n xs _ f _ _ _ => f n xs) (fun _ _ _ => dR) (fun i g k n _ f _ _ => f i g k n) (fun _ _ _ => dR) (fun _ _ => dR) (fun _ _ => dR) (fun _ _ _ _ _ => dR) (fun _ _ _ => dR) (fun _ _ => dR) (eR) dR () (fun _ _ _ _ => ()) v
noncomputable def ix3 (d : List Bool) (sz : Nat) (k : KS) (q : QR) (t : Tr) (hp : List Blk) (j : Nat) (n : Nat) (xs : List AV) : QR := cond (Nat.blt j n) (frN (Nat.mul j sz) (fa4 d k t hp xs)) q
noncomputable def ix6 (d : List Bool) (sz : Nat) (k : KS) (q : QR) (t : Tr) (hp : List Blk) (j : Nat) (i g off n : Nat) (c : List AV) (e gen : Nat) (_ _ : Bool) (ks : Option (List Value)) : QR :=
  cond (Nat.beq gen g && noK ks) (cond (Nat.blt j n && Nat.beq e sz) (nthC c (Nat.sub (Nat.add (Nat.mul (Nat.add j 1) sz) off) 1) (okC (frN (Nat.add off (Nat.mul j sz)) (fa3 d k t hp i g))) q) q) q
noncomputable def ix5 (d : List Bool) (sz : Nat) (k : KS) (q : QR) (t : Tr) (hp : List Blk) (j : Nat) (i g off n : Nat) (b : Blk) : QR := blkC b (ix6 d sz k q t hp j i g off n)
noncomputable def ix4 (d : List Bool) (sz : Nat) (k : KS) (q : QR) (t : Tr) (hp : List Blk) (j : Nat) (i g off n : Nat) : QR := nthC hp i (ix5 d sz k q t hp j i g off n) q
noncomputable def ix2 (d : List Bool) (x : QO) (sz : Nat) (k : KS) (q : QR) (t : Tr) (hp : List Blk) (_ : IntKind) (j : Nat) : QR := rowC (evC x t) (ix3 d sz k q t hp j) (ix4 d sz k q t hp j) q q
noncomputable def ixC (d : List Bool) (x y : QO) (sz : Nat) (k : KS) (q : QR) (t : Tr) (hp : List Blk) : QR := valN (evC y t) (ix2 d x sz k q t hp) q
theorem ixC_eq (d : List Bool) (x y : QO) (sz : Nat) (k : KS) (q : QR) (t : Tr) (hp : List Blk) : ixC d x y sz k q t hp = matchK (fIxs d x y sz t hp) k q := by
  unfold ixC fIxs
  rw [valN_eq, evC_eq]
  generalize evO t y = vy
  unfold asN
  split
  · rename_i kd j
    show rowC (evC x t) (ix3 d sz k q t hp j) (ix4 d sz k q t hp j) q q = _
    rw [evC_eq]
    have h3 : ∀ n xs, ix3 d sz k q t hp j n xs = matchK (cond (Nat.blt j n) (some (setP' (.ip xs (j * sz)) d t, hp)) none) k q := by
      intro n xs
      unfold ix3
      cases Nat.blt j n
      · rfl
      · rw [cond_true, frN_eq]; exact putC_eq d _ k q t hp
    cases evO t x with
    | lst n xs => exact h3 n xs
    | lit n xs => exact h3 n xs
    | ref i g off n =>
      show nthC hp i (ix5 d sz k q t hp j i g off n) q = matchK (optB _ (nthB hp i g)) k q
      unfold nthB
      rw [nthC_eq]
      cases nth hp i with
      | none => rfl
      | some b =>
        obtain ⟨c, e, gen, r, o, ks⟩ := b
        show cond (Nat.beq gen g && noK ks) _ q = _
        simp only [noK_eq]
        cases (Nat.beq gen g && noK ks)
        · rfl
        · show cond (Nat.blt j n && Nat.beq e sz) (nthC c _ _ q) q = matchK (cond (Nat.blt j n && Nat.beq e sz && hasB (nth c ((j + 1) * sz + off - 1))) _ none) k q
          rw [nthC_eq]
          cases (Nat.blt j n && Nat.beq e sz)
          · rfl
          · rw [cond_true, Bool.true_and, show Nat.sub (Nat.add (Nat.mul (Nat.add j 1) sz) off) 1 = (j + 1) * sz + off - 1 from rfl]
            cases nth c ((j + 1) * sz + off - 1) with
            | none => rfl
            | some a =>
              show frN _ _ = _
              rw [frN_eq]; exact putC_eq d _ k q t hp
    | _ => rfl
  · rfl
noncomputable def le1 (d : List Bool) (k : KS) (t : Tr) (hp : List Blk) (n : Nat) (_ : List AV) : QR := frN n (iS d k t hp .i64)
noncomputable def le4 (d : List Bool) (k : KS) (q : QR) (t : Tr) (hp : List Blk) (g n : Nat) (_ : List AV) (_ gen : Nat) (_ _ : Bool) (ks : Option (List Value)) : QR := cond (Nat.beq gen g && noK ks) (frN n (iS d k t hp .i64)) q
noncomputable def le3 (d : List Bool) (k : KS) (q : QR) (t : Tr) (hp : List Blk) (g n : Nat) (b : Blk) : QR := blkC b (le4 d k q t hp g n)
noncomputable def le2 (d : List Bool) (k : KS) (q : QR) (t : Tr) (hp : List Blk) (i g _ n : Nat) : QR := nthC hp i (le3 d k q t hp g n) q
noncomputable def leC (d : List Bool) (x : QO) (k : KS) (q : QR) (t : Tr) (hp : List Blk) : QR := rowC (evC x t) (le1 d k t hp) (le2 d k q t hp) (iS d k t hp .i64 0) q
theorem putN_K (d : List Bool) (k : KS) (q : QR) (t : Tr) (hp : List Blk) (kd : IntKind) (n : Nat) : frN n (iS d k t hp kd) = matchK (putN d t hp kd n) k q := by
  rw [frN_eq]
  unfold putN iS
  rw [putC_eq d _ k q]
  cases n <;> rfl
theorem leC_eq (d : List Bool) (x : QO) (k : KS) (q : QR) (t : Tr) (hp : List Blk) : leC d x k q t hp = matchK (fLen d x t hp) k q := by
  unfold leC fLen
  rw [evC_eq]
  cases evO t x with
  | lst n xs => exact putN_K d k q t hp .i64 n
  | lit n xs => exact putN_K d k q t hp .i64 n
  | ref i g off n =>
    show nthC hp i (le3 d k q t hp g n) q = matchK (optB _ (nthB hp i g)) k q
    unfold nthB
    rw [nthC_eq]
    cases nth hp i with
    | none => rfl
    | some b =>
      obtain ⟨c, e, gen, r, o, ks⟩ := b
      show cond (Nat.beq gen g && noK ks) _ q = _
      simp only [noK_eq]
      cases (Nat.beq gen g && noK ks)
      · rfl
      · exact putN_K d k q t hp .i64 n
  | emp => exact (frN_eq 0 _).symm.trans (putN_K d k q t hp .i64 0)
  | _ => rfl
abbrev FT := List AV → QR
def dT (_ : FT) (q : QR) : QR := q
noncomputable def tupC (v : AV) : FT → QR → QR := AV.rec (motive_1 := fun _ => FT → QR → QR) (motive_2 := fun _ => Unit)
  (fun _ => dT) (fun _ _ _ => dT) (fun _ _ _ => dT) (fun _ _ _ => dT) (fun _ _ _ _ => dT) (fun _ _ _ => dT) (fun _ _ => dT) (fun xs _ f _ => f xs) (fun _ _ _ _ _ => dT) (fun _ _ _ => dT) (fun _ _ => dT) dT dT () (fun _ _ _ _ => ()) v
noncomputable def aggC (v : AV) : FT → QR → QR := AV.rec (motive_1 := fun _ => FT → QR → QR) (motive_2 := fun _ => Unit)
  (fun _ => dT) (fun _ _ _ => dT) (fun _ _ _ => dT) (fun _ _ _ => dT) (fun _ _ _ _ => dT) (fun _ _ _ => dT) (fun xs _ f _ => f xs) (fun _ _ => dT) (fun _ _ _ _ _ => dT) (fun _ _ _ => dT) (fun _ _ => dT) dT dT () (fun _ _ _ _ => ()) v
noncomputable def ex1 (d : List Bool) (i : Nat) (k : KS) (q : QR) (t : Tr) (hp : List Blk) (xs : List AV) : QR := nthC xs i (ld5 d k t hp) q
noncomputable def exT (d : List Bool) (x : QO) (i : Nat) (k : KS) (q : QR) (t : Tr) (hp : List Blk) : QR := tupC (evC x t) (ex1 d i k q t hp) q
theorem exT_eq (d : List Bool) (x : QO) (i : Nat) (k : KS) (q : QR) (t : Tr) (hp : List Blk) : exT d x i k q t hp = matchK (fExt d x i t hp) k q := by
  unfold exT fExt
  rw [evC_eq]
  cases evO t x with
  | tup xs => exact nth_put d k q t hp xs i
  | _ => rfl
noncomputable def fdC (d : List Bool) (x : QO) (i : Nat) (k : KS) (q : QR) (t : Tr) (hp : List Blk) : QR := aggC (evC x t) (ex1 d i k q t hp) q
theorem fdC_eq (d : List Bool) (x : QO) (i : Nat) (k : KS) (q : QR) (t : Tr) (hp : List Blk) : fdC d x i k q t hp = matchK (fFld d x i t hp) k q := by
  unfold fdC fFld
  rw [evC_eq]
  cases evO t x with
  | agg xs => exact nth_put d k q t hp xs i
  | _ => rfl
noncomputable def cn1 (d : List Bool) (kd : IntKind) (k : KS) (q : QR) (t : Tr) (hp : List Blk) (_ : IntKind) (m : Nat) : QR := wrapC kd m (iS d k t hp kd) q
noncomputable def cnC (d : List Bool) (x : QO) (kd : IntKind) (k : KS) (q : QR) (t : Tr) (hp : List Blk) : QR := valN (evC x t) (cn1 d kd k q t hp) q
theorem cnC_eq (d : List Bool) (x : QO) (kd : IntKind) (k : KS) (q : QR) (t : Tr) (hp : List Blk) : cnC d x kd k q t hp = matchK (fCnv d x kd t hp) k q := by
  unfold cnC fCnv
  rw [valN_eq, evC_eq]
  generalize evO t x = vx
  unfold asN
  split
  · rename_i kx m
    show wrapC kd m (iS d k t hp kd) q = matchK (cnv1 d kd t hp (wrapN kd m)) k q
    rw [wrapC_eq]
    cases wrapN kd m with
    | ofNat n => exact (frN_eq n _).symm.trans (putN_K d k q t hp kd n)
    | negSucc n => rfl
  · rfl
abbrev FBo := Bool → QR
def dB (_ : FBo) (q : QR) : QR := q
noncomputable def pB (v : Value) : FBo → QR → QR := Value.rec (motive_1 := fun _ => FBo → QR → QR) (motive_2 := fun _ => Unit) (motive_3 := fun _ => Unit)
  (fun b f _ => f b) (fun _ _ => dB) (fun _ _ => dB) (fun _ _ _ => dB) (fun _ => dB) (fun _ => dB) (fun _ _ _ => dB) (fun _ => dB) (fun _ => dB) (fun _ _ _ _ _ => dB) dB (fun _ _ _ => dB) dB (fun _ _ => dB) (fun _ _ => dB) (fun _ _ => ()) () (fun _ _ _ _ => ()) v
noncomputable def booC (v : AV) : FBo → QR → QR := AV.rec (motive_1 := fun _ => FBo → QR → QR) (motive_2 := fun _ => Unit)
  (fun v => pB v) (fun _ _ _ => dB) (fun _ _ _ => dB) (fun _ _ _ => dB) (fun _ _ _ _ => dB) (fun _ _ _ => dB) (fun _ _ => dB) (fun _ _ => dB) (fun _ _ _ _ _ => dB) (fun _ _ _ => dB) (fun _ _ => dB) dB dB () (fun _ _ _ _ => ()) v
noncomputable def noC (d : List Bool) (x : QO) (k : KS) (q : QR) (t : Tr) (hp : List Blk) : QR := booC (evC x t) (fun b => bS d k t hp (!b)) q
theorem noC_eq (d : List Bool) (x : QO) (k : KS) (q : QR) (t : Tr) (hp : List Blk) : noC d x k q t hp = matchK (fNot d x t hp) k q := by
  unfold noC fNot
  rw [evC_eq]
  cases evO t x with
  | p v => cases v with
    | bool b =>
      show bS d k t hp (!b) = _
      unfold bS
      rw [putC_eq d _ k q, putC_eq d _ k q]
      cases b <;> rfl
    | _ => rfl
  | _ => rfl
/-! any operation -/
abbrev OC := KS → QR → KS
noncomputable def oldC (f : Tr → List Blk → QR) (k : KS) (q : QR) (t : Tr) (hp : List Blk) : QR := matchK (f t hp) k q
def genC (_ : KS) (q : QR) (_ : Tr) (_ : List Blk) : QR := q
noncomputable def opC (f : QF) : OC := QF.rec (motive := fun _ => OC) mvC binC ldC (fun d x n => oldC (fLdn d x n)) stC faC ixC (fun d x i n sz => oldC (fIxa d x i n sz)) leC exT fdC cnC niC noC genC f
theorem opC_eq (f : QF) (k : KS) (q : QR) (t : Tr) (hp : List Blk) : opC f k q t hp = matchK (evF f t hp) k q := by
  cases f with
  | mv d x => exact mvC_eq d x k q t hp
  | bin d op x y => exact binC_eq d op x y k q t hp
  | ld1 d x => exact ldC_eq d x k q t hp
  | ldn d x n => rfl
  | st x y => exact stC_eq x y k q t hp
  | fa d x off => exact faC_eq d x off k q t hp
  | ixs d x i sz => exact ixC_eq d x i sz k q t hp
  | ixa d x i n sz => rfl
  | len d x => exact leC_eq d x k q t hp
  | ext d x i => exact exT_eq d x i k q t hp
  | fld d x off => exact fdC_eq d x off k q t hp
  | cnv d x kd => exact cnC_eq d x kd k q t hp
  | nil d x => exact niC_eq d x k q t hp
  | not d x => exact noC_eq d x k q t hp
  | gen => rfl
end Go.Vm

/- A virtual memory for walks: its values, blocks, and what each operation of the model does there. -/
import Derived.Orders
import Derived.Scope
import Derived.KernelRfl

namespace Go.Vm
open Go

/-- A virtual value. -/
inductive AV where
  | p (v : Value)
  | lst (n : Nat) (xs : List AV)
  | lit (n : Nat) (xs : List AV)
  | ip (xs : List AV) (k : Nat)
  | ref (i g k n : Nat)
  | ptr (i g k : Nat)
  | agg (xs : List AV)
  | tup (xs : List AV)
  | fn (f : Fn) (xs ys : List AV)
  | ifc (t : TypeId) (v : AV)
  | mp (i g : Nat)
  | emp
  | top
  deriving Inhabited

/-- A block that the walk itself owns; one with keys is a map, its cells are the values. -/
structure Blk where
  cells : List AV
  esz : Nat
  gen : Nat
  row : Bool
  ro : Bool
  keys : Option (List Value) := none
  deriving Inhabited

/-- A frame's slots. -/
inductive Tr where
  | lf
  | nd (l : Tr) (v : AV) (r : Tr)

def Tr.get : Tr → Nat → AV
  | .lf, _ => .top
  | .nd l v r, i => Nat.rec v (fun j _ => cond (Nat.beq (j % 2) 0) (l.get (j / 2)) (r.get (j / 2))) i

def Tr.setF : Nat → Tr → Nat → AV → Tr
  | 0, t, _, _ => t
  | d + 1, t, i, v =>
    match t with
    | .lf => Nat.rec (.nd .lf v .lf) (fun j _ => cond (Nat.beq (j % 2) 0) (.nd (setF d .lf (j / 2) v) .top .lf) (.nd .lf .top (setF d .lf (j / 2) v))) i
    | .nd l u r => Nat.rec (.nd l v r) (fun j _ => cond (Nat.beq (j % 2) 0) (.nd (setF d l (j / 2) v) u r) (.nd l u (setF d r (j / 2) v))) i

def Tr.set (t : Tr) (i : Nat) (v : AV) : Tr := Tr.setF 14 t i v

theorem Tr.get_lf (i : Nat) : Tr.get .lf i = .top := rfl
theorem Tr.get_nd0 (l r : Tr) (v : AV) : (Tr.nd l v r).get 0 = v := rfl
theorem Tr.get_ndS (l r : Tr) (v : AV) (j : Nat) : (Tr.nd l v r).get (j + 1) = cond (Nat.beq (j % 2) 0) (l.get (j / 2)) (r.get (j / 2)) := rfl

theorem Tr.get_odd (l r : Tr) (v : AV) (a : Nat) : (Tr.nd l v r).get (2 * a + 1) = l.get a := by
  rw [Tr.get_ndS]
  have h1 : 2 * a % 2 = 0 := by omega
  have h2 : 2 * a / 2 = a := by omega
  rw [h1, h2]; rfl
theorem Tr.get_even (l r : Tr) (v : AV) (a : Nat) : (Tr.nd l v r).get (2 * a + 2) = r.get a := by
  rw [Tr.get_ndS]
  have h1 : (2 * a + 1) % 2 = 1 := by omega
  have h2 : (2 * a + 1) / 2 = a := by omega
  rw [h1, h2]; rfl
theorem Tr.setF_lf0 (d : Nat) (v : AV) : Tr.setF (d + 1) .lf 0 v = .nd .lf v .lf := rfl
theorem Tr.setF_nd0 (d : Nat) (l r : Tr) (u v : AV) : Tr.setF (d + 1) (.nd l u r) 0 v = .nd l v r := rfl
theorem Tr.setF_lfS (d : Nat) (j : Nat) (v : AV) : Tr.setF (d + 1) .lf (j + 1) v = cond (Nat.beq (j % 2) 0) (.nd (setF d .lf (j / 2) v) .top .lf) (.nd .lf .top (setF d .lf (j / 2) v)) := rfl
theorem Tr.setF_ndS (d : Nat) (l r : Tr) (u v : AV) (j : Nat) : Tr.setF (d + 1) (.nd l u r) (j + 1) v = cond (Nat.beq (j % 2) 0) (.nd (setF d l (j / 2) v) u r) (.nd l u (setF d r (j / 2) v)) := rfl
theorem Tr.setF_lf_odd (d a : Nat) (v : AV) : Tr.setF (d + 1) .lf (2 * a + 1) v = .nd (setF d .lf a v) .top .lf := by
  rw [Tr.setF_lfS]
  have h1 : 2 * a % 2 = 0 := by omega
  have h2 : 2 * a / 2 = a := by omega
  rw [h1, h2]; rfl
theorem Tr.setF_lf_even (d a : Nat) (v : AV) : Tr.setF (d + 1) .lf (2 * a + 2) v = .nd .lf .top (setF d .lf a v) := by
  rw [Tr.setF_lfS]
  have h1 : (2 * a + 1) % 2 = 1 := by omega
  have h2 : (2 * a + 1) / 2 = a := by omega
  rw [h1, h2]; rfl
theorem Tr.setF_nd_odd (d a : Nat) (l r : Tr) (u v : AV) : Tr.setF (d + 1) (.nd l u r) (2 * a + 1) v = .nd (setF d l a v) u r := by
  rw [Tr.setF_ndS]
  have h1 : 2 * a % 2 = 0 := by omega
  have h2 : 2 * a / 2 = a := by omega
  rw [h1, h2]; rfl
theorem Tr.setF_nd_even (d a : Nat) (l r : Tr) (u v : AV) : Tr.setF (d + 1) (.nd l u r) (2 * a + 2) v = .nd l u (setF d r a v) := by
  rw [Tr.setF_ndS]
  have h1 : (2 * a + 1) % 2 = 1 := by omega
  have h2 : (2 * a + 1) / 2 = a := by omega
  rw [h1, h2]; rfl
theorem split3 (i : Nat) : i = 0 ∨ (∃ a, i = 2 * a + 1) ∨ (∃ a, i = 2 * a + 2) := by
  rcases Nat.eq_zero_or_pos i with h | h
  · exact .inl h
  · rcases Nat.mod_two_eq_zero_or_one i with e | e
    · exact .inr (.inr ⟨i / 2 - 1, by omega⟩)
    · exact .inr (.inl ⟨i / 2, by omega⟩)
theorem Tr.lf_get (i : Nat) : Tr.get .lf i = .top := rfl

theorem Tr.get_setF (d : Nat) : ∀ (t : Tr) (i j : Nat) (v : AV), i + 1 < 2 ^ d → (Tr.setF d t i v).get j = if i = j then v else t.get j := by
  induction d with
  | zero => intro t i j v h; simp at h
  | succ d ih =>
    intro t i j v h
    have hp : (2 : Nat) ^ (d + 1) = 2 * 2 ^ d := by rw [Nat.pow_succ]; omega
    rcases split3 i with rfl | ⟨a, rfl⟩ | ⟨a, rfl⟩
    · cases t with
      | lf =>
        rw [Tr.setF_lf0]
        rcases split3 j with rfl | ⟨c, rfl⟩ | ⟨c, rfl⟩
        · rw [Tr.get_nd0, if_pos rfl]
        · rw [Tr.get_odd, if_neg (by omega)]; rfl
        · rw [Tr.get_even, if_neg (by omega)]; rfl
      | nd l u r =>
        rw [Tr.setF_nd0]
        rcases split3 j with rfl | ⟨c, rfl⟩ | ⟨c, rfl⟩
        · rw [Tr.get_nd0, if_pos rfl]
        · rw [Tr.get_odd, Tr.get_odd, if_neg (by omega)]
        · rw [Tr.get_even, Tr.get_even, if_neg (by omega)]
    · have hi : a + 1 < 2 ^ d := by omega
      cases t with
      | lf =>
        rw [Tr.setF_lf_odd]
        rcases split3 j with rfl | ⟨c, rfl⟩ | ⟨c, rfl⟩
        · rw [Tr.get_nd0, if_neg (by omega)]; rfl
        · rw [Tr.get_odd, ih _ _ _ _ hi]
          by_cases e : a = c
          · rw [if_pos e, if_pos (by omega)]
          · rw [if_neg e, if_neg (by omega)]; rfl
        · rw [Tr.get_even, if_neg (by omega)]; rfl
      | nd l u r =>
        rw [Tr.setF_nd_odd]
        rcases split3 j with rfl | ⟨c, rfl⟩ | ⟨c, rfl⟩
        · rw [Tr.get_nd0, Tr.get_nd0, if_neg (by omega)]
        · rw [Tr.get_odd, Tr.get_odd, ih _ _ _ _ hi]
          by_cases e : a = c
          · rw [if_pos e, if_pos (by omega)]
          · rw [if_neg e, if_neg (by omega)]
        · rw [Tr.get_even, Tr.get_even, if_neg (by omega)]
    · have hi : a + 1 < 2 ^ d := by omega
      cases t with
      | lf =>
        rw [Tr.setF_lf_even]
        rcases split3 j with rfl | ⟨c, rfl⟩ | ⟨c, rfl⟩
        · rw [Tr.get_nd0, if_neg (by omega)]; rfl
        · rw [Tr.get_odd, if_neg (by omega)]; rfl
        · rw [Tr.get_even, ih _ _ _ _ hi]
          by_cases e : a = c
          · rw [if_pos e, if_pos (by omega)]
          · rw [if_neg e, if_neg (by omega)]; rfl
      | nd l u r =>
        rw [Tr.setF_nd_even]
        rcases split3 j with rfl | ⟨c, rfl⟩ | ⟨c, rfl⟩
        · rw [Tr.get_nd0, Tr.get_nd0, if_neg (by omega)]
        · rw [Tr.get_odd, Tr.get_odd, if_neg (by omega)]
        · rw [Tr.get_even, Tr.get_even, ih _ _ _ _ hi]
          by_cases e : a = c
          · rw [if_pos e, if_pos (by omega)]
          · rw [if_neg e, if_neg (by omega)]

theorem Tr.get_set (t : Tr) (i j : Nat) (v : AV) (h : i < 16383) : (t.set i v).get j = if i = j then v else t.get j := by
  unfold Tr.set
  exact Tr.get_setF 14 t i j v (by omega)

end Go.Vm

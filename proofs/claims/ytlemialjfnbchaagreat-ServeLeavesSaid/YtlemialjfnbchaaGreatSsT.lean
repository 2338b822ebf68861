/- slices.Sorted(maps.Keys(m)), keys that are ints: out of the kit's contracts. Made by g26.py. -/
import Derived.Shelf.SlIterI.Nil
import Derived.Shelf.SortM.Plain
import Derived.Shelf.SortM.SortNone
import Derived.Ground.GgzProg
import Derived.Ground.SlgmProg
import Derived.KernelRfl
import Derived.Shelf.SlIter.Nil
import Derived.Test.YtlemialjfnbchaaGreatVmS7
import Derived.Test.YtlemialjfnbchaaGreatProg

namespace Go.Proofs
open Go.RowKit Go.Maps Go.Sort Go.Shelf Go.Vm
shelf_lay_g SlLaysZI.n7 Ggz 7 at Tryz 77 as Tryz.keysA
shelf_lay_g SlLaysZI.n7 Ggz 7 at Tryz 118 as Tryz.keysB
shelf_lay_g SlLaysZI.n7 Ggz 7 at Tryz 119 as Tryz.keysC
shelf_lay_g SlLaysZI.n6 Ggz 6 at Tryz 76 as Tryz.sortedA
shelf_lay_g SlLaysM.n5 Slgm 5 at Tryz 139 as Tryz.sortA
theorem Tryz.sortsA (m : Nat) : AnyZI.SortsIn Tryz.prog Tryz.sortedA_ren Fence.wide m :=
  ⟨fun blk off cap ss W hH hblk hsz => callsIn_wide.2 (AnyM.slices_Sort_int Tryz.sortA blk off cap ss W hH hblk hsz),
   fun p cap W => callsIn_wide.2 (AnyM.slices_Sort_int_none Tryz.sortA p cap W)⟩

theorem Tryz.sortedA_kit : SortedKit Tryz.prog 76 140 3 := by
  intro w Bm b es clock l hBm hcell hobj hst hkeys hwf hlen
  have hu : Tryz.prog.underlying 3 = some (.int .i64) := by kernel_rfl
  have hsz : es.size = l.length := by rw [← Array.length_toList, ← List.length_map (f := fun x : MapEntry => x.key), hkeys, List.length_map]
  have hrd : ∀ x ∈ es.toList, ∃ n, n ∈ l ∧ x.key = .int .i64 n := fun x hx => by
    have : x.key ∈ es.toList.map (·.key) := List.mem_map_of_mem hx
    rw [hkeys] at this
    obtain ⟨n, hn, e⟩ := List.mem_map.1 this
    exact ⟨n, hn, e.symm⟩
  have hrd2 : ∀ x ∈ es.toList, ∃ n, n ∈ l ∧ x.key = .int .i64 n ∧ Go.WideElems.rd Tryz.prog 3 (fun _ => some ((.nil : DataW Unit), ([] : List MemPlace))) x = some (.int .i64 n, .nil) := fun x hx => by
    obtain ⟨n, hn, e⟩ := hrd x hx
    exact ⟨n, hn, e, by simp [Go.WideElems.rd, e, keyOf_int_mk hu (hwf n hn)]⟩
  have F : Go.WideElems.Fit Tryz.prog 3 (fun _ => some ((.nil : DataW Unit), ([] : List MemPlace))) es clock := ⟨by rw [hsz]; simp only [maxLen]; omega, hst, fun x hx => by
    obtain ⟨n, _, _, e⟩ := hrd2 x hx
    exact ⟨_, e⟩⟩
  have hown : w.ownsMap Tryz.prog 3 (fun _ => some ((.nil : DataW Unit), ([] : List MemPlace))) b es.size (.map ((es.toList.map (Go.WideElems.rg Tryz.prog 3 (fun _ => some ((.nil : DataW Unit), ([] : List MemPlace))))).foldr DataW.insert [])) := ⟨es, clock, hobj, F, Nat.le_refl _, rfl⟩
  generalize hD : DataW.map ((es.toList.map (Go.WideElems.rg Tryz.prog 3 (fun _ => some ((.nil : DataW Unit), ([] : List MemPlace))))).foldr DataW.insert []) = D0 at hown
  have hperm : (intKeys D0).Perm l := by
    rw [← hD]
    show (List.map (fun p : Lit × DataW Unit => Go.intOf p.1) _).Perm l
    refine ((Go.WideShapes.sorted_perm _).map _).trans ?_
    rw [List.map_map]
    have : es.toList.map ((fun p : Lit × DataW Unit => Go.intOf p.1) ∘ Go.WideElems.rg Tryz.prog 3 (fun _ => some ((.nil : DataW Unit), ([] : List MemPlace)))) = (es.toList.map (·.key)).map (fun v => match v with | .int _ n => n | _ => 0) := by
      rw [List.map_map]
      refine List.map_congr_left fun x hx => ?_
      obtain ⟨n, _, e1, e2⟩ := hrd2 x hx
      simp [Go.WideElems.rg, e2, e1, Go.intOf]
    rw [this, hkeys, List.map_map]
    have : l.map ((fun v : Value => match v with | .int _ n => n | _ => 0) ∘ Value.int .i64) = l := by
      rw [show ((fun v : Value => match v with | .int _ n => n | _ => 0) ∘ Value.int .i64) = id from rfl, List.map_id]
    rw [this]
  have hsize : Maps.size D0 = l.length := by rw [← hD, size_eq]; rw [(Go.WideShapes.sorted_perm _).length_eq]; simp [hsz]
  have hseq : SeqGives Fence.wide 2 Tryz.prog 140 #[.pointer (some ⟨Bm, 0, none⟩)] encZ (fun ss => ss.Perm (intKeys D0)) (Maps.size D0) w :=
    AnyZI.keys_gives (ρ := Tryz.keysA_ren) { Tryz.keysA with } Fence.wide _ trivial rfl (by omega) Bm b es.size D0 _ hBm hcell hown
  have cS := AnyZI.sorted_in Tryz.sortedA Fence.wide 5 trivial trivial trivial trivial rfl (by omega) (Tryz.sortsA _) (enters_of Tryz.func139 (by kernel_rfl) rfl) 140 #[.pointer (some ⟨Bm, 0, none⟩)] trivial (enters_of Tryz.func140 (by kernel_rfl) rfl) _ _ (by rw [hsize]; simp only [maxLen]; omega) (by rw [hsize]; omega) _ hseq
  change CallsIn _ _ Tryz.prog 76 _ _ _ at cS
  refine callsIn_wide.1 (cS.mono ?_)
  rintro e w' ⟨v, ss, rfl, hS, hrow, hnil, hb⟩
  have hp := hS.trans hperm
  refine ⟨v, rfl, ?_, ?_, hb⟩
  · rw [← sortI_eq hp, ← hp.length_eq]; exact hrow
  · rw [hnil]
    constructor
    · intro h; subst h; exact List.nil_perm.1 hp
    · intro h; subst h; exact List.perm_nil.1 hp

theorem Tryz.sortedB_kit : SortedKit Tryz.prog 76 183 3 := by
  intro w Bm b es clock l hBm hcell hobj hst hkeys hwf hlen
  have hu : Tryz.prog.underlying 3 = some (.int .i64) := by kernel_rfl
  have hsz : es.size = l.length := by rw [← Array.length_toList, ← List.length_map (f := fun x : MapEntry => x.key), hkeys, List.length_map]
  have hrd : ∀ x ∈ es.toList, ∃ n, n ∈ l ∧ x.key = .int .i64 n := fun x hx => by
    have : x.key ∈ es.toList.map (·.key) := List.mem_map_of_mem hx
    rw [hkeys] at this
    obtain ⟨n, hn, e⟩ := List.mem_map.1 this
    exact ⟨n, hn, e.symm⟩
  have hrd2 : ∀ x ∈ es.toList, ∃ n, n ∈ l ∧ x.key = .int .i64 n ∧ Go.WideElems.rd Tryz.prog 3 (fun _ => some ((.nil : DataW Unit), ([] : List MemPlace))) x = some (.int .i64 n, .nil) := fun x hx => by
    obtain ⟨n, hn, e⟩ := hrd x hx
    exact ⟨n, hn, e, by simp [Go.WideElems.rd, e, keyOf_int_mk hu (hwf n hn)]⟩
  have F : Go.WideElems.Fit Tryz.prog 3 (fun _ => some ((.nil : DataW Unit), ([] : List MemPlace))) es clock := ⟨by rw [hsz]; simp only [maxLen]; omega, hst, fun x hx => by
    obtain ⟨n, _, _, e⟩ := hrd2 x hx
    exact ⟨_, e⟩⟩
  have hown : w.ownsMap Tryz.prog 3 (fun _ => some ((.nil : DataW Unit), ([] : List MemPlace))) b es.size (.map ((es.toList.map (Go.WideElems.rg Tryz.prog 3 (fun _ => some ((.nil : DataW Unit), ([] : List MemPlace))))).foldr DataW.insert [])) := ⟨es, clock, hobj, F, Nat.le_refl _, rfl⟩
  generalize hD : DataW.map ((es.toList.map (Go.WideElems.rg Tryz.prog 3 (fun _ => some ((.nil : DataW Unit), ([] : List MemPlace))))).foldr DataW.insert []) = D0 at hown
  have hperm : (intKeys D0).Perm l := by
    rw [← hD]
    show (List.map (fun p : Lit × DataW Unit => Go.intOf p.1) _).Perm l
    refine ((Go.WideShapes.sorted_perm _).map _).trans ?_
    rw [List.map_map]
    have : es.toList.map ((fun p : Lit × DataW Unit => Go.intOf p.1) ∘ Go.WideElems.rg Tryz.prog 3 (fun _ => some ((.nil : DataW Unit), ([] : List MemPlace)))) = (es.toList.map (·.key)).map (fun v => match v with | .int _ n => n | _ => 0) := by
      rw [List.map_map]
      refine List.map_congr_left fun x hx => ?_
      obtain ⟨n, _, e1, e2⟩ := hrd2 x hx
      simp [Go.WideElems.rg, e2, e1, Go.intOf]
    rw [this, hkeys, List.map_map]
    have : l.map ((fun v : Value => match v with | .int _ n => n | _ => 0) ∘ Value.int .i64) = l := by
      rw [show ((fun v : Value => match v with | .int _ n => n | _ => 0) ∘ Value.int .i64) = id from rfl, List.map_id]
    rw [this]
  have hsize : Maps.size D0 = l.length := by rw [← hD, size_eq]; rw [(Go.WideShapes.sorted_perm _).length_eq]; simp [hsz]
  have hseq : SeqGives Fence.wide 2 Tryz.prog 183 #[.pointer (some ⟨Bm, 0, none⟩)] encZ (fun ss => ss.Perm (intKeys D0)) (Maps.size D0) w :=
    AnyZI.keys_gives (ρ := Tryz.keysB_ren) { Tryz.keysB with } Fence.wide _ trivial rfl (by omega) Bm b es.size D0 _ hBm hcell hown
  have cS := AnyZI.sorted_in Tryz.sortedA Fence.wide 5 trivial trivial trivial trivial rfl (by omega) (Tryz.sortsA _) (enters_of Tryz.func139 (by kernel_rfl) rfl) 183 #[.pointer (some ⟨Bm, 0, none⟩)] trivial (enters_of Tryz.func183 (by kernel_rfl) rfl) _ _ (by rw [hsize]; simp only [maxLen]; omega) (by rw [hsize]; omega) _ hseq
  change CallsIn _ _ Tryz.prog 76 _ _ _ at cS
  refine callsIn_wide.1 (cS.mono ?_)
  rintro e w' ⟨v, ss, rfl, hS, hrow, hnil, hb⟩
  have hp := hS.trans hperm
  refine ⟨v, rfl, ?_, ?_, hb⟩
  · rw [← sortI_eq hp, ← hp.length_eq]; exact hrow
  · rw [hnil]
    constructor
    · intro h; subst h; exact List.nil_perm.1 hp
    · intro h; subst h; exact List.perm_nil.1 hp

theorem Tryz.sortedC_kit : SortedKit Tryz.prog 76 184 3 := by
  intro w Bm b es clock l hBm hcell hobj hst hkeys hwf hlen
  have hu : Tryz.prog.underlying 3 = some (.int .i64) := by kernel_rfl
  have hsz : es.size = l.length := by rw [← Array.length_toList, ← List.length_map (f := fun x : MapEntry => x.key), hkeys, List.length_map]
  have hrd : ∀ x ∈ es.toList, ∃ n, n ∈ l ∧ x.key = .int .i64 n := fun x hx => by
    have : x.key ∈ es.toList.map (·.key) := List.mem_map_of_mem hx
    rw [hkeys] at this
    obtain ⟨n, hn, e⟩ := List.mem_map.1 this
    exact ⟨n, hn, e.symm⟩
  have hrd2 : ∀ x ∈ es.toList, ∃ n, n ∈ l ∧ x.key = .int .i64 n ∧ Go.WideElems.rd Tryz.prog 3 (fun _ => some ((.nil : DataW Unit), ([] : List MemPlace))) x = some (.int .i64 n, .nil) := fun x hx => by
    obtain ⟨n, hn, e⟩ := hrd x hx
    exact ⟨n, hn, e, by simp [Go.WideElems.rd, e, keyOf_int_mk hu (hwf n hn)]⟩
  have F : Go.WideElems.Fit Tryz.prog 3 (fun _ => some ((.nil : DataW Unit), ([] : List MemPlace))) es clock := ⟨by rw [hsz]; simp only [maxLen]; omega, hst, fun x hx => by
    obtain ⟨n, _, _, e⟩ := hrd2 x hx
    exact ⟨_, e⟩⟩
  have hown : w.ownsMap Tryz.prog 3 (fun _ => some ((.nil : DataW Unit), ([] : List MemPlace))) b es.size (.map ((es.toList.map (Go.WideElems.rg Tryz.prog 3 (fun _ => some ((.nil : DataW Unit), ([] : List MemPlace))))).foldr DataW.insert [])) := ⟨es, clock, hobj, F, Nat.le_refl _, rfl⟩
  generalize hD : DataW.map ((es.toList.map (Go.WideElems.rg Tryz.prog 3 (fun _ => some ((.nil : DataW Unit), ([] : List MemPlace))))).foldr DataW.insert []) = D0 at hown
  have hperm : (intKeys D0).Perm l := by
    rw [← hD]
    show (List.map (fun p : Lit × DataW Unit => Go.intOf p.1) _).Perm l
    refine ((Go.WideShapes.sorted_perm _).map _).trans ?_
    rw [List.map_map]
    have : es.toList.map ((fun p : Lit × DataW Unit => Go.intOf p.1) ∘ Go.WideElems.rg Tryz.prog 3 (fun _ => some ((.nil : DataW Unit), ([] : List MemPlace)))) = (es.toList.map (·.key)).map (fun v => match v with | .int _ n => n | _ => 0) := by
      rw [List.map_map]
      refine List.map_congr_left fun x hx => ?_
      obtain ⟨n, _, e1, e2⟩ := hrd2 x hx
      simp [Go.WideElems.rg, e2, e1, Go.intOf]
    rw [this, hkeys, List.map_map]
    have : l.map ((fun v : Value => match v with | .int _ n => n | _ => 0) ∘ Value.int .i64) = l := by
      rw [show ((fun v : Value => match v with | .int _ n => n | _ => 0) ∘ Value.int .i64) = id from rfl, List.map_id]
    rw [this]
  have hsize : Maps.size D0 = l.length := by rw [← hD, size_eq]; rw [(Go.WideShapes.sorted_perm _).length_eq]; simp [hsz]
  have hseq : SeqGives Fence.wide 2 Tryz.prog 184 #[.pointer (some ⟨Bm, 0, none⟩)] encZ (fun ss => ss.Perm (intKeys D0)) (Maps.size D0) w :=
    AnyZI.keys_gives (ρ := Tryz.keysC_ren) { Tryz.keysC with } Fence.wide _ trivial rfl (by omega) Bm b es.size D0 _ hBm hcell hown
  have cS := AnyZI.sorted_in Tryz.sortedA Fence.wide 5 trivial trivial trivial trivial rfl (by omega) (Tryz.sortsA _) (enters_of Tryz.func139 (by kernel_rfl) rfl) 184 #[.pointer (some ⟨Bm, 0, none⟩)] trivial (enters_of Tryz.func184 (by kernel_rfl) rfl) _ _ (by rw [hsize]; simp only [maxLen]; omega) (by rw [hsize]; omega) _ hseq
  change CallsIn _ _ Tryz.prog 76 _ _ _ at cS
  refine callsIn_wide.1 (cS.mono ?_)
  rintro e w' ⟨v, ss, rfl, hS, hrow, hnil, hb⟩
  have hp := hS.trans hperm
  refine ⟨v, rfl, ?_, ?_, hb⟩
  · rw [← sortI_eq hp, ← hp.length_eq]; exact hrow
  · rw [hnil]
    constructor
    · intro h; subst h; exact List.nil_perm.1 hp
    · intro h; subst h; exact List.perm_nil.1 hp

end Go.Proofs

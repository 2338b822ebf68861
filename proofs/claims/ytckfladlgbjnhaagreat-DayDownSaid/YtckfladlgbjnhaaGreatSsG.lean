/- slices.Sorted(maps.Keys(m)), keys that are ints: out of the kit's contracts. Made by g26.py. -/
import Derived.Shelf.SlIterI.Nil
import Derived.Shelf.SortM.Plain
import Derived.Shelf.SortM.SortNone
import Derived.Ground.GgzProg
import Derived.Ground.SlgmProg
import Derived.KernelRfl
import Derived.Shelf.SlIter.Nil
import Derived.Test.YtckfladlgbjnhaaGreatVmS6
import Derived.Test.YtckfladlgbjnhaaGreatProg
namespace Go.Proofs
open Go.RowKit Go.Maps Go.Sort Go.Shelf Go.Vm
shelf_lay_g SlLaysZI.n7 Ggz 7 at Tryz 379 as Tryz.keysA
shelf_lay_g SlLaysZI.n7 Ggz 7 at Tryz 241 as Tryz.keysB
shelf_lay_g SlLaysZI.n7 Ggz 7 at Tryz 104 as Tryz.keysC
shelf_lay_g SlLaysZI.n7 Ggz 7 at Tryz 105 as Tryz.keysD
shelf_lay_g SlLaysZI.n6 Ggz 6 at Tryz 103 as Tryz.sortedA
shelf_lay_g SlLaysM.n5 Slgm 5 at Tryz 169 as Tryz.sortA
theorem Tryz.sortsA (m : Nat) : AnyZI.SortsIn Tryz.prog Tryz.sortedA_ren Fence.wide m :=
  ⟨fun blk off cap ss W hH hblk hsz => callsIn_wide.2 (AnyM.slices_Sort_int Tryz.sortA blk off cap ss W hH hblk hsz),
   fun p cap W => callsIn_wide.2 (AnyM.slices_Sort_int_none Tryz.sortA p cap W)⟩

theorem Tryz.sortedA_kit : SortedKit Tryz.prog 103 386 3 := by
  intro w Bm b es clock l hBm hcell hobj hst hkeys hwf hlen
  have hu : Tryz.prog.underlying 3 = some (.int .i64) := by kernel_rfl
  have hsz : es.size = l.length := by rw [← Array.length_toList, ← List.length_map (f := fun x : MapEntry => x.key), hkeys, List.length_map]
  have hrd : ∀ x ∈ es.toList, ∃ n, n ∈ l ∧ x.key = .int .i64 n := fun x hx => by
    have : x.key ∈ es.toList.map (·.key) := List.mem_map_of_mem hx
    rw [hkeys] at this
    obtain ⟨n, hn, e⟩ := List.mem_map.1 this
    exact ⟨n, hn, e.symm⟩
  have hrd2 : ∀ x ∈ es.toList, ∃ n, n ∈ l ∧ x.key = .int .i64 n ∧ Go.WideElems.rd Tryz.prog 3 (fun _ => some ((.nil : DataW Unit), ([] : List MemPlace))) x = some (.int .i64 n, .nil) := fun x hx => by
    obtain ⟨n, hn, e⟩ := hrd x hx
    exact ⟨n, hn, e, by simp [Go.WideElems.rd, e, keyOf_int_mk hu (hwf n hn)]⟩
  have F : Go.WideElems.Fit Tryz.prog 3 (fun _ => some ((.nil : DataW Unit), ([] : List MemPlace))) es clock := ⟨by rw [hsz]; simp only [maxLen]; omega, hst, fun x hx => by
    obtain ⟨n, _, _, e⟩ := hrd2 x hx
    exact ⟨_, e⟩⟩
  have hown : w.ownsMap Tryz.prog 3 (fun _ => some ((.nil : DataW Unit), ([] : List MemPlace))) b es.size (.map ((es.toList.map (Go.WideElems.rg Tryz.prog 3 (fun _ => some ((.nil : DataW Unit), ([] : List MemPlace))))).foldr DataW.insert [])) := ⟨es, clock, hobj, F, Nat.le_refl _, rfl⟩
  generalize hD : DataW.map ((es.toList.map (Go.WideElems.rg Tryz.prog 3 (fun _ => some ((.nil : DataW Unit), ([] : List MemPlace))))).foldr DataW.insert []) = D0 at hown
  have hperm : (intKeys D0).Perm l := by
    rw [← hD]
    show (List.map (fun p : Lit × DataW Unit => Go.intOf p.1) _).Perm l
    refine ((Go.WideShapes.sorted_perm _).map _).trans ?_
    rw [List.map_map]
    have : es.toList.map ((fun p : Lit × DataW Unit => Go.intOf p.1) ∘ Go.WideElems.rg Tryz.prog 3 (fun _ => some ((.nil : DataW Unit), ([] : List MemPlace)))) = (es.toList.map (·.key)).map (fun v => match v with | .int _ n => n | _ => 0) := by
      rw [List.map_map]
      refine List.map_congr_left fun x hx => ?_
      obtain ⟨n, _, e1, e2⟩ := hrd2 x hx
      simp [Go.WideElems.rg, e2, e1, Go.intOf]
    rw [this, hkeys, List.map_map]
    have : l.map ((fun v : Value => match v with | .int _ n => n | _ => 0) ∘ Value.int .i64) = l := by
      rw [show ((fun v : Value => match v with | .int _ n => n | _ => 0) ∘ Value.int .i64) = id from rfl, List.map_id]
    rw [this]
  have hsize : Maps.size D0 = l.length := by rw [← hD, size_eq]; rw [(Go.WideShapes.sorted_perm _).length_eq]; simp [hsz]
  have hseq : SeqGives Fence.wide 2 Tryz.prog 386 #[.pointer (some ⟨Bm, 0, none⟩)] encZ (fun ss => ss.Perm (intKeys D0)) (Maps.size D0) w :=
    AnyZI.keys_gives (ρ := Tryz.keysA_ren) { Tryz.keysA with } Fence.wide _ trivial rfl (by omega) Bm b es.size D0 _ hBm hcell hown
  have cS := AnyZI.sorted_in Tryz.sortedA Fence.wide 5 trivial trivial trivial trivial rfl (by omega) (Tryz.sortsA _) (enters_of Tryz.func169 (by kernel_rfl) rfl) 386 #[.pointer (some ⟨Bm, 0, none⟩)] trivial (enters_of Tryz.func386 (by kernel_rfl) rfl) _ _ (by rw [hsize]; simp only [maxLen]; omega) (by rw [hsize]; omega) _ hseq
  change CallsIn _ _ Tryz.prog 103 _ _ _ at cS
  refine callsIn_wide.1 (cS.mono ?_)
  rintro e w' ⟨v, ss, rfl, hS, hrow, hnil, hb⟩
  have hp := hS.trans hperm
  refine ⟨v, rfl, ?_, ?_, hb⟩
  · rw [← sortI_eq hp, ← hp.length_eq]; exact hrow
  · rw [hnil]
    constructor
    · intro h; subst h; exact List.nil_perm.1 hp
    · intro h; subst h; exact List.perm_nil.1 hp

theorem Tryz.sortedB_kit : SortedKit Tryz.prog 103 296 3 := by
  intro w Bm b es clock l hBm hcell hobj hst hkeys hwf hlen
  have hu : Tryz.prog.underlying 3 = some (.int .i64) := by kernel_rfl
  have hsz : es.size = l.length := by rw [← Array.length_toList, ← List.length_map (f := fun x : MapEntry => x.key), hkeys, List.length_map]
  have hrd : ∀ x ∈ es.toList, ∃ n, n ∈ l ∧ x.key = .int .i64 n := fun x hx => by
    have : x.key ∈ es.toList.map (·.key) := List.mem_map_of_mem hx
    rw [hkeys] at this
    obtain ⟨n, hn, e⟩ := List.mem_map.1 this
    exact ⟨n, hn, e.symm⟩
  have hrd2 : ∀ x ∈ es.toList, ∃ n, n ∈ l ∧ x.key = .int .i64 n ∧ Go.WideElems.rd Tryz.prog 3 (fun _ => some ((.nil : DataW Unit), ([] : List MemPlace))) x = some (.int .i64 n, .nil) := fun x hx => by
    obtain ⟨n, hn, e⟩ := hrd x hx
    exact ⟨n, hn, e, by simp [Go.WideElems.rd, e, keyOf_int_mk hu (hwf n hn)]⟩
  have F : Go.WideElems.Fit Tryz.prog 3 (fun _ => some ((.nil : DataW Unit), ([] : List MemPlace))) es clock := ⟨by rw [hsz]; simp only [maxLen]; omega, hst, fun x hx => by
    obtain ⟨n, _, _, e⟩ := hrd2 x hx
    exact ⟨_, e⟩⟩
  have hown : w.ownsMap Tryz.prog 3 (fun _ => some ((.nil : DataW Unit), ([] : List MemPlace))) b es.size (.map ((es.toList.map (Go.WideElems.rg Tryz.prog 3 (fun _ => some ((.nil : DataW Unit), ([] : List MemPlace))))).foldr DataW.insert [])) := ⟨es, clock, hobj, F, Nat.le_refl _, rfl⟩
  generalize hD : DataW.map ((es.toList.map (Go.WideElems.rg Tryz.prog 3 (fun _ => some ((.nil : DataW Unit), ([] : List MemPlace))))).foldr DataW.insert []) = D0 at hown
  have hperm : (intKeys D0).Perm l := by
    rw [← hD]
    show (List.map (fun p : Lit × DataW Unit => Go.intOf p.1) _).Perm l
    refine ((Go.WideShapes.sorted_perm _).map _).trans ?_
    rw [List.map_map]
    have : es.toList.map ((fun p : Lit × DataW Unit => Go.intOf p.1) ∘ Go.WideElems.rg Tryz.prog 3 (fun _ => some ((.nil : DataW Unit), ([] : List MemPlace)))) = (es.toList.map (·.key)).map (fun v => match v with | .int _ n => n | _ => 0) := by
      rw [List.map_map]
      refine List.map_congr_left fun x hx => ?_
      obtain ⟨n, _, e1, e2⟩ := hrd2 x hx
      simp [Go.WideElems.rg, e2, e1, Go.intOf]
    rw [this, hkeys, List.map_map]
    have : l.map ((fun v : Value => match v with | .int _ n => n | _ => 0) ∘ Value.int .i64) = l := by
      rw [show ((fun v : Value => match v with | .int _ n => n | _ => 0) ∘ Value.int .i64) = id from rfl, List.map_id]
    rw [this]
  have hsize : Maps.size D0 = l.length := by rw [← hD, size_eq]; rw [(Go.WideShapes.sorted_perm _).length_eq]; simp [hsz]
  have hseq : SeqGives Fence.wide 2 Tryz.prog 296 #[.pointer (some ⟨Bm, 0, none⟩)] encZ (fun ss => ss.Perm (intKeys D0)) (Maps.size D0) w :=
    AnyZI.keys_gives (ρ := Tryz.keysB_ren) { Tryz.keysB with } Fence.wide _ trivial rfl (by omega) Bm b es.size D0 _ hBm hcell hown
  have cS := AnyZI.sorted_in Tryz.sortedA Fence.wide 5 trivial trivial trivial trivial rfl (by omega) (Tryz.sortsA _) (enters_of Tryz.func169 (by kernel_rfl) rfl) 296 #[.pointer (some ⟨Bm, 0, none⟩)] trivial (enters_of Tryz.func296 (by kernel_rfl) rfl) _ _ (by rw [hsize]; simp only [maxLen]; omega) (by rw [hsize]; omega) _ hseq
  change CallsIn _ _ Tryz.prog 103 _ _ _ at cS
  refine callsIn_wide.1 (cS.mono ?_)
  rintro e w' ⟨v, ss, rfl, hS, hrow, hnil, hb⟩
  have hp := hS.trans hperm
  refine ⟨v, rfl, ?_, ?_, hb⟩
  · rw [← sortI_eq hp, ← hp.length_eq]; exact hrow
  · rw [hnil]
    constructor
    · intro h; subst h; exact List.nil_perm.1 hp
    · intro h; subst h; exact List.perm_nil.1 hp

theorem Tryz.sortedC_kit : SortedKit Tryz.prog 103 170 3 := by
  intro w Bm b es clock l hBm hcell hobj hst hkeys hwf hlen
  have hu : Tryz.prog.underlying 3 = some (.int .i64) := by kernel_rfl
  have hsz : es.size = l.length := by rw [← Array.length_toList, ← List.length_map (f := fun x : MapEntry => x.key), hkeys, List.length_map]
  have hrd : ∀ x ∈ es.toList, ∃ n, n ∈ l ∧ x.key = .int .i64 n := fun x hx => by
    have : x.key ∈ es.toList.map (·.key) := List.mem_map_of_mem hx
    rw [hkeys] at this
    obtain ⟨n, hn, e⟩ := List.mem_map.1 this
    exact ⟨n, hn, e.symm⟩
  have hrd2 : ∀ x ∈ es.toList, ∃ n, n ∈ l ∧ x.key = .int .i64 n ∧ Go.WideElems.rd Tryz.prog 3 (fun _ => some ((.nil : DataW Unit), ([] : List MemPlace))) x = some (.int .i64 n, .nil) := fun x hx => by
    obtain ⟨n, hn, e⟩ := hrd x hx
    exact ⟨n, hn, e, by simp [Go.WideElems.rd, e, keyOf_int_mk hu (hwf n hn)]⟩
  have F : Go.WideElems.Fit Tryz.prog 3 (fun _ => some ((.nil : DataW Unit), ([] : List MemPlace))) es clock := ⟨by rw [hsz]; simp only [maxLen]; omega, hst, fun x hx => by
    obtain ⟨n, _, _, e⟩ := hrd2 x hx
    exact ⟨_, e⟩⟩
  have hown : w.ownsMap Tryz.prog 3 (fun _ => some ((.nil : DataW Unit), ([] : List MemPlace))) b es.size (.map ((es.toList.map (Go.WideElems.rg Tryz.prog 3 (fun _ => some ((.nil : DataW Unit), ([] : List MemPlace))))).foldr DataW.insert [])) := ⟨es, clock, hobj, F, Nat.le_refl _, rfl⟩
  generalize hD : DataW.map ((es.toList.map (Go.WideElems.rg Tryz.prog 3 (fun _ => some ((.nil : DataW Unit), ([] : List MemPlace))))).foldr DataW.insert []) = D0 at hown
  have hperm : (intKeys D0).Perm l := by
    rw [← hD]
    show (List.map (fun p : Lit × DataW Unit => Go.intOf p.1) _).Perm l
    refine ((Go.WideShapes.sorted_perm _).map _).trans ?_
    rw [List.map_map]
    have : es.toList.map ((fun p : Lit × DataW Unit => Go.intOf p.1) ∘ Go.WideElems.rg Tryz.prog 3 (fun _ => some ((.nil : DataW Unit), ([] : List MemPlace)))) = (es.toList.map (·.key)).map (fun v => match v with | .int _ n => n | _ => 0) := by
      rw [List.map_map]
      refine List.map_congr_left fun x hx => ?_
      obtain ⟨n, _, e1, e2⟩ := hrd2 x hx
      simp [Go.WideElems.rg, e2, e1, Go.intOf]
    rw [this, hkeys, List.map_map]
    have : l.map ((fun v : Value => match v with | .int _ n => n | _ => 0) ∘ Value.int .i64) = l := by
      rw [show ((fun v : Value => match v with | .int _ n => n | _ => 0) ∘ Value.int .i64) = id from rfl, List.map_id]
    rw [this]
  have hsize : Maps.size D0 = l.length := by rw [← hD, size_eq]; rw [(Go.WideShapes.sorted_perm _).length_eq]; simp [hsz]
  have hseq : SeqGives Fence.wide 2 Tryz.prog 170 #[.pointer (some ⟨Bm, 0, none⟩)] encZ (fun ss => ss.Perm (intKeys D0)) (Maps.size D0) w :=
    AnyZI.keys_gives (ρ := Tryz.keysC_ren) { Tryz.keysC with } Fence.wide _ trivial rfl (by omega) Bm b es.size D0 _ hBm hcell hown
  have cS := AnyZI.sorted_in Tryz.sortedA Fence.wide 5 trivial trivial trivial trivial rfl (by omega) (Tryz.sortsA _) (enters_of Tryz.func169 (by kernel_rfl) rfl) 170 #[.pointer (some ⟨Bm, 0, none⟩)] trivial (enters_of Tryz.func170 (by kernel_rfl) rfl) _ _ (by rw [hsize]; simp only [maxLen]; omega) (by rw [hsize]; omega) _ hseq
  change CallsIn _ _ Tryz.prog 103 _ _ _ at cS
  refine callsIn_wide.1 (cS.mono ?_)
  rintro e w' ⟨v, ss, rfl, hS, hrow, hnil, hb⟩
  have hp := hS.trans hperm
  refine ⟨v, rfl, ?_, ?_, hb⟩
  · rw [← sortI_eq hp, ← hp.length_eq]; exact hrow
  · rw [hnil]
    constructor
    · intro h; subst h; exact List.nil_perm.1 hp
    · intro h; subst h; exact List.perm_nil.1 hp

theorem Tryz.sortedD_kit : SortedKit Tryz.prog 103 171 3 := by
  intro w Bm b es clock l hBm hcell hobj hst hkeys hwf hlen
  have hu : Tryz.prog.underlying 3 = some (.int .i64) := by kernel_rfl
  have hsz : es.size = l.length := by rw [← Array.length_toList, ← List.length_map (f := fun x : MapEntry => x.key), hkeys, List.length_map]
  have hrd : ∀ x ∈ es.toList, ∃ n, n ∈ l ∧ x.key = .int .i64 n := fun x hx => by
    have : x.key ∈ es.toList.map (·.key) := List.mem_map_of_mem hx
    rw [hkeys] at this
    obtain ⟨n, hn, e⟩ := List.mem_map.1 this
    exact ⟨n, hn, e.symm⟩
  have hrd2 : ∀ x ∈ es.toList, ∃ n, n ∈ l ∧ x.key = .int .i64 n ∧ Go.WideElems.rd Tryz.prog 3 (fun _ => some ((.nil : DataW Unit), ([] : List MemPlace))) x = some (.int .i64 n, .nil) := fun x hx => by
    obtain ⟨n, hn, e⟩ := hrd x hx
    exact ⟨n, hn, e, by simp [Go.WideElems.rd, e, keyOf_int_mk hu (hwf n hn)]⟩
  have F : Go.WideElems.Fit Tryz.prog 3 (fun _ => some ((.nil : DataW Unit), ([] : List MemPlace))) es clock := ⟨by rw [hsz]; simp only [maxLen]; omega, hst, fun x hx => by
    obtain ⟨n, _, _, e⟩ := hrd2 x hx
    exact ⟨_, e⟩⟩
  have hown : w.ownsMap Tryz.prog 3 (fun _ => some ((.nil : DataW Unit), ([] : List MemPlace))) b es.size (.map ((es.toList.map (Go.WideElems.rg Tryz.prog 3 (fun _ => some ((.nil : DataW Unit), ([] : List MemPlace))))).foldr DataW.insert [])) := ⟨es, clock, hobj, F, Nat.le_refl _, rfl⟩
  generalize hD : DataW.map ((es.toList.map (Go.WideElems.rg Tryz.prog 3 (fun _ => some ((.nil : DataW Unit), ([] : List MemPlace))))).foldr DataW.insert []) = D0 at hown
  have hperm : (intKeys D0).Perm l := by
    rw [← hD]
    show (List.map (fun p : Lit × DataW Unit => Go.intOf p.1) _).Perm l
    refine ((Go.WideShapes.sorted_perm _).map _).trans ?_
    rw [List.map_map]
    have : es.toList.map ((fun p : Lit × DataW Unit => Go.intOf p.1) ∘ Go.WideElems.rg Tryz.prog 3 (fun _ => some ((.nil : DataW Unit), ([] : List MemPlace)))) = (es.toList.map (·.key)).map (fun v => match v with | .int _ n => n | _ => 0) := by
      rw [List.map_map]
      refine List.map_congr_left fun x hx => ?_
      obtain ⟨n, _, e1, e2⟩ := hrd2 x hx
      simp [Go.WideElems.rg, e2, e1, Go.intOf]
    rw [this, hkeys, List.map_map]
    have : l.map ((fun v : Value => match v with | .int _ n => n | _ => 0) ∘ Value.int .i64) = l := by
      rw [show ((fun v : Value => match v with | .int _ n => n | _ => 0) ∘ Value.int .i64) = id from rfl, List.map_id]
    rw [this]
  have hsize : Maps.size D0 = l.length := by rw [← hD, size_eq]; rw [(Go.WideShapes.sorted_perm _).length_eq]; simp [hsz]
  have hseq : SeqGives Fence.wide 2 Tryz.prog 171 #[.pointer (some ⟨Bm, 0, none⟩)] encZ (fun ss => ss.Perm (intKeys D0)) (Maps.size D0) w :=
    AnyZI.keys_gives (ρ := Tryz.keysD_ren) { Tryz.keysD with } Fence.wide _ trivial rfl (by omega) Bm b es.size D0 _ hBm hcell hown
  have cS := AnyZI.sorted_in Tryz.sortedA Fence.wide 5 trivial trivial trivial trivial rfl (by omega) (Tryz.sortsA _) (enters_of Tryz.func169 (by kernel_rfl) rfl) 171 #[.pointer (some ⟨Bm, 0, none⟩)] trivial (enters_of Tryz.func171 (by kernel_rfl) rfl) _ _ (by rw [hsize]; simp only [maxLen]; omega) (by rw [hsize]; omega) _ hseq
  change CallsIn _ _ Tryz.prog 103 _ _ _ at cS
  refine callsIn_wide.1 (cS.mono ?_)
  rintro e w' ⟨v, ss, rfl, hS, hrow, hnil, hb⟩
  have hp := hS.trans hperm
  refine ⟨v, rfl, ?_, ?_, hb⟩
  · rw [← sortI_eq hp, ← hp.length_eq]; exact hrow
  · rw [hnil]
    constructor
    · intro h; subst h; exact List.nil_perm.1 hp
    · intro h; subst h; exact List.perm_nil.1 hp

shelf_lay_g SlLaysZ.n7 Ggz 7 at Tryz 117 as Tryz.keysS
shelf_lay_g SlLaysZ.n6 Ggz 6 at Tryz 116 as Tryz.sortedS
shelf_lay_g SlLaysM.n6 Slgm 6 at Tryz 180 as Tryz.sortS
theorem Tryz.sortsS (m : Nat) : AnyZ.SortsIn Tryz.prog Tryz.sortedS_ren Fence.wide m :=
  ⟨fun blk off cap ss W hH hblk hsz => callsIn_wide.2 (AnyM.slices_Sort_string Tryz.sortS blk off cap ss W hH hblk hsz),
   fun p cap W => callsIn_wide.2 (AnyM.slices_Sort_string_none Tryz.sortS p cap W)⟩
theorem Tryz.sortedS_kit : SortedNilKit Tryz.prog 116 181 := by
  intro w Bm b clock hBm hcell hobj hst
  have F : Go.WideElems.Fit Tryz.prog 9 (fun _ => some ((.nil : DataW Unit), ([] : List MemPlace))) #[] clock := ⟨by simp [maxLen], hst, fun x hx => by simp at hx⟩
  have hown : w.ownsMap Tryz.prog 9 (fun _ => some ((.nil : DataW Unit), ([] : List MemPlace))) b 0 (.map []) := ⟨#[], clock, hobj, F, Nat.le_refl _, rfl⟩
  have hseq : SeqGives Fence.wide 2 Tryz.prog 181 #[.pointer (some ⟨Bm, 0, none⟩)] encStr (fun ss => ss.Perm (strKeys (DataW.map ([] : List (Lit × DataW Unit))))) (Maps.size (DataW.map ([] : List (Lit × DataW Unit)))) w :=
    AnyZ.keys_gives (ρ := Tryz.keysS_ren) { Tryz.keysS with } Fence.wide _ trivial rfl (by omega) Bm b 0 _ _ hBm hcell hown
  have cS := AnyZ.sorted_in Tryz.sortedS Fence.wide 5 trivial trivial trivial trivial rfl (by omega) (Tryz.sortsS _) (enters_of Tryz.func180 (by kernel_rfl) rfl) 181 #[.pointer (some ⟨Bm, 0, none⟩)] trivial (enters_of Tryz.func181 (by kernel_rfl) rfl) _ _ (by simp [Maps.size, maxLen]) (by simp [Maps.size]) _ hseq
  change CallsIn _ _ Tryz.prog 116 _ _ _ at cS
  refine callsIn_wide.1 (cS.mono ?_)
  rintro e w' ⟨v, ss, rfl, hS, hrow, hnil, hb⟩
  have hss : ss = [] := List.Perm.eq_nil hS
  rw [hnil.2 hss]
  exact ⟨rfl, hb⟩
end Go.Proofs

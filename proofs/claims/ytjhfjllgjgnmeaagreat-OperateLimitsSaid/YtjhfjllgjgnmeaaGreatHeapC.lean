/- Package heap: Items, Len, At. -/
import Derived.Test.YtjhfjllgjgnmeaaGreatHeapB
namespace Go.Proofs.YtjhfjllgjgnmeaaGreat
open Go.RowKit Go.Maps
attribute [local go_sem] World.cell?_alloc_some

theorem PH.items_some {H : PH} {v : V} {o : O} (h : H.of v = some o) : H.items v = o.items := by simp [PH.items, h]
theorem PH.items_none {H : PH} {v : V} (h : H.of v = none) : H.items v = [] := by simp [PH.items, h]

set_option maxHeartbeats 400000 in
theorem Items_any {w : World} {τ : Tag} {hb : Nat} {H : PH} (h : HeapAt w τ hb H) (v : V) :
    Calls Tryz.prog 49 #[.pointer (some ⟨hb, 0, none⟩), v.val] w fun e w' => ∃ v', e = .returned v' ∧ OwnsV w w' v' (H.items v) ∧ Below w.heap.size w w' := by
  obtain ⟨ma, mr, pb, h⟩ := h
  go_enter Tryz.func49, Tryz.ntmps49
  go_wp2_with fail
  refine (of_any (h.below (bal (b0 _) _)) v).mono ?_
  rintro e w1 ⟨rfl, hB⟩
  have hB1 := btr (bal (b0 _) _) hB
  cases ho : H.of v with
  | none =>
    have hk := PH.items_none ho
    rw [PH.ptr_none ho]
    clear hB h ho
    go_wp2
    go_ret
    exact ⟨_, rfl, by rw [hk]; exact World.ownsRow_nil _ _ _ _, hB1⟩
  | some o =>
    have hk := PH.items_some ho
    rw [PH.ptr_some ho]
    obtain ⟨_, iv, db, hO⟩ := (h.below hB1).of ho
    obtain ⟨_, _, _, c0, _⟩ := hO.cells
    have hrow := RowV.of_owns hO.row
    have hsm := Lib.hid hO.small
    obtain ⟨a, cap, rfl⟩ := ownsRow_slice hO.row
    clear hB h ho hO
    go_wp2_with fail
    refine (Clone_any hrow hsm.out).mono ?_
    rintro e w2 ⟨v', rfl, hO2, hB2⟩
    have hB3 := btr hB1 hB2
    go_wp2
    go_ret
    exact ⟨_, rfl, by rw [hk]; exact ownsRow_base' hO2 hB1.size, hB3⟩

set_option maxHeartbeats 400000 in
theorem Len_any {w : World} {τ : Tag} {hb : Nat} {H : PH} (h : HeapAt w τ hb H) (v : V) :
    Calls Tryz.prog 41 #[.pointer (some ⟨hb, 0, none⟩), v.val] w fun e w' => e = .returned (.int .i64 (H.items v).length) ∧ Below w.heap.size w w' := by
  obtain ⟨ma, mr, pb, h⟩ := h
  go_enter Tryz.func41, Tryz.ntmps41
  go_wp2_with fail
  refine (of_any (h.below (bal (b0 _) _)) v).mono ?_
  rintro e w1 ⟨rfl, hB⟩
  have hB1 := btr (bal (b0 _) _) hB
  cases ho : H.of v with
  | none =>
    have hk := PH.items_none ho
    rw [PH.ptr_none ho]
    clear hB h ho
    go_wp2
    go_ret
    exact ⟨by rw [hk]; rfl, hB1⟩
  | some o =>
    have hk := PH.items_some ho
    rw [PH.ptr_some ho]
    obtain ⟨_, iv, db, hO⟩ := (h.below hB1).of ho
    obtain ⟨_, _, _, c0, _⟩ := hO.cells
    obtain ⟨a, cap, rfl⟩ := ownsRow_slice hO.row
    clear hB h ho hO
    go_wp2
    go_ret
    exact ⟨by rw [hk]; rfl, hB1⟩

end Go.Proofs.YtjhfjllgjgnmeaaGreat

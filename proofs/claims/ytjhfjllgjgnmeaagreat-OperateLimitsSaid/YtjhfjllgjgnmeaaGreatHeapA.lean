/- Package heap: what is asked of an object; package dict: New. -/
import Derived.Test.YtjhfjllgjgnmeaaGreatRep
namespace Go.Proofs.YtjhfjllgjgnmeaaGreat
open Go.RowKit Go.Maps
attribute [local go_sem] World.cell?_alloc_some

theorem zeroPO (w : World) : (zeroValue 174).run Tryz.prog w = .ok (.pointer none) w := by kernel_rfl

/-- The pointer that 'of' answers. -/
def PH.ptr (H : PH) (pb : Int → Nat) (v : V) : Option Addr := (H.of v).map (fun _ => ⟨pb v.n, 0, none⟩)

set_option maxHeartbeats 400000 in
theorem of_any {w : World} {τ : Tag} {hb : Nat} {H : PH} {ma mr : Nat} {pb : Int → Nat} (h : HeapIs w τ hb H ma mr pb) (v : V) :
    Calls Tryz.prog 155 #[.pointer (some ⟨hb, 0, none⟩), v.val] w fun e w' => e = .returned (.pointer (H.ptr pb v)) ∧ Below w.heap.size w w' := by
  obtain ⟨hc, _, hlt⟩ := cells_of_block h.blk
  have c0 := hc 0
  simp at c0
  obtain ⟨m, c, hm, hv⟩ := h.all
  have hvn := hv v.n v.hn
  have hlk : ∀ N o, (Instr.lookup 152 (.map (some ma)) (.int .i64 v.n) false).run Tryz.prog ((w.alloc o).drewN N) = .ok (.pointer ((H.obj v.n).map (fun _ => ⟨pb v.n, 0, none⟩))) ((w.alloc o).drewN N) := fun N o => by
    have hM : MapAt Tryz.prog 2 ((w.alloc o).drewN N) ma m c := hm.same (Below.heap_alloc _ _ _ hm.lt)
    rw [hM.lookup false keyedI Tryz.underlying152 (zeroPO _) (keyOfI v.hn), hvn]
    cases H.obj v.n <;> rfl
  unfold V.val
  by_cases hk4 : v.k = 4
  · have hp : H.ptr pb v = (H.obj v.n).map (fun _ => ⟨pb v.n, 0, none⟩) := by simp [PH.ptr, PH.of, hk4]
    rw [hp, hk4]
    clear hp hk4 hvn hv hc hm
    go_enter Tryz.func155, Tryz.ntmps155
    go_wp2
    go_quiet (fail)
    go_wp2
    go_ret
    exact ⟨rfl, bdN (bal (b0 _) _) _⟩
  · have hp : H.ptr pb v = none := by simp [PH.ptr, PH.of, hk4]
    have hk5 : (v.k != 4) = true := by simpa using hk4
    rw [hp]
    clear hp hvn hv hc hm
    go_enter Tryz.func155, Tryz.ntmps155
    go_wp2
    go_ret
    exact ⟨rfl, bal (b0 _) _⟩

theorem PH.ptr_none {H : PH} {pb : Int → Nat} {v : V} (h : H.of v = none) : H.ptr pb v = none := by simp [PH.ptr, h]
theorem PH.ptr_some {H : PH} {pb : Int → Nat} {v : V} {o : O} (h : H.of v = some o) : H.ptr pb v = some ⟨pb v.n, 0, none⟩ := by simp [PH.ptr, h]

/-- The cells of an object. -/
theorem ObjIs.cells {w : World} {τ : Tag} {n : Int} {o : O} {ob : Nat} {iv : Value} {db : Nat} (h : ObjIs w τ n o ob iv db) :
    w.cell? ⟨ob, 0, none⟩ = some (.int .i64 o.kind) ∧ w.cell? ⟨ob, 1, none⟩ = some (.string o.name) ∧ w.cell? ⟨ob, 2, none⟩ = some (.int .i64 o.num) ∧ w.cell? ⟨ob, 3, none⟩ = some iv ∧ w.cell? ⟨ob, 4, none⟩ = some (.pointer (some ⟨db, 0, none⟩)) := by
  obtain ⟨hc, _, _⟩ := cells_of_block h.blk
  simp [hc]

set_option maxHeartbeats 400000 in
theorem Kind_any {w : World} {τ : Tag} {hb : Nat} {H : PH} (h : HeapAt w τ hb H) (v : V) :
    Calls Tryz.prog 48 #[.pointer (some ⟨hb, 0, none⟩), v.val] w fun e w' => e = .returned (.int .i64 (H.kind v)) ∧ Below w.heap.size w w' := by
  obtain ⟨ma, mr, pb, h⟩ := h
  go_enter Tryz.func48, Tryz.ntmps48
  go_wp2_with fail
  refine (of_any (h.below (bal (b0 _) _)) v).mono ?_
  rintro e w1 ⟨rfl, hB⟩
  have hB1 := btr (bal (b0 _) _) hB
  cases ho : H.of v with
  | none =>
    have hk : H.kind v = 0 := by simp [PH.kind, ho]
    rw [PH.ptr_none ho]
    clear hB h ho
    go_wp2
    go_ret
    exact ⟨by rw [hk]; rfl, hB1⟩
  | some o =>
    have hk : H.kind v = o.kind := by simp [PH.kind, ho]
    rw [PH.ptr_some ho]
    obtain ⟨_, iv, db, hO⟩ := (h.below hB1).of ho
    obtain ⟨c0, _⟩ := hO.cells
    clear hB h ho hO
    go_wp2
    go_ret
    exact ⟨by rw [hk]; rfl, hB1⟩

set_option maxHeartbeats 400000 in
theorem Name_any {w : World} {τ : Tag} {hb : Nat} {H : PH} (h : HeapAt w τ hb H) (v : V) :
    Calls Tryz.prog 87 #[.pointer (some ⟨hb, 0, none⟩), v.val] w fun e w' => e = .returned (.string (H.name v)) ∧ Below w.heap.size w w' := by
  obtain ⟨ma, mr, pb, h⟩ := h
  go_enter Tryz.func87, Tryz.ntmps87
  go_wp2_with fail
  refine (of_any (h.below (bal (b0 _) _)) v).mono ?_
  rintro e w1 ⟨rfl, hB⟩
  have hB1 := btr (bal (b0 _) _) hB
  cases ho : H.of v with
  | none =>
    have hk : H.name v = ByteArray.empty := by simp [PH.name, ho]
    rw [PH.ptr_none ho]
    clear hB h ho
    go_wp2
    go_ret
    exact ⟨by rw [hk]; rfl, hB1⟩
  | some o =>
    have hk : H.name v = o.name := by simp [PH.name, ho]
    rw [PH.ptr_some ho]
    obtain ⟨_, iv, db, hO⟩ := (h.below hB1).of ho
    obtain ⟨_, c0, _⟩ := hO.cells
    clear hB h ho hO
    go_wp2
    go_ret
    exact ⟨by rw [hk]; rfl, hB1⟩

set_option maxHeartbeats 400000 in
theorem Num_any {w : World} {τ : Tag} {hb : Nat} {H : PH} (h : HeapAt w τ hb H) (v : V) :
    Calls Tryz.prog 89 #[.pointer (some ⟨hb, 0, none⟩), v.val] w fun e w' => e = .returned (.int .i64 (H.num v)) ∧ Below w.heap.size w w' := by
  obtain ⟨ma, mr, pb, h⟩ := h
  go_enter Tryz.func89, Tryz.ntmps89
  go_wp2_with fail
  refine (of_any (h.below (bal (b0 _) _)) v).mono ?_
  rintro e w1 ⟨rfl, hB⟩
  have hB1 := btr (bal (b0 _) _) hB
  cases ho : H.of v with
  | none =>
    have hk : H.num v = 0 := by simp [PH.num, ho]
    rw [PH.ptr_none ho]
    clear hB h ho
    go_wp2
    go_ret
    exact ⟨by rw [hk]; rfl, hB1⟩
  | some o =>
    have hk : H.num v = o.num := by simp [PH.num, ho]
    rw [PH.ptr_some ho]
    obtain ⟨_, iv, db, hO⟩ := (h.below hB1).of ho
    obtain ⟨_, _, c0, _⟩ := hO.cells
    clear hB h ho hO
    go_wp2
    go_ret
    exact ⟨by rw [hk]; rfl, hB1⟩

end Go.Proofs.YtjhfjllgjgnmeaaGreat

/- Package kraitlaw16: num, str, yes, none, raised. -/
import Derived.Test.YtjhfjllgjgnmeaaGreatBin
import Derived.Test.YtjhfjllgjgnmeaaGreatRepr
namespace Go.Proofs.YtjhfjllgjgnmeaaGreat
open Go.RowKit Go.Maps
attribute [local go_sem] World.cell?_alloc_some

theorem lnum_any (w : World) (n : Int) : Calls Tryz.prog 38 #[.int .i64 n] w fun e w' => e = .returned (.agg #[.int .i64 2, .int .i64 n, .string ByteArray.empty]) ∧ Below w.heap.size w w' := by
  go_enter Tryz.func38, Tryz.ntmps38
  go_wp2
  refine ret_V rfl rfl (MapKept.heap_alloc w _).1 rfl ⟨rfl, ?_⟩
  exact bal (b0 _) _

theorem lstr_any (w : World) (s : ByteArray) : Calls Tryz.prog 43 #[.string s] w fun e w' => e = .returned (.agg #[.int .i64 3, .int .i64 0, .string s]) ∧ Below w.heap.size w w' := by
  go_enter Tryz.func43, Tryz.ntmps43
  go_wp2
  refine ret_V rfl rfl (MapKept.heap_alloc w _).1 rfl ⟨rfl, ?_⟩
  exact bal (b0 _) _

theorem lyes_any (w : World) (x : Bool) : Calls Tryz.prog 47 #[.bool x] w fun e w' => e = .returned (.agg #[.int .i64 1, .int .i64 (bif x then 1 else 0), .string ByteArray.empty]) ∧ Below w.heap.size w w' := by
  cases x
  · go_enter Tryz.func47, Tryz.ntmps47
    go_wp2
    refine ret_V rfl rfl (MapKept.heap_alloc w _).1 rfl ⟨rfl, ?_⟩
    exact bal (b0 _) _
  · go_enter Tryz.func47, Tryz.ntmps47
    go_wp2
    refine ret_V rfl rfl (MapKept.heap_alloc w _).1 rfl ⟨rfl, ?_⟩
    exact bal (b0 _) _

/-- 'none' of what is raised by a name. -/
theorem lnone_any (w : World) (name : ByteArray) : Calls Tryz.prog 39 #[.agg #[.string name, .int .i64 0, .int .i64 0, .string ByteArray.empty, .bool false]] w fun e w' => e = .returned (.bool (decide (name = ByteArray.empty))) ∧ Below w.heap.size w w' := by
  have he := nameE name
  by_cases h : name = ByteArray.empty
  · subst h
    go_enter Tryz.func39, Tryz.ntmps39
    go_wp2
    go_ret
    exact ⟨rfl, bal (b0 _) _⟩
  · rw [decide_eq_false h] at he
    have hd : decide (name = ByteArray.empty) = false := decide_eq_false h
    go_enter Tryz.func39, Tryz.ntmps39
    go_wp2
    go_ret
    exact ⟨by rw [hd]; rfl, bal (b0 _) _⟩

/-- 'raised' of what is raised by a name. -/
theorem lraised_any (w : World) (name n : ByteArray) : Calls Tryz.prog 40 #[.agg #[.string name, .int .i64 0, .int .i64 0, .string ByteArray.empty, .bool false], .string n] w fun e w' => e = .returned (.bool (decide (name = n))) ∧ Below w.heap.size w w' := by
  by_cases h : name = n
  · subst h
    go_enter Tryz.func40, Tryz.ntmps40
    go_wp2
    go_ret
    exact ⟨by first | rfl | (simp; rfl), bal (b0 _) _⟩
  · have hd : decide (name = n) = false := decide_eq_false h
    have hl : ¬ name.toList = n.toList := by
      rw [Lib.toList_data, Lib.toList_data]
      intro e
      exact h (by cases name; cases n; simp at e; rw [e])
    go_enter Tryz.func40, Tryz.ntmps40
    go_wp2
    go_ret
    exact ⟨by rw [hd]; rfl, bal (b0 _) _⟩

end Go.Proofs.YtjhfjllgjgnmeaaGreat

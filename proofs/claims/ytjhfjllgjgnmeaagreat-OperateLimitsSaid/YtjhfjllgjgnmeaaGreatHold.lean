/- (*heap.Heap).hold: the counts change, nothing else. -/
import Derived.Test.YtjhfjllgjgnmeaaGreatBase
namespace Go.Proofs.YtjhfjllgjgnmeaaGreat
open Go.RowKit Go.Maps
attribute [local go_sem] World.cell?_alloc_some

theorem zeroInt (w : World) : (zeroValue 3).run Tryz.prog w = .ok (.int .i64 0) w := by kernel_rfl

set_option maxRecDepth 100000 in
set_option maxHeartbeats 400000 in
theorem hold_any (hb mr : Nat) (by_ : Int) (lv : Value) (l : List V) (w : World) (h1 : w.cell? ⟨hb, 1, none⟩ = some (.map (some mr))) (hR : RefsAt w mr) (hl : RowV w lv l) (hlen : l.length ≤ 4611686018427387904) :
    Calls Tryz.prog 167 #[.pointer (some ⟨hb, 0, none⟩), .int .i64 by_, lv] w fun e w' => e = .returned (.tuple #[]) ∧ RefsAt w' mr ∧ Chg (fun b => b == mr) w w' := by
  rcases hl with ⟨rfl, hv⟩ | ⟨b, off, cap, rfl, hc⟩
  · obtain ⟨a, cap, rfl⟩ : ∃ a cap, lv = .slice a 0 cap := by rcases hv with rfl | ⟨a, cap, rfl⟩ <;> exact ⟨_, _, rfl⟩
    clear hv
    go_enter Tryz.func167, Tryz.ntmps167
    go_wp2
    go_loopw [7, 10] (fun v i wr => i = .int .i64 0 ∧ RefsAt wr mr ∧ Chg (fun b => b == mr) w wr) (fun _ _ _ => 0)
    case atStart => exact ⟨rfl, hR, Chg.refl _ _⟩
    case round =>
      obtain ⟨rfl, hR', hC⟩ := hrel
      go_wp2
      go_end0
      exact ⟨rfl, hR', hC⟩
  · go_enter Tryz.func167, Tryz.ntmps167
    go_wp2
    go_loopw [7, 10] (fun v i wr => ∃ k : Nat, k ≤ l.length ∧ i = .int .i64 k ∧ RefsAt wr mr ∧ Chg (fun b => b == mr) w wr) (fun _ i _ => l.length - (intOf i).toNat)
    case atStart => exact ⟨0, Nat.zero_le _, rfl, hR, Chg.refl _ _⟩
    case round =>
      obtain ⟨k, hk, rfl, hR', hC⟩ := hrel
      by_cases hlt : k < l.length
      · obtain ⟨c0, c1, c2⟩ := hc k l[k] (by simp [hlt])
        have hb1 := lt_of_cell c0
        have hb2 : (b == mr) = false := by simpa using hR.ne_cell c0
        have d0 := (hC.cell hb1 hb2).trans c0
        have d1 := (hC.cell hb1 hb2).trans c1
        have d2 := (hC.cell hb1 hb2).trans c2
        have e1 := (hC.cell (lt_of_cell h1) (by simpa using hR.ne_cell h1)).trans h1
        clear c0 c1 c2 hc h1 hR
        by_cases hk4 : l[k].k = 4
        · obtain ⟨m, c, hm, hv⟩ := hR'
          have hkey := keyOfI l[k].hn
          obtain ⟨i, hi⟩ : ∃ i, (m (.int .i64 l[k].n)).getD (.int .i64 0) = .int .i64 i := by
            cases hmx : m (.int .i64 l[k].n) with
            | none => exact ⟨0, rfl⟩
            | some v => obtain ⟨i, rfl⟩ := hv _ _ hmx; exact ⟨i, rfl⟩
          have hM : ∀ o, MapAt Tryz.prog 2 (wr.alloc o).drew mr m c := fun o => hm.same (Below.heap_alloc _ _ _ hm.lt)
          have hlk : ∀ o, (Instr.lookup 153 (.map (some mr)) (.int .i64 l[k].n) false).run Tryz.prog (wr.alloc o).drew = .ok (.int .i64 i) (wr.alloc o).drew := fun o => by
            rw [(hM o).lookup false keyedI Tryz.underlying153 (zeroInt _) hkey, hi]; rfl
          have hM' := Lib.hid hM
          clear hM hi
          have HL := Lib.hid hlen
          clear hlen
          go_wp2
          refine wp_region_tail 9 (by kernel_rfl) (by kernel_rfl) ?_
          simp only [List.take_succ_cons, List.take_zero, List.drop_succ_cons, List.drop_zero]
          iterate 9 still_step
          refine wpStill_nil ?_
          refine wpList_update_at _ rfl (.tmp 20) (.tmp 22) (.tmp 25) 153 rfl 2 3 keyedI Tryz.underlying153 mr m c rfl (hM'.out _) _ _ _ rfl rfl hkey ?_
          intro w1 hm1 hg1
          have hlen := HL.out
          clear HL hM' hlk
          go_wp2
          go_roundw
          case rel =>
            refine ⟨k + 1, by omega, by go_num, ⟨_, _, hm1, fun x v hx => ?_⟩, (hC.alloc _).drew.grown hg1 (fun k hk _ => by cases hk; simp)⟩
            split at hx
            · exact ⟨_, (Option.some.inj hx).symm⟩
            · exact hv _ _ hx
          case measure => simp [intOf]; omega
        · have hk5 : (l[k].k == 4) = false := by simpa using hk4
          go_wp2
          go_roundw
          case rel => exact ⟨k + 1, by omega, by go_num, hR'.same (by simp [Below.heap_alloc _ _ _ hR'.lt]), hC.alloc _⟩
          case measure => simp [intOf]; omega
      · go_wp2
        go_end0
        exact ⟨rfl, hR', hC⟩
end Go.Proofs.YtjhfjllgjgnmeaaGreat

/- law16.shown. -/
import Derived.Test.YtjhfjllgjgnmeaaGreatShownP
import Derived.Test.YtjhfjllgjgnmeaaGreatFr
namespace Go.Proofs.YtjhfjllgjgnmeaaGreat
open Go.RowKit Go.Maps
attribute [local go_sem] World.cell?_alloc_some

set_option maxRecDepth 100000 in
set_option maxHeartbeats 3200000 in
theorem shown_any (w : World) : Calls Tryz.prog 14 #[] w fun e w' => e = .returned (.bool true) ∧ Below w.heap.size w w' := by
  go_enter Tryz.func14, Tryz.ntmps14
  go_wp2_with fail
  refine (heapNew_any w).mono ?_
  rintro e w1 ⟨τ, hb, rfl, hH, hB1, hown⟩
  go_wp2_with fail
  refine (lstr_any _ _).mono ?_
  rintro e w2 ⟨rfl, hB2⟩
  have hH2 := hH.below hB2
  go_wp2_with fail
  have hlit := (MapKept.heap_alloc w2 (.cells #[.int .i64 3, .int .i64 0, .string ⟨#[97]⟩] 24)).1
  have hrow : RowV (w2.alloc (.cells #[.int .i64 3, .int .i64 0, .string ⟨#[97]⟩] 24)) (.slice (some ⟨w2.heap.size, 0, Option.none⟩) 1 1) [vA] := by
    obtain ⟨hc, _, _⟩ := cells_of_block hlit
    refine .inr ⟨w2.heap.size, 0, 1, rfl, fun i x hx => ?_⟩
    match i, hx with
    | 0, hx => cases hx; exact ⟨hc 0, hc 1, hc 2⟩
  refine (Make_any (hH2.below (bal (b0 _) _)) 2 ByteArray.empty 0 _ [vA] (by decide) hrow (by simp) (by decide)).mono ?_
  rintro e w3 ⟨rfl, τ3, hH3, hC3, hT3⟩
  have hHH : PH.empty.made 2 ByteArray.empty 0 [vA] = H1 := rfl
  rw [hHH] at hH3
  go_wp2_with fail
  have hvt := (MapKept.heap_alloc w3 (.cells #[.int .i64 4, .int .i64 1, .string ByteArray.empty] 24)).1
  have hH4 := hH3.below (bal (b0 w3) (.cells #[.int .i64 4, .int .i64 1, .string ByteArray.empty] 24))
  have hlt4 : ∀ b, (w3.alloc (.cells #[.int .i64 4, .int .i64 1, .string ByteArray.empty] 24)).heap.size ≤ b → own τ3 b = false := fun b hb' => by
    cases hx : own τ3 b with
    | false => rfl
    | true => have := hH4.olt b hx; omega
  have hov : own τ3 w3.heap.size = false := by
    cases hx : own τ3 w3.heap.size with
    | false => rfl
    | true => have := hH3.olt _ hx; omega
  refine wp_region_M 7 [(0, true), (3, true), (1, false), (2, false), (4, false), (5, false)] [⟨6, 3, 24, #[.int .i64 0, .int .i64 0, .string ⟨#[]⟩]⟩] [] (own τ3) (by kernel_rfl) (by kernel_rfl) ?_ hlt4 ?_
  · intro x hx W
    simp only [List.mem_singleton] at hx
    subst hx
    kernel_rfl
  have d1 : ∀ W, Chg (own τ3) (w3.alloc (.cells #[.int .i64 4, .int .i64 1, .string ByteArray.empty] 24)).drew W → W.cell? ⟨w3.heap.size, 0, Option.none⟩ = some (.int .i64 4) ∧ W.cell? ⟨w3.heap.size, 1, Option.none⟩ = some (.int .i64 1) ∧ W.cell? ⟨w3.heap.size, 2, Option.none⟩ = some (.string ByteArray.empty) := fun W hW =>
    ⟨(hW.cell (by simp) hov).trans ((cells_of_block hvt).1 0), (hW.cell (by simp) hov).trans ((cells_of_block hvt).1 1), (hW.cell (by simp) hov).trans ((cells_of_block hvt).1 2)⟩
  iterate 2
    refine M_free rfl (by rfl) ?_
    apply Exists.intro
    refine ⟨fun W hW => ?_, ?_, ?_⟩
    · obtain ⟨x2, x3, x4⟩ := d1 W hW
      first | (go_simp; done) | (go_simp; with_reducible rfl)
    · exact fun _ _ _ h => h
    simp only [Act.put, List.setIfInBounds_toArray, List.set_cons_zero, List.set_cons_succ]
  refine M_call rfl (by rfl) hlt4 fun W hBW hSW => ?_
  refine ⟨_, _, _, by go_simp; try rfl, lnum_any W 1, ?_⟩
  rintro e W5 ⟨rfl, hB5⟩
  refine ⟨_, rfl, hB5, ?_⟩
  simp only [Act.put, List.setIfInBounds_toArray, List.set_cons_zero, List.set_cons_succ]
  have s5 : (w3.alloc (.cells #[.int .i64 4, .int .i64 1, .string ByteArray.empty] 24)).heap.size ≤ W5.heap.size := Nat.le_trans hBW.size hB5.size
  refine M_call rfl (by rfl) (fun b hb' => hlt4 b (Nat.le_trans s5 hb')) fun W6 hBW6 hSW6 => ?_
  refine ⟨_, _, _, by go_simp; try rfl, lyes_any W6 true, ?_⟩
  rintro e W7 ⟨rfl, hB7⟩
  refine ⟨_, rfl, hB7, ?_⟩
  simp only [Act.put, List.setIfInBounds_toArray, List.set_cons_zero, List.set_cons_succ]
  have s7 : (w3.alloc (.cells #[.int .i64 4, .int .i64 1, .string ByteArray.empty] 24)).heap.size ≤ W7.heap.size := Nat.le_trans s5 (Nat.le_trans hBW6.size hB7.size)
  refine M_val rfl (by rfl) (fun b hb' => hlt4 b (Nat.le_trans s7 hb')) fun W8 hBW8 hSW8 => ?_
  apply Exists.intro
  apply Exists.intro
  refine ⟨by go_simp; exact ⟨rfl, rfl⟩, bal (b0 _) _, ?_⟩
  simp only [Act.put, List.setIfInBounds_toArray, List.set_cons_zero, List.set_cons_succ]
  refine M_callW rfl (by rfl) fun W9 hBW9 hSW9 => ?_
  -- the literal's row, in W9
  have hl9 : W9.heap[W8.heap.size]? = some (.cells #[.int .i64 2, .int .i64 1, .string ByteArray.empty, .int .i64 1, .int .i64 1, .string ByteArray.empty, .int .i64 4, .int .i64 1, .string ByteArray.empty] 24 (0, 0)) := (hBW9.block _ (by simp)).trans (MapKept.heap_alloc W8 _).1
  have hrow9 : RowV W9 (.slice (some ⟨W8.heap.size, 0, Option.none⟩) 3 3) [v1, vY, vt] := by
    obtain ⟨hc, _, _⟩ := cells_of_block hl9
    refine .inr ⟨W8.heap.size, 0, 3, rfl, fun i x hx => ?_⟩
    match i, hx with
    | 0, hx => cases hx; exact ⟨hc 0, hc 1, hc 2⟩
    | 1, hx => cases hx; exact ⟨hc 3, hc 4, hc 5⟩
    | 2, hx => cases hx; exact ⟨hc 6, hc 7, hc 8⟩
  have hc1 : Below (w3.alloc (.cells #[.int .i64 4, .int .i64 1, .string ByteArray.empty] 24)).heap.size (w3.alloc (.cells #[.int .i64 4, .int .i64 1, .string ByteArray.empty] 24)) W7 := (Below.trans (a := w3.alloc (.cells #[.int .i64 4, .int .i64 1, .string ByteArray.empty] 24)) (B := (w3.alloc (.cells #[.int .i64 4, .int .i64 1, .string ByteArray.empty] 24)).heap.size) ⟨hBW.os, hBW.tape, hBW.output, hBW.size, hBW.block⟩) (((hB5.trans (hBW6.mono hB5.size)).trans (hB7.mono (Nat.le_trans hB5.size hBW6.size))).mono hBW.size)
  have hc2 : Below W7.heap.size W7 W9 := hBW8.trans (((bal (b0 W8) _).trans (hBW9.mono (by simp))).mono hBW8.size)
  have hH9 : HeapAt W9 τ3 hb H1 := hH4.below (hc1.trans (hc2.mono hc1.size))
  refine ⟨_, _, _, by go_simp; try rfl, Make_any hH9 1 ByteArray.empty 0 _ [v1, vY, vt] (by decide) hrow9 (by simp) (by decide), ?_⟩
  rintro e X1 ⟨rfl, τ4, hX, hCX, hTX⟩
  have hHH2 : H1.made 1 ByteArray.empty 0 [v1, vY, vt] = H2 := rfl
  rw [hHH2] at hX
  refine ⟨_, own τ4, rfl, hCX, fun b hb' => by simp [own, hTX b hb'], fun b hb' => ?_, ?_⟩
  · cases hx : own τ4 b with
    | false => rfl
    | true => have := hX.olt b hx; omega
  simp only [Act.put, List.setIfInBounds_toArray, List.set_cons_zero, List.set_cons_succ]
  have hR := b0 X1
  refine M_end fun W val hBW hSW hval hpw => ?_
  replace hR := btr hR hBW
  clear hBW
  simp only [List.forall_mem_cons, List.not_mem_nil, false_imp_iff, implies_true, and_true] at hval
  obtain ⟨x3, o3, l3⟩ := hval
  clear hpw
  simp only [laid, cond_true, Act.put, List.setIfInBounds_toArray, List.set_cons_zero, List.set_cons_succ]
  generalize val 6 = g3 at *
  clear val
  have hBel : Below w.heap.size w W := belChg (belChg (btr hB1 (btr hB2 (bal (b0 _) _))) hC3 hown) (((Chg.refl (own τ3) _).alloc _).trans (Chg.trans (Chg.refl _ _).drew hSW (fun _ _ h => h)) (fun _ _ h => h)) (ownOn (btr hB1 (btr hB2 (bal (b0 _) _))).size hT3 hown)
  have ho4 : ∀ b, own τ4 b = true → w.heap.size ≤ b := ownOn (hBel.size) (fun b hb' => rfl) (ownOn (Nat.le_trans (belChg (btr hB1 (btr hB2 (bal (b0 _) _))) hC3 hown).size (Nat.le_trans (bal (b0 w3) _).size (hc1.trans (hc2.mono hc1.size)).size)) hTX (ownOn (btr hB1 (btr hB2 (bal (b0 _) _))).size hT3 hown))
  have lw3 : w.heap.size ≤ g3 := Nat.le_trans (Nat.le_trans (belChg (btr hB1 (btr hB2 (bal (b0 _) _))) hC3 hown).size (bal (b0 w3) _).size) l3
  have hHW := hX.below hR
  refine pi_end ?_
  simp only [List.drop_succ_cons, List.drop_zero]
  clear hR l3 hBW6 hSW6 hSW9 hBW9 hX hTX hCX hH9 hc2 hc1 hrow9 hl9 s7 s5 hB7 hB5 d1 hH4 hvt hlt4 hov hH3 hC3 hT3 hrow hlit hH2 hB2 hB1 hH hown
  obtain ⟨⟨x3c0, x3c1, x3c2⟩, ⟨x3f0, x3f1, x3f2⟩, x3l⟩ := factsV x3
  go_wp2_with fail
  obtain ⟨y3, hB3, hC3⟩ := stV x3 hBel lw3 (.int .i64 4) (.int .i64 (H1.last + 1)) (.string ByteArray.empty)
  have hH3 := heapSt hHW hC3 o3
  clear x3c0 x3c1 x3c2 x3f0 x3f1 x3f2 x3l
  generalize ((W.setCell ⟨g3, 0, Option.none⟩ (.int .i64 4)).setCell ⟨g3, 1, Option.none⟩ (.int .i64 (H1.last + 1))).setCell ⟨g3, 2, Option.none⟩ (.string ByteArray.empty) = W1 at y3 hB3 hC3 hH3 ⊢
  clear hC3 hBel y3 x3 o3 lw3 hSW hHW hSW8 hBW8
  refine (Repr_any hH3 vl shownOk).mono ?_
  rintro e W2 ⟨rfl, hB⟩
  rw [show reprOut (reprS H2 vl) = ⟨#[91, 49, 44, 32, 84, 114, 117, 101, 44, 32, 40, 39, 97, 39, 44, 41, 93]⟩ by rw [shownText]; rfl, show (reprS H2 vl).name = ByteArray.empty by rw [shownText]]
  have hB2 := btr hB3 hB
  have hH2 := hH3.below hB
  clear hB3 hB hH3 hSW hBW hHH2 hHH
  go_wp2_with fail
  refine (lnum_any _ 1).mono ?_
  rintro e V1 ⟨rfl, hB⟩
  have x5 := (Has.new W2 (Ex.raise ByteArray.empty).cells 33).bel hB
  have hB3 := btr (bal hB2 (.cells (Ex.raise ByteArray.empty).cells 33)) hB
  have hH3 := (hH2.below (bal (b0 W2) (.cells (Ex.raise ByteArray.empty).cells 33))).below hB
  have l5 := hB2.size
  clear hB2 hB hH2
  go_wp2_with fail
  refine (lyes_any _ true).mono ?_
  rintro e V2 ⟨rfl, hB⟩
  replace x5 := x5.bel hB
  replace hB3 := btr hB3 hB
  replace hH3 := hH3.below hB
  clear hB
  go_wp2_with fail
  refine (Cmp_eq hH3 v1 vY rfl).mono ?_
  rintro e V3 ⟨rfl, hB⟩
  rw [show yesC (sameP H2 v1 vY) = #[.int .i64 1, .int .i64 0, .string ByteArray.empty] by rfl]
  replace x5 := x5.bel hB
  replace hB3 := btr hB3 hB
  replace hH3 := hH3.below hB
  clear hB
  go_wp2_with fail
  refine (lnum_any _ 1).mono ?_
  rintro e V4 ⟨rfl, hB⟩
  obtain ⟨x6, x7, hB4, hB34⟩ := two_new V3 #[.int .i64 1, .int .i64 0, .string ByteArray.empty] Ex.none.cells 24 33 hB3
  replace x6 := x6.bel hB
  replace x7 := x7.bel hB
  replace hB34 := btr hB34 hB
  replace x5 := x5.bel hB34
  replace hH3 := hH3.below hB34
  replace hB4 := btr hB4 hB
  clear hB hB34 hB3
  go_wp2_with fail
  refine (lyes_any _ true).mono ?_
  rintro e V5 ⟨rfl, hB⟩
  replace x5 := Has.bel x5 hB
  replace x6 := Has.bel x6 hB
  replace x7 := Has.bel x7 hB
  replace hB4 := btr hB4 hB
  replace hH3 := hH3.below hB
  clear hB
  go_wp2_with fail
  refine (Bin_plus_wrong hH3 v1 vY rfl (by decide) (by decide)).mono ?_
  rintro e V6 ⟨rfl, hB⟩
  replace x5 := Has.bel x5 hB
  replace x6 := Has.bel x6 hB
  replace x7 := Has.bel x7 hB
  replace hB4 := btr hB4 hB
  clear hB hH3 ho4
  go_wp2_with fail
  obtain ⟨x8, x9, hB5, hB65⟩ := two_new V6 #[.int .i64 V.nul.k, .int .i64 V.nul.n, .string V.nul.s] (Ex.raise typeErr).cells 24 33 hB4
  replace x5 := Has.bel x5 hB65
  replace x6 := Has.bel x6 hB65
  replace x7 := Has.bel x7 hB65
  clear hB65 hB4
  generalize (V6.alloc (.cells #[.int .i64 V.nul.k, .int .i64 V.nul.n, .string V.nul.s] 24)).alloc (.cells (Ex.raise typeErr).cells 33) = V7 at x5 x6 x7 x8 x9 hB5 ⊢
  obtain ⟨⟨e50, e51, e52, e53, e54⟩, _, e5l⟩ := factsE x5
  obtain ⟨⟨e60, e61, e62⟩, _, e6l⟩ := factsV x6
  obtain ⟨⟨e70, e71, e72, e73, e74⟩, _, e7l⟩ := factsE x7
  obtain ⟨⟨e90, e91, e92, e93, e94⟩, _, e9l⟩ := factsE x9
  refine wp_region_M 19 [(0, true), (1, true), (2, true), (3, true), (4, false), (5, true), (6, true), (7, true), (8, false), (9, true), (10, true), (11, true), (12, true), (13, false), (14, true), (15, true), (16, true), (17, false), (18, true)] [] [] (fun _ => false) (by kernel_rfl) (by kernel_rfl) (by simp) (fun _ _ => rfl) ?_
  have hR := undrewR V7
  repeat
    first
    | refine M_skip rfl (by rfl) (fun _ _ _ h => h) ?_
    | refine M_pass rfl (by rfl) (fun _ _ => rfl) fun W hBW => ?_
      replace hR := btr hR hBW
      clear hBW
    | refine M_free rfl (by rfl) ?_
      apply Exists.intro
      refine ⟨fun W hW => ?_, fun _ _ _ h => h, ?_⟩
      focus
        have hq := hW.allF
        first | (go_simp; done) | (go_simp; with_reducible rfl)
    simp only [Act.put, List.setIfInBounds_toArray, List.set_cons_zero, List.set_cons_succ]
  refine M_call rfl (by rfl) (fun _ _ => rfl) fun W hBW hSW => ?_
  replace hR := btr hR hBW
  clear hBW
  refine ⟨_, _, _, by go_simp; try (repeat' apply And.intro) <;> rfl, lnone_any W ByteArray.empty, ?_⟩
  clear hSW
  rintro e W ⟨rfl, hB⟩
  refine ⟨_, rfl, hB, ?_⟩
  replace hR := btr hR hB
  clear hB
  simp only [Act.put, List.setIfInBounds_toArray, List.set_cons_zero, List.set_cons_succ]
  repeat
    first
    | refine M_skip rfl (by rfl) (fun _ _ _ h => h) ?_
    | refine M_pass rfl (by rfl) (fun _ _ => rfl) fun W hBW => ?_
      replace hR := btr hR hBW
      clear hBW
    | refine M_free rfl (by rfl) ?_
      apply Exists.intro
      refine ⟨fun W hW => ?_, fun _ _ _ h => h, ?_⟩
      focus
        have hq := hW.allF
        first | (go_simp; done) | (go_simp; with_reducible rfl)
    simp only [Act.put, List.setIfInBounds_toArray, List.set_cons_zero, List.set_cons_succ]
  refine M_call rfl (by rfl) (fun _ _ => rfl) fun W hBW hSW => ?_
  replace hR := btr hR hBW
  clear hBW
  refine ⟨_, _, _, by go_simp; try (repeat' apply And.intro) <;> rfl, lyes_any W false, ?_⟩
  clear hSW
  rintro e W ⟨rfl, hB⟩
  refine ⟨_, rfl, hB, ?_⟩
  replace hR := btr hR hB
  clear hB
  simp only [Act.put, List.setIfInBounds_toArray, List.set_cons_zero, List.set_cons_succ]
  repeat
    first
    | refine M_skip rfl (by rfl) (fun _ _ _ h => h) ?_
    | refine M_pass rfl (by rfl) (fun _ _ => rfl) fun W hBW => ?_
      replace hR := btr hR hBW
      clear hBW
    | refine M_free rfl (by rfl) ?_
      apply Exists.intro
      refine ⟨fun W hW => ?_, fun _ _ _ h => h, ?_⟩
      focus
        have hq := hW.allF
        first | (go_simp; done) | (go_simp; with_reducible rfl)
    simp only [Act.put, List.setIfInBounds_toArray, List.set_cons_zero, List.set_cons_succ]
  refine M_call rfl (by rfl) (fun _ _ => rfl) fun W hBW hSW => ?_
  replace hR := btr hR hBW
  clear hBW
  refine ⟨_, _, _, by go_simp; try (repeat' apply And.intro) <;> rfl, lnone_any W ByteArray.empty, ?_⟩
  clear hSW
  rintro e W ⟨rfl, hB⟩
  refine ⟨_, rfl, hB, ?_⟩
  replace hR := btr hR hB
  clear hB
  simp only [Act.put, List.setIfInBounds_toArray, List.set_cons_zero, List.set_cons_succ]
  repeat
    first
    | refine M_skip rfl (by rfl) (fun _ _ _ h => h) ?_
    | refine M_pass rfl (by rfl) (fun _ _ => rfl) fun W hBW => ?_
      replace hR := btr hR hBW
      clear hBW
    | refine M_free rfl (by rfl) ?_
      apply Exists.intro
      refine ⟨fun W hW => ?_, fun _ _ _ h => h, ?_⟩
      focus
        have hq := hW.allF
        first | (go_simp; done) | (go_simp; with_reducible rfl)
    simp only [Act.put, List.setIfInBounds_toArray, List.set_cons_zero, List.set_cons_succ]
  refine M_call rfl (by rfl) (fun _ _ => rfl) fun W hBW hSW => ?_
  replace hR := btr hR hBW
  clear hBW
  refine ⟨_, _, _, by go_simp; try (repeat' apply And.intro) <;> rfl, lraised_any W typeErr typeErr, ?_⟩
  clear hSW
  rintro e W ⟨rfl, hB⟩
  refine ⟨_, rfl, hB, ?_⟩
  replace hR := btr hR hB
  clear hB
  simp only [Act.put, List.setIfInBounds_toArray, List.set_cons_zero, List.set_cons_succ]
  repeat
    first
    | refine M_skip rfl (by rfl) (fun _ _ _ h => h) ?_
    | refine M_pass rfl (by rfl) (fun _ _ => rfl) fun W hBW => ?_
      replace hR := btr hR hBW
      clear hBW
    | refine M_free rfl (by rfl) ?_
      apply Exists.intro
      refine ⟨fun W hW => ?_, fun _ _ _ h => h, ?_⟩
      focus
        have hq := hW.allF
        first | (go_simp; done) | (go_simp; with_reducible rfl)
    simp only [Act.put, List.setIfInBounds_toArray, List.set_cons_zero, List.set_cons_succ]
  refine M_end0 fun W hBW hSW => ?_
  replace hR := btr hR hBW
  clear hBW
  simp only [List.drop_succ_cons, List.drop_zero]
  go_wp2
  go_ret
  exact ⟨rfl, btr hB5 hR⟩

end Go.Proofs.YtjhfjllgjgnmeaaGreat

/- kraitlaw16.sums: true, whatever it is called with. -/
import Derived.Test.YtjhfjllgjgnmeaaGreatEnd2
namespace Go.Proofs.YtjhfjllgjgnmeaaGreat
open Go.RowKit Go.Maps
attribute [local go_sem] World.cell?_alloc_some

def kd (t : Bool) : Int := bif t then 2 else 1
def S1 (t : Bool) (A : List V) : PH := PH.empty.made (kd t) ByteArray.empty 0 A
def S2 (t : Bool) (A B : List V) : PH := (S1 t A).made (kd t) ByteArray.empty 0 B
def S3 (t : Bool) (A B : List V) : PH := (S2 t A B).made (kd (!t)) ByteArray.empty 0 B
def S4 (t : Bool) (A B : List V) : PH := (S3 t A B).made (kd t) ByteArray.empty 0 (A ++ B)
def S5 (t : Bool) (A B : List V) (m : Int) : PH := (S4 t A B).made (kd t) ByteArray.empty 0 (mulItems A m)
def S6 (t : Bool) (A B : List V) (m : Int) : PH := (S5 t A B m).made (kd t) ByteArray.empty 0 (mulItems A m)
def o1 : V := V.ref 1 (by decide)
def o2 : V := V.ref 2 (by decide)
def o3 : V := V.ref 3 (by decide)
def o4 : V := V.ref 4 (by decide)
def o5 : V := V.ref 5 (by decide)
def o6 : V := V.ref 6 (by decide)

section
variable {t : Bool} {A B : List V} {m : Int}
theorem S3_1 : (S3 t A B).obj 1 = some ⟨kd t, ByteArray.empty, 0, A, []⟩ := rfl
theorem S3_2 : (S3 t A B).obj 2 = some ⟨kd t, ByteArray.empty, 0, B, []⟩ := rfl
theorem S4_1 : (S4 t A B).obj 1 = some ⟨kd t, ByteArray.empty, 0, A, []⟩ := rfl
theorem S4_2 : (S4 t A B).obj 2 = some ⟨kd t, ByteArray.empty, 0, B, []⟩ := rfl
theorem S4_3 : (S4 t A B).obj 3 = some ⟨kd (!t), ByteArray.empty, 0, B, []⟩ := rfl
theorem S4_4 : (S4 t A B).obj 4 = some ⟨kd t, ByteArray.empty, 0, A ++ B, []⟩ := rfl
theorem S5_1 : (S5 t A B m).obj 1 = some ⟨kd t, ByteArray.empty, 0, A, []⟩ := rfl
theorem S6_1 : (S6 t A B m).obj 1 = some ⟨kd t, ByteArray.empty, 0, A, []⟩ := rfl
theorem S6_5 : (S6 t A B m).obj 5 = some ⟨kd t, ByteArray.empty, 0, mulItems A m, []⟩ := rfl
theorem S6_6 : (S6 t A B m).obj 6 = some ⟨kd t, ByteArray.empty, 0, mulItems A m, []⟩ := rfl
theorem kd_row (t : Bool) : kd t = 1 ∨ kd t = 2 := by cases t; exact .inl rfl; exact .inr rfl
theorem kd_ne (t : Bool) : kd t ≠ kd (!t) := by cases t <;> decide

theorem k3_1 : (S3 t A B).kind o1 = kd t := kind_obj S3_1
theorem k3_2 : (S3 t A B).kind o2 = kd t := kind_obj S3_2
theorem i3_1 : (S3 t A B).items o1 = A := items_obj S3_1
theorem i3_2 : (S3 t A B).items o2 = B := items_obj S3_2
theorem r3_1 : (S3 t A B).row o1 = true := row_obj S3_1 (kd_row t)
theorem k4_1 : (S4 t A B).kind o1 = kd t := kind_obj S4_1
theorem k4_3 : (S4 t A B).kind o3 = kd (!t) := kind_obj S4_3
theorem k4_4 : (S4 t A B).kind o4 = kd t := kind_obj S4_4
theorem i4_1 : (S4 t A B).items o1 = A := items_obj S4_1
theorem i4_2 : (S4 t A B).items o2 = B := items_obj S4_2
theorem i4_4 : (S4 t A B).items o4 = A ++ B := items_obj S4_4
theorem r4_1 : (S4 t A B).row o1 = true := row_obj S4_1 (kd_row t)
theorem k5_1 : (S5 t A B m).kind o1 = kd t := kind_obj S5_1
theorem i5_1 : (S5 t A B m).items o1 = A := items_obj S5_1
theorem r5_1 : (S5 t A B m).row o1 = true := row_obj S5_1 (kd_row t)
theorem k6_1 : (S6 t A B m).kind o1 = kd t := kind_obj S6_1
theorem k6_5 : (S6 t A B m).kind o5 = kd t := kind_obj S6_5
theorem i6_1 : (S6 t A B m).items o1 = A := items_obj S6_1
theorem i6_5 : (S6 t A B m).items o5 = mulItems A m := items_obj S6_5
theorem i6_6 : (S6 t A B m).items o6 = mulItems A m := items_obj S6_6

theorem add12 (hA : A.length ≤ 8) (hB : B.length ≤ 8) : addRowS (S3 t A B) o1 o2 = (V.refN 4, Ex.none, S4 t A B) := by
  unfold addRowS freshS
  rw [i3_1, i3_2, k3_1, if_neg (by rw [List.length_append]; omega)]
  rfl
end

def vnum (m : Int) (h : (Lit.int .i64 m).wf = true) : V := ⟨2, m, ByteArray.empty, by decide, h, by simp⟩

theorem mul_len {A : List V} {m : Int} (hA : A.length ≤ 8) (hm : m ≤ 5) : (mulItems A m).length ≤ 40 := by
  rw [mulItems, rep_length]
  have h1 : mulCount A m ≤ 5 := by unfold mulCount; split <;> omega
  exact Nat.le_trans (Nat.mul_le_mul h1 hA) (by decide)
theorem mul5 {t : Bool} {A B : List V} {m : Int} (hA : A.length ≤ 8) (hm : m ≤ 5) : mulRowS (S4 t A B) o1 m = (V.refN 5, Ex.none, S5 t A B m) := by
  unfold mulRowS freshS
  have := mul_len hA hm
  rw [i4_1, k4_1, if_neg (by omega)]
  rfl
theorem mul6 {t : Bool} {A B : List V} {m : Int} (hA : A.length ≤ 8) (hm : m ≤ 5) : mulRowS (S5 t A B m) o1 m = (V.refN 6, Ex.none, S6 t A B m) := by
  unfold mulRowS freshS
  have := mul_len hA hm
  rw [i5_1, k5_1, if_neg (by omega)]
  rfl

theorem mul_rep {A : List V} {m : Int} (hA : A.length ≤ 8) (hm : m ≤ 5) : (List.replicate m.toNat A).flatten = mulItems A m := by
  unfold mulItems mulCount
  by_cases h0 : A.length = 0
  · obtain rfl := List.length_eq_zero_iff.1 h0
    simp
  · rw [if_neg h0]
    have h1 : 512 ≤ 4096 / A.length := by
      rw [Nat.le_div_iff_mul_le (by omega)]
      omega
    rw [show min m.toNat (4096 / A.length + 1) = m.toNat by omega]

set_option maxRecDepth 100000 in
theorem and7 : ∀ k : Fin 256, 0 ≤ bits BinOp.and IntKind.i8 ((k.val : Int) - 128) 7 ∧ bits BinOp.and IntKind.i8 ((k.val : Int) - 128) 7 ≤ 7 := by decide
theorem and7' {n : Int} (h : (Lit.int .i8 n).wf = true) : 0 ≤ bits BinOp.and IntKind.i8 n 7 ∧ bits BinOp.and IntKind.i8 n 7 ≤ 7 := by
  have h1 : -128 ≤ n ∧ n ≤ 127 := by
    simp [Lit.wf, IntKind.min, IntKind.max, IntKind.bits, IntKind.signed] at h
    omega
  have := and7 ⟨(n + 128).toNat, by omega⟩
  simp only [] at this
  rwa [show (((n + 128).toNat : Int) - 128) = n by omega] at this

set_option maxRecDepth 100000 in
set_option maxHeartbeats 6400000 in
theorem sums_any {w : World} {va vb : Value} {la lb : List V} (hla : RowV w va la) (hlb : RowV w vb lb) (t : Bool) (n : Int) (hn : (Lit.int .i8 n).wf = true) :
    Calls Tryz.prog 36 #[va, vb, .bool t, .int .i8 n] w fun e w' => e = .returned (.bool true) ∧ Below w.heap.size w w' := by
  obtain ⟨A, hA⟩ : ∃ A, A = rowsV la := ⟨_, rfl⟩
  obtain ⟨B, hB'⟩ : ∃ B, B = rowsV lb := ⟨_, rfl⟩
  have zA : A.length ≤ 8 := by rw [hA]; exact rowsV_length _
  have zB : B.length ≤ 8 := by rw [hB']; exact rowsV_length _
  obtain ⟨a0, c0, rfl⟩ := hla.slice
  obtain ⟨b0', c1, rfl⟩ := hlb.slice
  go_enter Tryz.func36, Tryz.ntmps36
  go_wp2_with fail
  refine (shown_any w).mono ?_
  rintro e w1 ⟨rfl, hB1⟩
  go_wp2_with fail
  refine (heapNew_any w1).mono ?_
  rintro e w2 ⟨τ, hb, rfl, hH, hB2, hown⟩
  have s : Stt w w2 τ hb PH.empty := ⟨btr hB1 hB2, hH, fun b hb' => Nat.le_trans hB1.size (hown b hb')⟩
  have hla2 := hla.chg (ρ := fun _ => false) (Chg.of_below s.bl) (fun _ _ => rfl)
  have hlb2 := hlb.chg (ρ := fun _ => false) (Chg.of_below s.bl) (fun _ _ => rfl)
  clear hH hB1 hB2 hown
  have HA := Lib.hid hA
  have HB := Lib.hid hB'
  clear hA hB'
  have hrow : ∀ {W : World} {τ' : Tag} {H : PH}, Stt w W τ' hb H → RowV W (.slice a0 la.length c0) la ∧ RowV W (.slice b0' lb.length c1) lb := fun s => ⟨hla.chg (ρ := fun _ => false) (Chg.of_below s.bl) (fun _ _ => rfl), hlb.chg (ρ := fun _ => false) (Chg.of_below s.bl) (fun _ _ => rfl)⟩
  clear hla hlb hla2 hlb2
  go_wp2_with fail
  refine (rows_any s.heap t (hrow s).1 (room_of 0 rfl (by decide))).mono ?_
  rintro e w3 ⟨rfl, τ3, hH, hC, hT⟩
  replace s := s.wr hH hC hT
  clear hH hC hT
  rw [← HA.out] at s ⊢
  rw [show PH.empty.made (bif t then 2 else 1) ByteArray.empty 0 A = S1 t A from rfl] at s
  have x11 := Lv.new s #[.int .i64 4, .int .i64 1, .string ByteArray.empty] 24
  replace s := s.alloc (.cells #[.int .i64 4, .int .i64 1, .string ByteArray.empty] 24)
  rw [show PH.empty.last + 1 = 1 from rfl]
  go_wp2_with fail
  refine (rows_any s.heap t (hrow s).2 (room_of 1 rfl (by decide))).mono ?_
  rintro e w4 ⟨rfl, τ4, hH, hC, hT⟩
  rw [← HB.out] at hH ⊢
  replace x11 := x11.wr hC hT
  replace s := s.wr hH hC hT
  clear hH hC hT
  rw [show (S1 t A).made (bif t then 2 else 1) ByteArray.empty 0 B = S2 t A B from rfl] at s
  rw [show (S1 t A).last + 1 = 2 from rfl]
  have x13 := Lv.new s #[.int .i64 4, .int .i64 2, .string ByteArray.empty] 24
  replace s := s.alloc (.cells #[.int .i64 4, .int .i64 2, .string ByteArray.empty] 24)
  replace x11 := x11.alloc (.cells #[.int .i64 4, .int .i64 2, .string ByteArray.empty] 24)
  go_wp2_with fail
  refine (rows_any s.heap (!t) (hrow s).2 (room_of 2 rfl (by decide))).mono ?_
  rintro e w5 ⟨rfl, τ5, hH, hC, hT⟩
  rw [← HB.out] at hH ⊢
  replace x11 := x11.wr hC hT
  replace x13 := x13.wr hC hT
  replace s := s.wr hH hC hT
  clear hH hC hT
  rw [show (S2 t A B).made (bif !t then 2 else 1) ByteArray.empty 0 B = S3 t A B from rfl] at s
  rw [show (S2 t A B).last + 1 = 3 from rfl]
  have x15 := Lv.new s #[.int .i64 4, .int .i64 3, .string ByteArray.empty] 24
  replace s := s.alloc (.cells #[.int .i64 4, .int .i64 3, .string ByteArray.empty] 24)
  replace x11 := x11.alloc (.cells #[.int .i64 4, .int .i64 3, .string ByteArray.empty] 24)
  replace x13 := x13.alloc (.cells #[.int .i64 4, .int .i64 3, .string ByteArray.empty] 24)
  obtain ⟨⟨x11c0, x11c1, x11c2⟩, ⟨x11f0, x11f1, x11f2⟩, x11l⟩ := factsV x11.has
  have x11o := x11.free
  obtain ⟨⟨x13c0, x13c1, x13c2⟩, ⟨x13f0, x13f1, x13f2⟩, x13l⟩ := factsV x13.has
  have x13o := x13.free
  obtain ⟨⟨x15c0, x15c1, x15c2⟩, ⟨x15f0, x15f1, x15f2⟩, x15l⟩ := factsV x15.has
  have x15o := x15.free
  go_wp2_with fail
  refine (Bin_does s.heap o1 o2 _ _ (.inl ⟨rfl, rfl⟩) (by decide) (fun W hW => add_rows hW o1 o2 r3_1 (k3_1.trans k3_2.symm) (room_of 3 rfl (by decide)) (by rw [i3_1]; omega) (by rw [i3_2]; omega))).mono ?_
  rw [add12 zA zB]
  rintro e w6 ⟨rfl, τ6, hH, hC, hT⟩
  clear x11c0 x11c1 x11c2 x11f0 x11f1 x11f2 x11l x11o x13c0 x13c1 x13c2 x13f0 x13f1 x13f2 x13l x13o x15c0 x15c1 x15c2 x15f0 x15f1 x15f2 x15l x15o
  replace x11 := x11.wr hC hT
  replace x13 := x13.wr hC hT
  replace x15 := x15.wr hC hT
  replace s := s.wr hH hC hT
  clear hH hC hT
  rw [V.refN_val (show (Lit.int .i64 4).wf = true by decide)]
  obtain ⟨x17, x18, hB⟩ := Lv.two s #[.int .i64 4, .int .i64 4, .string ByteArray.empty] Ex.none.cells 24 33
  replace s := s.bel hB
  replace x11 := x11.bel hB
  replace x13 := x13.bel hB
  replace x15 := x15.bel hB
  clear hB
  obtain ⟨⟨x11c0, x11c1, x11c2⟩, ⟨x11f0, x11f1, x11f2⟩, x11l⟩ := factsV x11.has
  have x11o := x11.free
  obtain ⟨⟨x15c0, x15c1, x15c2⟩, ⟨x15f0, x15f1, x15f2⟩, x15l⟩ := factsV x15.has
  have x15o := x15.free
  go_wp2_with fail
  refine (Bin_does s.heap o1 o3 _ _ (.inl ⟨rfl, rfl⟩) (by decide) (fun W hW => (add_diff hW o1 o3 r4_1 (by rw [k4_1, k4_3]; exact kd_ne t)).mono (fun e w' h => OpPost.of_below hW h.1 h.2))).mono ?_
  rintro e w7 ⟨rfl, τ7, hH, hC, hT⟩
  clear x11c0 x11c1 x11c2 x11f0 x11f1 x11f2 x11l x11o x15c0 x15c1 x15c2 x15f0 x15f1 x15f2 x15l x15o
  replace x11 := x11.wr hC hT
  replace x13 := x13.wr hC hT
  replace x17 := x17.wr hC hT
  replace x18 := x18.wr hC hT
  replace s := s.wr hH hC hT
  clear hH hC hT
  obtain ⟨x19, x20, hB⟩ := Lv.two s #[.int .i64 V.nul.k, .int .i64 V.nul.n, .string V.nul.s] (Ex.raise typeErr).cells 24 33
  replace s := s.bel hB
  replace x11 := x11.bel hB
  replace x13 := x13.bel hB
  replace x17 := x17.bel hB
  replace x18 := x18.bel hB
  clear hB x15
  obtain ⟨⟨x11c0, x11c1, x11c2⟩, ⟨x11f0, x11f1, x11f2⟩, x11l⟩ := factsV x11.has
  have x11o := x11.free
  obtain ⟨⟨x13c0, x13c1, x13c2⟩, ⟨x13f0, x13f1, x13f2⟩, x13l⟩ := factsV x13.has
  have x13o := x13.free
  go_wp2_with fail
  generalize (w7.alloc (.cells #[.int .i64 V.nul.k, .int .i64 V.nul.n, .string V.nul.s] 24)).alloc (.cells (Ex.raise typeErr).cells 33) = w8 at *
  have hlt := own_new s.heap
  refine wp_region_M 7 [(0, true), (1, true), (3, true), (4, true), (2, false), (5, false), (6, false)] [] [] (own τ7) (by kernel_rfl) (by kernel_rfl) (by simp) hlt ?_
  have hR := undrewR w8
  repeat
    first
    | refine M_skip rfl (by rfl) (fun _ _ _ h => h) ?_
    | refine M_pass rfl (by rfl) (fun b hb => hlt b (Nat.le_trans hR.size hb)) fun W hBW => ?_
      replace hR := btr hR hBW
      clear hBW
    | refine M_free rfl (by rfl) ?_
      apply Exists.intro
      refine ⟨fun W hW => ?_, fun _ _ _ h => h, ?_⟩
      focus
        have hq := hW.all
        first | (go_simp; done) | (go_simp; with_reducible rfl)
    simp only [Act.put, List.setIfInBounds_toArray, List.set_cons_zero, List.set_cons_succ]
  refine M_callW rfl (by rfl) fun W hBW hSW => ?_
  replace hR := btr hR hBW
  clear hBW hSW
  refine ⟨_, _, _, by go_simp; try (repeat' apply And.intro) <;> rfl, Items_any (s.heap.below hR) o1, ?_⟩
  rintro e W3 ⟨ya, rfl, hva, hB⟩
  rw [i4_1] at hva
  have s3 := hB.size
  have hW3 : w8.heap.size ≤ W.heap.size := hR.size
  have hlt3 : ∀ b, W3.heap.size ≤ b → own τ7 b = false := fun b hb' => hlt b (Nat.le_trans hW3 (Nat.le_trans hB.size hb'))
  refine ⟨_, ownAnd τ7 ya, rfl, Chg.of_below hB, ownAnd_old hva, ownAnd_new hva hlt3, ?_⟩
  replace hR := btr hR hB
  simp only [Act.put, List.setIfInBounds_toArray, List.set_cons_zero, List.set_cons_succ]
  refine M_call rfl (by rfl) (ownAnd_new hva hlt3) fun W4 hBW hSW => ?_
  replace hR := btr hR hBW
  have hva4 := ownsRow_same hva (fun b hb' => hBW.block b (owns_lt hva hb'))
  have s4 := hBW.size
  clear hBW hSW hB
  refine ⟨_, _, _, by go_simp; try (repeat' apply And.intro) <;> rfl, Items_any (s.heap.below hR) o2, ?_⟩
  rintro e W5 ⟨yb, rfl, hvb, hB⟩
  rw [i4_2] at hvb
  refine ⟨_, rfl, hB, ?_⟩
  replace hR := btr hR hB
  have hva5 := ownsRow_same hva4 (fun b hb' => hB.block b (owns_lt hva4 hb'))
  have s5 := hB.size
  clear hB hva4
  simp only [Act.put, List.setIfInBounds_toArray, List.set_cons_zero, List.set_cons_succ]
  refine M_step rfl (by rfl) fun W6 hBW hSW K hK => ?_
  replace hR := btr hR hBW
  have hva6 := ownsRow_same hva5 (fun b hb' => hBW.block b (owns_lt hva5 hb'))
  have hvb6 : RowV W6 yb B := (RowV.of_owns (ownsRow_base hvb (fun _ _ => Nat.zero_le _))).same (fun b hb' => hBW.block b (owns_lt hvb hb'))
  have s6 := hBW.size
  clear hBW hSW hva5
  refine wp_app _ _ rfl rfl hva6 rfl hvb6 (by omega) (by omega) ?_
  intro v' W7 hv7 hg
  have s7 := hg.size
  refine hK _ _ (ownAnd τ7 ya) (Chg.of_grownBy hg (fun k hk _ => ownAnd_row hk)) (fun _ _ => rfl) (fun b hb' => ownAnd_new hva hlt3 b (by omega)) ?_
  replace hR : Below w8.heap.size w8 W7 := hR.trans ⟨hg.os, hg.tape, hg.output, hg.size, fun b hb' => hg.block b (by have := hR.size; omega) (fun e => by have := owns_base hva e.symm; omega)⟩
  clear hg hva6 hvb6 hK
  simp only [Act.put, List.setIfInBounds_toArray, List.set_cons_zero, List.set_cons_succ]
  refine M_end0 fun w9 hBW hSW => ?_
  replace hR := btr hR hBW
  have hall : RowV w9 v' (A ++ B) := (RowV.of_owns (ownsRow_base hv7 (fun _ _ => Nat.zero_le _))).same (fun b hb' => hBW.block b (owns_lt hv7 hb'))
  clear hBW hSW hlt hlt3 hva hvb hv7 s3 s4 s5 s6 s7 hW3
  clear x11c0 x11c1 x11c2 x11f0 x11f1 x11f2 x11l x11o x13c0 x13c1 x13c2 x13f0 x13f1 x13f2 x13l x13o
  replace s := s.bel hR
  replace x11 := x11.bel hR
  replace x13 := x13.bel hR
  replace x17 := x17.bel hR
  replace x18 := x18.bel hR
  replace x19 := x19.bel hR
  replace x20 := x20.bel hR
  clear hR
  simp only [List.drop_succ_cons, List.drop_zero]
  obtain ⟨⟨x11c0, x11c1, x11c2⟩, ⟨x11f0, x11f1, x11f2⟩, x11l⟩ := factsV x11.has
  have x11o := x11.free
  obtain ⟨⟨x13c0, x13c1, x13c2⟩, ⟨x13f0, x13f1, x13f2⟩, x13l⟩ := factsV x13.has
  have x13o := x13.free
  obtain ⟨⟨x17c0, x17c1, x17c2⟩, ⟨x17f0, x17f1, x17f2⟩, x17l⟩ := factsV x17.has
  have x17o := x17.free
  obtain ⟨⟨e180, e181, e182, e183, e184⟩, _, e18l⟩ := factsE x18.has
  obtain ⟨⟨e200, e201, e202, e203, e204⟩, _, e20l⟩ := factsE x20.has
  go_wp2_with fail
  refine wp_region_M 49 [(0, true), (1, false), (2, true), (3, true), (4, true), (5, false), (6, true), (7, true), (8, true), (9, true), (10, true), (12, true), (13, true), (11, false), (14, false), (15, true), (16, true), (17, true), (18, true), (19, true), (20, true), (21, true), (22, true), (23, true), (24, true), (25, true), (26, true), (27, true), (28, true), (29, true), (31, true), (30, false), (32, false), (33, true), (34, true), (35, true), (36, true), (37, true), (39, true), (38, false), (40, true), (41, true), (42, true), (43, true), (44, true), (46, true), (45, false), (47, true), (48, true)] [] [] (fun _ => false) (by kernel_rfl) (by kernel_rfl) (by simp) (fun _ _ => rfl) ?_
  have hR := undrewR w9
  repeat
    first
    | refine M_skip rfl (by rfl) (fun _ _ _ h => h) ?_
    | refine M_pass rfl (by rfl) (fun _ _ => rfl) fun W hBW => ?_
      replace hR := btr hR hBW
      clear hBW
    | refine M_free rfl (by rfl) ?_
      apply Exists.intro
      refine ⟨fun W hW => ?_, fun _ _ _ h => h, ?_⟩
      focus
        have hq := hW.allF
        first | (go_simp; done) | (go_simp; with_reducible rfl)
    simp only [Act.put, List.setIfInBounds_toArray, List.set_cons_zero, List.set_cons_succ]
  refine M_call rfl (by rfl) (fun _ _ => rfl) fun W hBW hSW => ?_
  replace hR := btr hR hBW
  clear hBW
  refine ⟨_, _, _, by go_simp; try (repeat' apply And.intro) <;> rfl, lnone_any W ByteArray.empty, ?_⟩
  clear hSW
  rintro e W ⟨rfl, hB⟩
  refine ⟨_, rfl, hB, ?_⟩
  replace hR := btr hR hB
  clear hB
  simp only [Act.put, List.setIfInBounds_toArray, List.set_cons_zero, List.set_cons_succ]
  repeat
    first
    | refine M_skip rfl (by rfl) (fun _ _ _ h => h) ?_
    | refine M_pass rfl (by rfl) (fun _ _ => rfl) fun W hBW => ?_
      replace hR := btr hR hBW
      clear hBW
    | refine M_free rfl (by rfl) ?_
      apply Exists.intro
      refine ⟨fun W hW => ?_, fun _ _ _ h => h, ?_⟩
      focus
        have hq := hW.allF
        first | (go_simp; done) | (go_simp; with_reducible rfl)
    simp only [Act.put, List.setIfInBounds_toArray, List.set_cons_zero, List.set_cons_succ]
  refine M_call rfl (by rfl) (fun _ _ => rfl) fun W hBW hSW => ?_
  replace hR := btr hR hBW
  clear hBW
  refine ⟨_, _, _, by go_simp; try (repeat' apply And.intro) <;> rfl, lraised_any W typeErr typeErr, ?_⟩
  clear hSW
  rintro e W ⟨rfl, hB⟩
  refine ⟨_, rfl, hB, ?_⟩
  replace hR := btr hR hB
  clear hB
  simp only [Act.put, List.setIfInBounds_toArray, List.set_cons_zero, List.set_cons_succ]
  repeat
    first
    | refine M_skip rfl (by rfl) (fun _ _ _ h => h) ?_
    | refine M_pass rfl (by rfl) (fun _ _ => rfl) fun W hBW => ?_
      replace hR := btr hR hBW
      clear hBW
    | refine M_free rfl (by rfl) ?_
      apply Exists.intro
      refine ⟨fun W hW => ?_, fun _ _ _ h => h, ?_⟩
      focus
        have hq := hW.allF
        first | (go_simp; done) | (go_simp; with_reducible rfl)
    simp only [Act.put, List.setIfInBounds_toArray, List.set_cons_zero, List.set_cons_succ]
  refine M_call rfl (by rfl) (fun _ _ => rfl) fun W hBW hSW => ?_
  replace hR := btr hR hBW
  clear hBW
  refine ⟨_, _, _, by go_simp; try (repeat' apply And.intro) <;> rfl, Kind_any (s.heap.below hR) o4, ?_⟩
  clear hSW
  rintro e W ⟨rfl, hB⟩
  refine ⟨_, rfl, hB, ?_⟩
  replace hR := btr hR hB
  clear hB
  simp only [Act.put, List.setIfInBounds_toArray, List.set_cons_zero, List.set_cons_succ]
  rw [k4_4]
  repeat
    first
    | refine M_skip rfl (by rfl) (fun _ _ _ h => h) ?_
    | refine M_pass rfl (by rfl) (fun _ _ => rfl) fun W hBW => ?_
      replace hR := btr hR hBW
      clear hBW
    | refine M_free rfl (by rfl) ?_
      apply Exists.intro
      refine ⟨fun W hW => ?_, fun _ _ _ h => h, ?_⟩
      focus
        have hq := hW.allF
        first | (go_simp; done) | (go_simp; with_reducible rfl)
    simp only [Act.put, List.setIfInBounds_toArray, List.set_cons_zero, List.set_cons_succ]
  refine M_call rfl (by rfl) (fun _ _ => rfl) fun W hBW hSW => ?_
  replace hR := btr hR hBW
  clear hBW
  refine ⟨_, _, _, by go_simp; try (repeat' apply And.intro) <;> rfl, Kind_any (s.heap.below hR) o1, ?_⟩
  clear hSW
  rintro e W ⟨rfl, hB⟩
  refine ⟨_, rfl, hB, ?_⟩
  replace hR := btr hR hB
  clear hB
  simp only [Act.put, List.setIfInBounds_toArray, List.set_cons_zero, List.set_cons_succ]
  rw [k4_1]
  repeat
    first
    | refine M_skip rfl (by rfl) (fun _ _ _ h => h) ?_
    | refine M_pass rfl (by rfl) (fun _ _ => rfl) fun W hBW => ?_
      replace hR := btr hR hBW
      clear hBW
    | refine M_free rfl (by rfl) ?_
      apply Exists.intro
      refine ⟨fun W hW => ?_, fun _ _ _ h => h, ?_⟩
      focus
        have hq := hW.allF
        first | (go_simp; done) | (go_simp; with_reducible rfl)
    simp only [Act.put, List.setIfInBounds_toArray, List.set_cons_zero, List.set_cons_succ]
  refine M_call rfl (by rfl) (fun _ _ => rfl) fun W hBW hSW => ?_
  replace hR := btr hR hBW
  clear hBW
  refine ⟨_, _, _, by go_simp; try (repeat' apply And.intro) <;> rfl, Items_any (s.heap.below hR) o4, ?_⟩
  clear hSW
  rintro e W ⟨v5, rfl, hv5, hB⟩
  refine ⟨_, rfl, hB, ?_⟩
  replace hR := btr hR hB
  clear hB
  simp only [Act.put, List.setIfInBounds_toArray, List.set_cons_zero, List.set_cons_succ]
  replace hv5 := RowV.ofO hv5
  rw [i4_4] at hv5
  repeat
    first
    | refine M_skip rfl (by rfl) (fun _ _ _ h => h) ?_
    | refine M_pass rfl (by rfl) (fun _ _ => rfl) fun W hBW => ?_
      replace hR := btr hR hBW
      clear hBW
    | refine M_free rfl (by rfl) ?_
      apply Exists.intro
      refine ⟨fun W hW => ?_, fun _ _ _ h => h, ?_⟩
      focus
        have hq := hW.allF
        first | (go_simp; done) | (go_simp; with_reducible rfl)
    simp only [Act.put, List.setIfInBounds_toArray, List.set_cons_zero, List.set_cons_succ]
  refine M_call rfl (by rfl) (fun _ _ => rfl) fun W hBW hSW => ?_
  replace hR := btr hR hBW
  replace hv5 := RowV.chg (ρ := fun _ => false) hv5 (Chg.of_below hBW) (fun _ _ => rfl)
  clear hBW
  refine ⟨_, _, _, by go_simp; try (repeat' apply And.intro) <;> rfl, r12Same_any hv5 (hall.chg (ρ := fun _ => false) (Chg.of_below hR) (fun _ _ => rfl)) (by rw [List.length_append]; omega), ?_⟩
  clear hSW
  rintro e W ⟨rfl, hB⟩
  refine ⟨_, rfl, hB, ?_⟩
  replace hR := btr hR hB
  clear hB
  simp only [Act.put, List.setIfInBounds_toArray, List.set_cons_zero, List.set_cons_succ]
  repeat
    first
    | refine M_skip rfl (by rfl) (fun _ _ _ h => h) ?_
    | refine M_pass rfl (by rfl) (fun _ _ => rfl) fun W hBW => ?_
      replace hR := btr hR hBW
      clear hBW
    | refine M_free rfl (by rfl) ?_
      apply Exists.intro
      refine ⟨fun W hW => ?_, fun _ _ _ h => h, ?_⟩
      focus
        have hq := hW.allF
        first | (go_simp; done) | (go_simp; with_reducible rfl)
    simp only [Act.put, List.setIfInBounds_toArray, List.set_cons_zero, List.set_cons_succ]
  refine M_call rfl (by rfl) (fun _ _ => rfl) fun W hBW hSW => ?_
  replace hR := btr hR hBW
  clear hBW
  refine ⟨_, _, _, by go_simp; try (repeat' apply And.intro) <;> rfl, Len_any (s.heap.below hR) o1, ?_⟩
  clear hSW
  rintro e W ⟨rfl, hB⟩
  refine ⟨_, rfl, hB, ?_⟩
  replace hR := btr hR hB
  clear hB
  simp only [Act.put, List.setIfInBounds_toArray, List.set_cons_zero, List.set_cons_succ]
  rw [i4_1]
  repeat
    first
    | refine M_skip rfl (by rfl) (fun _ _ _ h => h) ?_
    | refine M_pass rfl (by rfl) (fun _ _ => rfl) fun W hBW => ?_
      replace hR := btr hR hBW
      clear hBW
    | refine M_free rfl (by rfl) ?_
      apply Exists.intro
      refine ⟨fun W hW => ?_, fun _ _ _ h => h, ?_⟩
      focus
        have hq := hW.allF
        first | (go_simp; done) | (go_simp; with_reducible rfl)
    simp only [Act.put, List.setIfInBounds_toArray, List.set_cons_zero, List.set_cons_succ]
  refine M_call rfl (by rfl) (fun _ _ => rfl) fun W hBW hSW => ?_
  replace hR := btr hR hBW
  clear hBW
  refine ⟨_, _, _, by go_simp; try (repeat' apply And.intro) <;> rfl, Len_any (s.heap.below hR) o2, ?_⟩
  clear hSW
  rintro e W ⟨rfl, hB⟩
  refine ⟨_, rfl, hB, ?_⟩
  replace hR := btr hR hB
  clear hB
  simp only [Act.put, List.setIfInBounds_toArray, List.set_cons_zero, List.set_cons_succ]
  rw [i4_2]
  repeat
    first
    | refine M_skip rfl (by rfl) (fun _ _ _ h => h) ?_
    | refine M_pass rfl (by rfl) (fun _ _ => rfl) fun W hBW => ?_
      replace hR := btr hR hBW
      clear hBW
    | refine M_free rfl (by rfl) ?_
      apply Exists.intro
      refine ⟨fun W hW => ?_, fun _ _ _ h => h, ?_⟩
      focus
        have hq := hW.allF
        first | (go_simp; done) | (go_simp; with_reducible rfl)
    simp only [Act.put, List.setIfInBounds_toArray, List.set_cons_zero, List.set_cons_succ]
  refine M_end0 fun w10 hBW hSW => ?_
  replace hR := btr hR hBW
  clear hBW
  simp only [List.drop_succ_cons, List.drop_zero]
  replace s := s.bel hR
  replace x11 := x11.bel hR
  replace x13 := x13.bel hR
  replace x17 := x17.bel hR
  replace x18 := x18.bel hR
  replace x19 := x19.bel hR
  replace x20 := x20.bel hR
  clear hR hSW hall
  clear x11c0 x11c1 x11c2 x11f0 x11f1 x11f2 x11l x11o x13c0 x13c1 x13c2 x13f0 x13f1 x13f2 x13l x13o x17c0 x17c1 x17c2 x17f0 x17f1 x17f2 x17l x17o
  clear e180 e181 e182 e183 e184 e18l e200 e201 e202 e203 e204 e20l
  obtain ⟨⟨x11c0, x11c1, x11c2⟩, ⟨x11f0, x11f1, x11f2⟩, x11l⟩ := factsV x11.has
  have x11o := x11.free
  have hn7 := and7' hn
  clear x13 x17 x18 x19 x20
  go_wp2_with fail
  obtain ⟨m1, m2⟩ : -2 ≤ bits BinOp.and IntKind.i8 n 7 - 2 ∧ bits BinOp.and IntKind.i8 n 7 - 2 ≤ 5 := by omega
  clear hn7
  generalize bits BinOp.and IntKind.i8 n 7 - 2 = m at *
  have hmw : (Lit.int .i64 m).wf = true := wf64 (by omega) (by omega)
  have hlt := own_new s.heap
  have hz0 := s.bl.size
  refine wp_region_M 11 [(0, true), (1, true), (2, true), (3, false), (4, false), (5, true), (6, true), (7, true)] [⟨8, 23, 24, #[.int .i64 0, .int .i64 0, .string ⟨#[]⟩]⟩, ⟨9, 24, 33, #[.string ⟨#[]⟩, .int .i64 0, .int .i64 0, .string ⟨#[]⟩, .bool false]⟩] [(10, false)] (own τ7) (by kernel_rfl) (by kernel_rfl) (by intro x hx W; simp only [List.mem_cons, List.not_mem_nil, or_false] at hx; rcases hx with rfl | rfl <;> kernel_rfl) hlt ?_
  have hR := undrewR w10
  repeat
    first
    | refine M_skip rfl (by rfl) (fun _ _ _ h => h) ?_
    | refine M_pass rfl (by rfl) (fun b hb => hlt b (Nat.le_trans hR.size hb)) fun W hBW => ?_
      replace hR := btr hR hBW
      clear hBW
    | refine M_free rfl (by rfl) ?_
      apply Exists.intro
      refine ⟨fun W hW => ?_, fun _ _ _ h => h, ?_⟩
      focus
        have hq := hW.all
        first | (go_simp; done) | (go_simp; with_reducible rfl)
    simp only [Act.put, List.setIfInBounds_toArray, List.set_cons_zero, List.set_cons_succ]
  refine M_call rfl (by rfl) (fun b hb => hlt b (Nat.le_trans hR.size hb)) fun W hBW hSW => ?_
  replace hR := btr hR hBW
  clear hBW
  refine ⟨_, _, _, by go_simp; try (repeat' apply And.intro) <;> rfl, lnum_any W m, ?_⟩
  clear hSW
  rintro e W ⟨rfl, hB⟩
  refine ⟨_, rfl, hB, ?_⟩
  replace hR := btr hR hB
  clear hB
  simp only [Act.put, List.setIfInBounds_toArray, List.set_cons_zero, List.set_cons_succ]
  refine M_callW rfl (by rfl) fun W hBW hSW => ?_
  replace hR := btr hR hBW
  clear hBW hSW
  refine ⟨_, _, _, by go_simp; try (repeat' apply And.intro) <;> rfl, Bin_does (s.heap.below hR) o1 (vnum m hmw) _ _ (.inr ⟨rfl, rfl⟩) (fun h => absurd h.1 (by decide)) (fun W hW => mul_rowsL hW o1 (vnum m hmw) r4_1 rfl (room_of 4 rfl (by decide)) (by rw [i4_1]; omega)), ?_⟩
  rw [show (vnum m hmw).n = m from rfl, mul5 zA m2]
  rintro e W5 ⟨rfl, τ8, hH, hC, hT⟩
  refine ⟨_, own τ8, rfl, hC, fun b hb' => by simp [own, hT b hb'], own_new hH, ?_⟩
  simp only [Act.put, List.setIfInBounds_toArray, List.set_cons_zero, List.set_cons_succ]
  replace s := s.bel hR
  replace x11 := x11.bel hR
  replace x11 := x11.wr hC hT
  replace s := s.wr hH hC hT
  clear hH hC hT
  clear hR hlt
  rw [V.refN_val (show (Lit.int .i64 5).wf = true by decide)]
  repeat
    first
    | refine M_skip rfl (by rfl) (fun _ _ _ h => h) ?_
    | refine M_pass rfl (by rfl) (fun b hb => hlt b (Nat.le_trans hR.size hb)) fun W hBW => ?_
      replace hR := btr hR hBW
      clear hBW
    | refine M_free rfl (by rfl) ?_
      apply Exists.intro
      refine ⟨fun W hW => ?_, fun _ _ _ h => h, ?_⟩
      focus
        have hq := hW.all
        first | (go_simp; done) | (go_simp; with_reducible rfl)
    simp only [Act.put, List.setIfInBounds_toArray, List.set_cons_zero, List.set_cons_succ]
  refine M_end2 (d1 := 23) (d2 := 24) s hz0 rfl rfl rfl rfl rfl rfl rfl rfl rfl rfl (by simp) (by simp) (by decide) (by decide) ?_
  intro w11 g23 g24 snew hC l23 l24 x23 x24
  replace x11 := lv_two x11 hC x11l l23 l24
  replace s := snew
  clear snew hC l23 l24
  simp only [Act.put, List.setIfInBounds_toArray, List.set_cons_zero, List.set_cons_succ]
  replace s : Stt w w11 τ8 hb (S5 t A B m) := s
  clear x11l x11o
  clear x11c0 x11c1 x11c2 x11f0 x11f1 x11f2
  obtain ⟨⟨x11c0, x11c1, x11c2⟩, ⟨x11f0, x11f1, x11f2⟩, x11l⟩ := factsV x11.has
  have x11o := x11.free
  have g23l := x23.has.lt
  have g24l := x24.has.lt
  replace hz0 := s.bl.size
  have hlt := own_new s.heap
  go_wp2_with fail
  refine wp_region_M 11 [(0, true), (1, true), (3, true), (2, false), (4, false), (5, true), (6, true), (7, true)] [⟨8, 25, 24, #[.int .i64 0, .int .i64 0, .string ⟨#[]⟩]⟩, ⟨9, 26, 33, #[.string ⟨#[]⟩, .int .i64 0, .int .i64 0, .string ⟨#[]⟩, .bool false]⟩] [(10, false)] (own τ8) (by kernel_rfl) (by kernel_rfl) (by intro x hx W; simp only [List.mem_cons, List.not_mem_nil, or_false] at hx; rcases hx with rfl | rfl <;> kernel_rfl) hlt ?_
  have hR := undrewR w11
  repeat
    first
    | refine M_skip rfl (by rfl) (fun _ _ _ h => h) ?_
    | refine M_pass rfl (by rfl) (fun b hb => hlt b (Nat.le_trans hR.size hb)) fun W hBW => ?_
      replace hR := btr hR hBW
      clear hBW
    | refine M_free rfl (by rfl) ?_
      apply Exists.intro
      refine ⟨fun W hW => ?_, fun _ _ _ h => h, ?_⟩
      focus
        have hq := hW.all
        first | (go_simp; done) | (go_simp; with_reducible rfl)
    simp only [Act.put, List.setIfInBounds_toArray, List.set_cons_zero, List.set_cons_succ]
  refine M_call rfl (by rfl) (fun b hb => hlt b (Nat.le_trans hR.size hb)) fun W hBW hSW => ?_
  replace hR := btr hR hBW
  clear hBW
  refine ⟨_, _, _, by go_simp; try (repeat' apply And.intro) <;> rfl, lnum_any W m, ?_⟩
  clear hSW
  rintro e W ⟨rfl, hB⟩
  refine ⟨_, rfl, hB, ?_⟩
  replace hR := btr hR hB
  clear hB
  simp only [Act.put, List.setIfInBounds_toArray, List.set_cons_zero, List.set_cons_succ]
  repeat
    first
    | refine M_skip rfl (by rfl) (fun _ _ _ h => h) ?_
    | refine M_pass rfl (by rfl) (fun b hb => hlt b (Nat.le_trans hR.size hb)) fun W hBW => ?_
      replace hR := btr hR hBW
      clear hBW
    | refine M_free rfl (by rfl) ?_
      apply Exists.intro
      refine ⟨fun W hW => ?_, fun _ _ _ h => h, ?_⟩
      focus
        have hq := hW.all
        first | (go_simp; done) | (go_simp; with_reducible rfl)
    simp only [Act.put, List.setIfInBounds_toArray, List.set_cons_zero, List.set_cons_succ]
  refine M_callW rfl (by rfl) fun W hBW hSW => ?_
  replace hR := btr hR hBW
  clear hBW hSW
  refine ⟨_, _, _, by go_simp; try (repeat' apply And.intro) <;> rfl, Bin_does (s.heap.below hR) (vnum m hmw) o1 _ _ (.inr ⟨rfl, rfl⟩) (fun h => absurd h.2 (by decide)) (fun W hW => mul_rowsR hW o1 (vnum m hmw) r5_1 rfl (room_of 5 rfl (by decide)) (by rw [i5_1]; omega)), ?_⟩
  rw [show (vnum m hmw).n = m from rfl, mul6 zA m2]
  rintro e W5 ⟨rfl, τ9, hH, hC, hT⟩
  refine ⟨_, own τ9, rfl, hC, fun b hb' => by simp [own, hT b hb'], own_new hH, ?_⟩
  simp only [Act.put, List.setIfInBounds_toArray, List.set_cons_zero, List.set_cons_succ]
  replace s := s.bel hR
  replace x11 := x11.bel hR
  replace x23 := x23.bel hR
  replace x24 := x24.bel hR
  replace x11 := x11.wr hC hT
  replace x23 := x23.wr hC hT
  replace x24 := x24.wr hC hT
  replace s := s.wr hH hC hT
  clear hH hC hT
  clear hR hlt
  rw [V.refN_val (show (Lit.int .i64 6).wf = true by decide)]
  repeat
    first
    | refine M_skip rfl (by rfl) (fun _ _ _ h => h) ?_
    | refine M_pass rfl (by rfl) (fun b hb => hlt b (Nat.le_trans hR.size hb)) fun W hBW => ?_
      replace hR := btr hR hBW
      clear hBW
    | refine M_free rfl (by rfl) ?_
      apply Exists.intro
      refine ⟨fun W hW => ?_, fun _ _ _ h => h, ?_⟩
      focus
        have hq := hW.all
        first | (go_simp; done) | (go_simp; with_reducible rfl)
    simp only [Act.put, List.setIfInBounds_toArray, List.set_cons_zero, List.set_cons_succ]
  have x23l := g23l
  have x24l := g24l
  refine M_end2 (d1 := 25) (d2 := 26) s hz0 rfl rfl rfl rfl rfl rfl rfl rfl rfl rfl (by simp) (by simp) (by decide) (by decide) ?_
  intro w12 g25 g26 snew hC l25 l26 x25 x26
  replace x11 := lv_two x11 hC x11l l25 l26
  replace x23 := lv_two x23 hC x23l l25 l26
  replace x24 := lv_two x24 hC x24l l25 l26
  replace s := snew
  clear snew hC l25 l26
  simp only [Act.put, List.setIfInBounds_toArray, List.set_cons_zero, List.set_cons_succ]
  replace s : Stt w w12 τ9 hb (S6 t A B m) := s
  clear x23l x24l g23l g24l
  clear x11l x11o
  clear x11c0 x11c1 x11c2 x11f0 x11f1 x11f2
  have hrow0 := World.ownsRow_lit (base := w12.heap.size) (size := 3) (e := 24) w12 #[] 0 (Nat.le_refl _) (by simp) rfl
  have hm5 := Lib.hid m2
  clear hn HA HB hrow hv5 m1 m2
  go_wp2_with fail
  go_loopw [27, 28] (fun o i wr => ∃ (k : Nat) (L : List V), Hid (L = (List.replicate k A).flatten) ∧ Hid (k ≤ m.toNat) ∧ L.length ≤ 8 * k ∧ i = .int .i64 k ∧ wr.ownsRow w12.heap.size 24 3 o L.length (flat L) ∧ Below w12.heap.size w12 wr) (fun _ i _ => m.toNat - (intOf i).toNat)
  case atStart => exact ⟨0, [], Lib.hid rfl, Lib.hid (Nat.zero_le _), Nat.le_refl _, rfl, hrow0, bal (b0 _) _⟩
  case round =>
    obtain ⟨k, L, HL, HK, hLb, rfl, ho, hBr⟩ := hrel
    have hk5 : k ≤ 5 := by have := HK.out; have := hm5.out; omega
    obtain ⟨ao, co, rfl⟩ := ownsRow_slice ho
    have sr := s.bel hBr
    have y11 := x11.bel hBr
    have y23 := x23.bel hBr
    have y24 := x24.bel hBr
    have y25 := x25.bel hBr
    have y26 := x26.bel hBr
    obtain ⟨⟨y11c0, y11c1, y11c2⟩, ⟨y11f0, y11f1, y11f2⟩, y11l⟩ := factsV y11.has
    have y11o := y11.free
    by_cases hlt : (k : Int) < m
    · skip
      go_wp2_with fail
      refine (Items_any sr.heap o1).mono ?_
      rintro e w14 ⟨vi, rfl, hvi, hB⟩
      rw [i6_1] at hvi
      have hvi' := RowV.ofO hvi
      have ho4 := ownsRow_same ho (fun b' hb' => hB.block b' (owns_lt ho hb'))
      have hB4 := btr hBr hB
      have s4 := hB4.size
      clear y11 y23 y24 y25 y26 sr
      clear y11c0 y11c1 y11c2 y11f0 y11f1 y11f2 y11l y11o
      go_wp2_with (at_builtin; refine wpList_app rfl _ _ rfl rfl ho4 rfl hvi' (by omega) s4 ?_; intro v' w15 ho5 hg5)
      go_roundw
      case rel => exact ⟨k + 1, L ++ A, Lib.hid (by rw [HL.out, rep_succ]), Lib.hid (by omega), by rw [List.length_append]; omega, by go_num, ho5, hB4.grown hg5 s4 (fun j hj => owns_base ho hj)⟩
      case measure => simp [intOf]; omega
    · have hLM : L = mulItems A m := by
        rw [HL.out, ← mul_rep zA hm5.out, show k = m.toNat by have := HK.out; omega]
      subst hLM
      have hwant := RowV.of_owns (ownsRow_base ho (fun _ _ => Nat.zero_le _))
      obtain ⟨⟨e240, e241, e242, e243, e244⟩, _, e24l⟩ := factsE y24.has
      obtain ⟨⟨e260, e261, e262, e263, e264⟩, _, e26l⟩ := factsE y26.has
      obtain ⟨⟨y23c0, y23c1, y23c2⟩, ⟨y23f0, y23f1, y23f2⟩, y23l⟩ := factsV y23.has
      have y23o := y23.free
      obtain ⟨⟨y25c0, y25c1, y25c2⟩, ⟨y25f0, y25f1, y25f2⟩, y25l⟩ := factsV y25.has
      have y25o := y25.free
      have zM := mul_len zA hm5.out
      clear ho hBr hrow0 s x11 x23 x24 x25 x26 hLb
      go_wp2_with fail
      refine wp_region_M 39 [(0, true), (1, false), (2, true), (3, true), (4, false), (5, true), (6, true), (7, true), (8, true), (9, true), (10, true), (11, true), (12, true), (13, true), (14, true), (15, true), (16, true), (17, true), (18, true), (20, true), (21, true), (19, false), (22, false), (23, true), (24, true), (25, true), (26, true), (27, true), (29, true), (28, false), (30, false), (31, true), (32, true), (33, true), (34, true), (36, true), (35, false), (37, false), (38, true)] [] [] (fun _ => false) (by kernel_rfl) (by kernel_rfl) (by simp) (fun _ _ => rfl) ?_
      have hR := undrewR wr
      repeat
        first
        | refine M_skip rfl (by rfl) (fun _ _ _ h => h) ?_
        | refine M_pass rfl (by rfl) (fun _ _ => rfl) fun W hBW => ?_
          replace hR := btr hR hBW
          clear hBW
        | refine M_free rfl (by rfl) ?_
          apply Exists.intro
          refine ⟨fun W hW => ?_, fun _ _ _ h => h, ?_⟩
          focus
            have hq := hW.allF
            first | (go_simp; done) | (go_simp; with_reducible rfl)
        simp only [Act.put, List.setIfInBounds_toArray, List.set_cons_zero, List.set_cons_succ]
      refine M_call rfl (by rfl) (fun _ _ => rfl) fun W hBW hSW => ?_
      replace hR := btr hR hBW
      clear hBW
      refine ⟨_, _, _, by go_simp; try (repeat' apply And.intro) <;> rfl, lnone_any W ByteArray.empty, ?_⟩
      clear hSW
      rintro e W ⟨rfl, hB⟩
      refine ⟨_, rfl, hB, ?_⟩
      replace hR := btr hR hB
      clear hB
      simp only [Act.put, List.setIfInBounds_toArray, List.set_cons_zero, List.set_cons_succ]
      repeat
        first
        | refine M_skip rfl (by rfl) (fun _ _ _ h => h) ?_
        | refine M_pass rfl (by rfl) (fun _ _ => rfl) fun W hBW => ?_
          replace hR := btr hR hBW
          clear hBW
        | refine M_free rfl (by rfl) ?_
          apply Exists.intro
          refine ⟨fun W hW => ?_, fun _ _ _ h => h, ?_⟩
          focus
            have hq := hW.allF
            first | (go_simp; done) | (go_simp; with_reducible rfl)
        simp only [Act.put, List.setIfInBounds_toArray, List.set_cons_zero, List.set_cons_succ]
      refine M_call rfl (by rfl) (fun _ _ => rfl) fun W hBW hSW => ?_
      replace hR := btr hR hBW
      clear hBW
      refine ⟨_, _, _, by go_simp; try (repeat' apply And.intro) <;> rfl, lnone_any W ByteArray.empty, ?_⟩
      clear hSW
      rintro e W ⟨rfl, hB⟩
      refine ⟨_, rfl, hB, ?_⟩
      replace hR := btr hR hB
      clear hB
      simp only [Act.put, List.setIfInBounds_toArray, List.set_cons_zero, List.set_cons_succ]
      repeat
        first
        | refine M_skip rfl (by rfl) (fun _ _ _ h => h) ?_
        | refine M_pass rfl (by rfl) (fun _ _ => rfl) fun W hBW => ?_
          replace hR := btr hR hBW
          clear hBW
        | refine M_free rfl (by rfl) ?_
          apply Exists.intro
          refine ⟨fun W hW => ?_, fun _ _ _ h => h, ?_⟩
          focus
            have hq := hW.allF
            first | (go_simp; done) | (go_simp; with_reducible rfl)
        simp only [Act.put, List.setIfInBounds_toArray, List.set_cons_zero, List.set_cons_succ]
      refine M_call rfl (by rfl) (fun _ _ => rfl) fun W hBW hSW => ?_
      replace hR := btr hR hBW
      clear hBW
      refine ⟨_, _, _, by go_simp; try (repeat' apply And.intro) <;> rfl, Kind_any (sr.heap.below hR) o5, ?_⟩
      clear hSW
      rintro e W ⟨rfl, hB⟩
      refine ⟨_, rfl, hB, ?_⟩
      replace hR := btr hR hB
      clear hB
      simp only [Act.put, List.setIfInBounds_toArray, List.set_cons_zero, List.set_cons_succ]
      rw [k6_5]
      repeat
        first
        | refine M_skip rfl (by rfl) (fun _ _ _ h => h) ?_
        | refine M_pass rfl (by rfl) (fun _ _ => rfl) fun W hBW => ?_
          replace hR := btr hR hBW
          clear hBW
        | refine M_free rfl (by rfl) ?_
          apply Exists.intro
          refine ⟨fun W hW => ?_, fun _ _ _ h => h, ?_⟩
          focus
            have hq := hW.allF
            first | (go_simp; done) | (go_simp; with_reducible rfl)
        simp only [Act.put, List.setIfInBounds_toArray, List.set_cons_zero, List.set_cons_succ]
      refine M_call rfl (by rfl) (fun _ _ => rfl) fun W hBW hSW => ?_
      replace hR := btr hR hBW
      clear hBW
      refine ⟨_, _, _, by go_simp; try (repeat' apply And.intro) <;> rfl, Kind_any (sr.heap.below hR) o1, ?_⟩
      clear hSW
      rintro e W ⟨rfl, hB⟩
      refine ⟨_, rfl, hB, ?_⟩
      replace hR := btr hR hB
      clear hB
      simp only [Act.put, List.setIfInBounds_toArray, List.set_cons_zero, List.set_cons_succ]
      rw [k6_1]
      repeat
        first
        | refine M_skip rfl (by rfl) (fun _ _ _ h => h) ?_
        | refine M_pass rfl (by rfl) (fun _ _ => rfl) fun W hBW => ?_
          replace hR := btr hR hBW
          clear hBW
        | refine M_free rfl (by rfl) ?_
          apply Exists.intro
          refine ⟨fun W hW => ?_, fun _ _ _ h => h, ?_⟩
          focus
            have hq := hW.allF
            first | (go_simp; done) | (go_simp; with_reducible rfl)
        simp only [Act.put, List.setIfInBounds_toArray, List.set_cons_zero, List.set_cons_succ]
      refine M_call rfl (by rfl) (fun _ _ => rfl) fun W hBW hSW => ?_
      replace hR := btr hR hBW
      clear hBW
      refine ⟨_, _, _, by go_simp; try (repeat' apply And.intro) <;> rfl, Items_any (sr.heap.below hR) o5, ?_⟩
      clear hSW
      rintro e W ⟨v6, rfl, hv6, hB⟩
      refine ⟨_, rfl, hB, ?_⟩
      replace hR := btr hR hB
      clear hB
      simp only [Act.put, List.setIfInBounds_toArray, List.set_cons_zero, List.set_cons_succ]
      replace hv6 := RowV.ofO hv6
      rw [i6_5] at hv6
      repeat
        first
        | refine M_skip rfl (by rfl) (fun _ _ _ h => h) ?_
        | refine M_pass rfl (by rfl) (fun _ _ => rfl) fun W hBW => ?_
          replace hR := btr hR hBW
          clear hBW
        | refine M_free rfl (by rfl) ?_
          apply Exists.intro
          refine ⟨fun W hW => ?_, fun _ _ _ h => h, ?_⟩
          focus
            have hq := hW.allF
            first | (go_simp; done) | (go_simp; with_reducible rfl)
        simp only [Act.put, List.setIfInBounds_toArray, List.set_cons_zero, List.set_cons_succ]
      refine M_call rfl (by rfl) (fun _ _ => rfl) fun W hBW hSW => ?_
      replace hR := btr hR hBW
      replace hv6 := RowV.chg (ρ := fun _ => false) hv6 (Chg.of_below hBW) (fun _ _ => rfl)
      clear hBW
      refine ⟨_, _, _, by go_simp; try (repeat' apply And.intro) <;> rfl, r12Same_any hv6 (hwant.chg (ρ := fun _ => false) (Chg.of_below hR) (fun _ _ => rfl)) (by omega), ?_⟩
      clear hSW
      rintro e W ⟨rfl, hB⟩
      refine ⟨_, rfl, hB, ?_⟩
      replace hR := btr hR hB
      clear hB
      simp only [Act.put, List.setIfInBounds_toArray, List.set_cons_zero, List.set_cons_succ]
      repeat
        first
        | refine M_skip rfl (by rfl) (fun _ _ _ h => h) ?_
        | refine M_pass rfl (by rfl) (fun _ _ => rfl) fun W hBW => ?_
          replace hR := btr hR hBW
          clear hBW
        | refine M_free rfl (by rfl) ?_
          apply Exists.intro
          refine ⟨fun W hW => ?_, fun _ _ _ h => h, ?_⟩
          focus
            have hq := hW.allF
            first | (go_simp; done) | (go_simp; with_reducible rfl)
        simp only [Act.put, List.setIfInBounds_toArray, List.set_cons_zero, List.set_cons_succ]
      refine M_call rfl (by rfl) (fun _ _ => rfl) fun W hBW hSW => ?_
      replace hR := btr hR hBW
      clear hBW
      refine ⟨_, _, _, by go_simp; try (repeat' apply And.intro) <;> rfl, Items_any (sr.heap.below hR) o6, ?_⟩
      clear hSW
      rintro e W ⟨v7, rfl, hv7, hB⟩
      refine ⟨_, rfl, hB, ?_⟩
      replace hR := btr hR hB
      clear hB
      simp only [Act.put, List.setIfInBounds_toArray, List.set_cons_zero, List.set_cons_succ]
      replace hv7 := RowV.ofO hv7
      rw [i6_6] at hv7
      repeat
        first
        | refine M_skip rfl (by rfl) (fun _ _ _ h => h) ?_
        | refine M_pass rfl (by rfl) (fun _ _ => rfl) fun W hBW => ?_
          replace hR := btr hR hBW
          clear hBW
        | refine M_free rfl (by rfl) ?_
          apply Exists.intro
          refine ⟨fun W hW => ?_, fun _ _ _ h => h, ?_⟩
          focus
            have hq := hW.allF
            first | (go_simp; done) | (go_simp; with_reducible rfl)
        simp only [Act.put, List.setIfInBounds_toArray, List.set_cons_zero, List.set_cons_succ]
      refine M_call rfl (by rfl) (fun _ _ => rfl) fun W hBW hSW => ?_
      replace hR := btr hR hBW
      replace hv7 := RowV.chg (ρ := fun _ => false) hv7 (Chg.of_below hBW) (fun _ _ => rfl)
      clear hBW
      refine ⟨_, _, _, by go_simp; try (repeat' apply And.intro) <;> rfl, r12Same_any hv7 (hwant.chg (ρ := fun _ => false) (Chg.of_below hR) (fun _ _ => rfl)) (by omega), ?_⟩
      clear hSW
      rintro e W ⟨rfl, hB⟩
      refine ⟨_, rfl, hB, ?_⟩
      replace hR := btr hR hB
      clear hB
      simp only [Act.put, List.setIfInBounds_toArray, List.set_cons_zero, List.set_cons_succ]
      repeat
        first
        | refine M_skip rfl (by rfl) (fun _ _ _ h => h) ?_
        | refine M_pass rfl (by rfl) (fun _ _ => rfl) fun W hBW => ?_
          replace hR := btr hR hBW
          clear hBW
        | refine M_free rfl (by rfl) ?_
          apply Exists.intro
          refine ⟨fun W hW => ?_, fun _ _ _ h => h, ?_⟩
          focus
            have hq := hW.allF
            first | (go_simp; done) | (go_simp; with_reducible rfl)
        simp only [Act.put, List.setIfInBounds_toArray, List.set_cons_zero, List.set_cons_succ]
      refine M_end0 fun w16 hBW hSW => ?_
      replace hR := btr hR hBW
      clear hBW
      simp only [List.drop_succ_cons, List.drop_zero]
      go_wp2
      go_ret
      exact ⟨rfl, btr sr.bl hR⟩

end Go.Proofs.YtjhfjllgjgnmeaaGreat

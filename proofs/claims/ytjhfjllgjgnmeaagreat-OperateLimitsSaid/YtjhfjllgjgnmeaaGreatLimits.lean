/- kraitlaw16.OperateLimits: true, whatever it is called with. -/
import Derived.Test.YtjhfjllgjgnmeaaGreatEnd2
import Derived.Lib.ConvBytes
namespace Go.Proofs.YtjhfjllgjgnmeaaGreat
open Go.RowKit Go.Maps
attribute [local go_sem] World.cell?_alloc_some

/-- A row of n zero values, as 'make' lays it. -/
theorem made_flat (n : Nat) : (madeCells (Value.agg #[.int .i64 0, .int .i64 0, .string ByteArray.empty]).cells (n * 3)).toList = flat (List.replicate n V.nul) := by
  apply List.ext_getElem?
  intro j
  have hsz := size_madeCells (Value.agg #[.int .i64 0, .int .i64 0, .string ByteArray.empty]).cells (n * 3)
  by_cases hj : j < n * 3
  · have hc : (Value.agg #[.int .i64 0, .int .i64 0, .string ByteArray.empty]).cells = #[.int .i64 0, .int .i64 0, .string ByteArray.empty] := rfl
    have hx : (List.replicate n V.nul)[j / 3]? = some V.nul := by rw [List.getElem?_replicate, if_pos (by omega)]
    obtain ⟨f0, f1, f2⟩ := flat_get _ _ _ hx
    rw [Array.getElem?_toList, hc]
    have hl : (madeCells #[Value.int .i64 0, .int .i64 0, .string ByteArray.empty] (n * 3))[j]? = some ((#[Value.int .i64 0, .int .i64 0, .string ByteArray.empty])[j % 3]!) := by
      simp [madeCells, hj]
    rw [hl]
    have hm : j % 3 = 0 ∨ j % 3 = 1 ∨ j % 3 = 2 := by omega
    rcases hm with hm | hm | hm
    · rw [hm]; rw [show j / 3 * 3 = j by omega] at f0; rw [f0]; rfl
    · rw [hm]; rw [show j / 3 * 3 + 1 = j by omega] at f1; rw [f1]; rfl
    · rw [hm]; rw [show j / 3 * 3 + 2 = j by omega] at f2; rw [f2]; rfl
  · rw [List.getElem?_eq_none (by rw [Array.length_toList, hsz]; omega), List.getElem?_eq_none (by rw [flat_length, List.length_replicate]; omega)]

/-- 'make([]api.Value, n)' at the operation. -/
theorem wpList_makeVs {ops : Array Oper} {rest : List Oper} {o : Oper} {a : Act} {Q : Exit → Act → World → Prop} (w : World)
    (hg : o.guard = Option.none) (l c : Operand) (hop : o.op = Op.makeSlice 59 l c) (n : Nat) (hl : a.eval l = .int .i64 (n : Int)) (hc : a.eval c = .int .i64 (n : Int)) (hn : n ≤ 100000)
    (hK : ∀ w', w'.ownsRow w.heap.size 24 3 (.slice (some ⟨w.heap.size, 0, Option.none⟩) n n) (List.replicate n V.nul).length (flat (List.replicate n V.nul)) → Below w.heap.size w w' → wpList Tryz.prog ops Q rest (a.put o.dst (.slice (some ⟨w.heap.size, 0, Option.none⟩) n n)) w') :
    wpList Tryz.prog ops Q (o :: rest) a w := by
  obtain ⟨i0, hi, hz0, hz1, hz2⟩ := info_parts infoV
  refine wpList_make_full w hg l c 59 hop w.heap.size 24 i0 _ 3 Tryz.underlying59 hi hz0 hz1 .i64 .i64 _ _ n hl hc rfl rfl (by rw [hz2]; omega) (by unfold maxLen; omega) (Nat.le_refl _) ?_
  intro w' ho hgr
  exact hK w' (by rw [List.length_replicate, ← made_flat]; exact ho) ⟨hgr.os, hgr.tape, hgr.output, hgr.size, fun b hb => hgr.block b hb (fun e => by cases e)⟩

/-- The same in a region. -/
theorem run_makeVs (w : World) (n : Nat) (hn : n ≤ 100000) : ∃ w', (Instr.makeSlice 59 (.int .i64 (n : Int)) (.int .i64 (n : Int))).run Tryz.prog w = .ok (.slice (some ⟨w.heap.size, 0, Option.none⟩) n n) w' ∧
    w'.ownsRow w.heap.size 24 3 (.slice (some ⟨w.heap.size, 0, Option.none⟩) n n) (List.replicate n V.nul).length (flat (List.replicate n V.nul)) ∧ Below w.heap.size w w' := by
  obtain ⟨i0, hi, hz0, hz1, hz2⟩ := info_parts infoV
  obtain ⟨w', h1, h2, h3⟩ := run_make_full (P := Tryz.prog) w w.heap.size 59 24 i0 _ 3 Tryz.underlying59 hi hz0 hz1 .i64 .i64 n (by rw [hz2]; omega) (by unfold maxLen; omega) (Nat.le_refl _)
  exact ⟨w', h1, by rw [List.length_replicate, ← made_flat]; exact h2, ⟨h3.os, h3.tape, h3.output, h3.size, fun b hb => h3.block b hb (fun e => by cases e)⟩⟩

/-! ### How many -/
theorem rep_rep (n k : Nat) (v : V) : (List.replicate n (List.replicate k v)).flatten = List.replicate (n * k) v := by
  apply List.ext_getElem?
  intro j
  induction n generalizing j with
  | zero => simp
  | succ n ih =>
    rw [List.replicate_succ, List.flatten_cons, List.getElem?_append, List.length_replicate]
    split
    · rw [List.getElem?_replicate, List.getElem?_replicate, if_pos (by assumption), if_pos (by rw [Nat.add_mul]; omega)]
    · rw [ih, List.getElem?_replicate, List.getElem?_replicate]
      congr 1
      rw [Nat.add_mul]
      simp only [eq_iff_iff]
      omega

def rowN (k : Nat) : List V := List.replicate k V.nul
theorem mul_fits {k t : Nat} (hk : 0 < k) (hf : t * k ≤ 4096) : mulItems (rowN k) t = rowN (t * k) := by
  unfold mulItems rowN
  have h1 : t ≤ 4096 / k := by rw [Nat.le_div_iff_mul_le hk]; exact hf
  have h2 : mulCount (List.replicate k V.nul) t = t := by
    unfold mulCount
    rw [List.length_replicate, if_neg (by omega), Int.toNat_natCast]
    omega
  rw [h2, rep_rep]
theorem mul_over {k : Nat} {t : Int} (hk : 0 < k) (hf : 4096 < t * k) : 4096 < (mulItems (rowN k) t).length := by
  rw [mulItems, rep_length]
  unfold rowN
  rw [List.length_replicate]
  have hlt := Nat.lt_mul_div_succ 4096 hk
  have h2 : mulCount (List.replicate k V.nul) t = 4096 / k + 1 := by
    unfold mulCount
    rw [List.length_replicate, if_neg (by omega)]
    have h3 : ¬ t ≤ ((4096 / k : Nat) : Int) := fun h => by
      have h4 : t * k ≤ ((4096 / k : Nat) : Int) * k := Int.mul_le_mul_of_nonneg_right h (by omega)
      have h5 : ((4096 / k : Nat) : Int) * k ≤ 4096 := by
        have := Nat.div_mul_le_self 4096 k
        rw [← Int.natCast_mul]
        omega
      omega
    omega
  rw [h2, Nat.mul_comm]
  exact hlt

/-! ### The heaps -/
def L1 (k : Nat) : PH := PH.empty.made 1 ByteArray.empty 0 (rowN k)
section
variable {k : Nat}
theorem L1_1 : (L1 k).obj 1 = some ⟨1, ByteArray.empty, 0, rowN k, []⟩ := rfl
theorem rowN_len (k : Nat) : (rowN k).length = k := List.length_replicate
end

/-- What is known behind the first product. -/
structure After (k T : Nat) (v : V) (x : Ex) (H : PH) : Prop where
  row1 : H.row o1 = true
  it1 : H.items o1 = rowN k
  last : H.last ≤ 2
  name : x = if T * k ≤ 4096 then Ex.none else Ex.raise memErr
  items : T * k ≤ 4096 → H.items v = rowN (T * k)
  row : T * k ≤ 4096 → H.row v = true
  kind : T * k ≤ 4096 → H.kind v = 1
  old : ∀ H' : PH, Ext H H' → (H'.row o1 = true ∧ H'.items o1 = rowN k) ∧ (T * k ≤ 4096 → H'.items v = rowN (T * k) ∧ H'.row v = true ∧ H'.kind v = 1)

theorem after1 {k T : Nat} (hk : 0 < k) : After k T (mulRowS (L1 k) o1 T).1 (mulRowS (L1 k) o1 T).2.1 (mulRowS (L1 k) o1 T).2.2 := by
  have e1 : (L1 k).items o1 = rowN k := items_obj L1_1
  have e2 : (L1 k).kind o1 = 1 := kind_obj L1_1
  unfold mulRowS freshS
  rw [e1, e2]
  by_cases hf : T * k ≤ 4096
  · rw [mul_fits hk hf, rowN_len, if_neg (by omega)]
    have h1 : ((L1 k).made 1 ByteArray.empty 0 (rowN (T * k))).obj 1 = some ⟨1, ByteArray.empty, 0, rowN k, []⟩ := rfl
    have h2 : ((L1 k).made 1 ByteArray.empty 0 (rowN (T * k))).obj 2 = some ⟨1, ByteArray.empty, 0, rowN (T * k), []⟩ := rfl
    have hv : V.refN ((L1 k).last + 1) = o2 := V.refN_eq (show (Lit.int .i64 2).wf = true by decide)
    simp only [hv]
    exact ⟨row_obj h1 (.inl rfl), items_obj h1, Int.le_refl 2, by rw [if_pos hf], fun _ => items_obj h2, fun _ => row_obj h2 (.inl rfl), fun _ => kind_obj h2,
      fun H' hH => ⟨⟨row_obj ((hH.2 1 (show (1 : Int) ≤ 2 by decide)).trans h1) (.inl rfl), items_obj ((hH.2 1 (show (1 : Int) ≤ 2 by decide)).trans h1)⟩, fun _ => ⟨items_obj ((hH.2 2 (show (2 : Int) ≤ 2 by decide)).trans h2), row_obj ((hH.2 2 (show (2 : Int) ≤ 2 by decide)).trans h2) (.inl rfl), kind_obj ((hH.2 2 (show (2 : Int) ≤ 2 by decide)).trans h2)⟩⟩⟩
  · rw [if_pos (mul_over hk (by omega))]
    exact ⟨row_obj L1_1 (.inl rfl), e1, show (1 : Int) ≤ 2 by decide, by rw [if_neg hf], fun h => absurd h hf, fun h => absurd h hf, fun h => absurd h hf,
      fun H' hH => ⟨⟨row_obj ((hH.2 1 (show (1 : Int) ≤ 1 by decide)).trans L1_1) (.inl rfl), items_obj ((hH.2 1 (show (1 : Int) ≤ 1 by decide)).trans L1_1)⟩, fun h => absurd h hf⟩⟩

/-! ### A long text -/
def aV (N : Nat) (h : N ≤ 66000) : V := ⟨3, 0, ⟨(List.replicate N (97 : UInt8)).toArray⟩, by decide, by decide, by show (List.replicate N (97 : UInt8)).toArray.size ≤ maxLen; simp [maxLen]; omega⟩
theorem aV_size (N : Nat) (h : N ≤ 66000) : (aV N h).s.size = N := by show (List.replicate N (97 : UInt8)).toArray.size = N; simp
theorem quote_as (N : Nat) : quoteS (List.replicate N (97 : UInt8)) = [39] ++ List.replicate N 97 ++ [39] := by
  unfold quoteS
  congr 2
  induction N with
  | zero => rfl
  | succ n ih => rw [List.replicate_succ, List.flatMap_cons, ih]; rfl
theorem aV_plain (N : Nat) (h : N ≤ 66000) : plainS (aV N h) = [39] ++ List.replicate N 97 ++ [39] := by
  rw [← quote_as]
  rfl
theorem aV_repr (H : PH) (N : Nat) (h : N ≤ 66000) : reprS H (aV N h) = if 65536 < N + 2 then ⟨[], memErr⟩ else ⟨[39] ++ List.replicate N 97 ++ [39], ByteArray.empty⟩ := by
  have hw : H.whole (aV N h) = false := by unfold PH.whole PH.row PH.kind PH.of aV; rfl
  rw [reprS, tellS, if_neg (by simp), if_pos hw, aV_plain, sayS, if_neg (by simp)]
  simp
theorem aV_ok (H : PH) (N : Nat) (h : N ≤ 66000) : TellOk H 30 (aV N h) := .inr ⟨by unfold PH.whole PH.row PH.kind PH.of aV; rfl, by show (0 : Int) ≤ 3; decide, by show (3 : Int) ≤ 3; decide, by rw [aV_size]; exact h⟩

theorem made_bytes (N : Nat) : (madeCells (Value.int .u8 0).cells (N * 1)).toList = Lib.byteCells (List.replicate 0 (97 : UInt8) ++ List.replicate (N - 0) 0) := by
  rw [Nat.mul_one, show (Value.int .u8 0).cells = #[Value.int .u8 0] from rfl, toList_madeCells_one]
  simp [Lib.byteCells]

theorem fill_set (N j : Nat) (h : j < N) : (Lib.byteCells (List.replicate j (97 : UInt8) ++ List.replicate (N - j) 0)).set j (.int .u8 97) = Lib.byteCells (List.replicate (j + 1) (97 : UInt8) ++ List.replicate (N - (j + 1)) 0) := by
  unfold Lib.byteCells
  rw [show (Value.int .u8 97) = (fun b : UInt8 => Value.int .u8 b.toNat) 97 from rfl, ← List.map_set]
  congr 1
  rw [List.set_append_right _ _ (by simp), List.length_replicate, Nat.sub_self, show N - j = (N - (j + 1)) + 1 by omega, List.replicate_succ, List.set_cons_zero, List.replicate_succ']
  simp

set_option maxRecDepth 100000 in
set_option maxHeartbeats 6400000 in
theorem limits_any {w : World} (n m : Int) (hn : 0 ≤ n ∧ n ≤ 255) (hm : 0 ≤ m ∧ m ≤ 255) :
    Calls Tryz.prog 7 #[.int .u8 n, .int .u8 m] w fun e w' => e = .returned (.bool true) ∧ Below w.heap.size w w' := by
  obtain ⟨k, hk⟩ : ∃ k : Nat, 1 + n % 64 = (k : Int) := ⟨(1 + n % 64).toNat, by omega⟩
  have hk1 : 1 ≤ k := by omega
  have hk2 : k ≤ 64 := by omega
  obtain ⟨hn1, hn2⟩ := hn
  obtain ⟨hm1, hm2⟩ := hm
  obtain ⟨i0, hi, hz0', hz1, hz2⟩ := info_parts infoU8
  obtain ⟨lg, hlg⟩ : ∃ lg : Nat, 65521 + m % 31 = (lg : Int) := ⟨(65521 + m % 31).toNat, by omega⟩
  obtain ⟨N, hN⟩ : ∃ N : Nat, (lg : Int) - 2 = (N : Int) := ⟨lg - 2, by omega⟩
  have HN2 := Lib.hid (show N + 2 = lg by omega)
  have hlb : lg ≤ 65551 := by omega
  go_enter Tryz.func7, Tryz.ntmps7
  go_wp2_with fail
  refine (shown_any w).mono ?_
  rintro e w1 ⟨rfl, hB1⟩
  go_wp2_with fail
  refine (heapNew_any w1).mono ?_
  rintro e w2 ⟨τ, hb, rfl, hH, hB2, hown⟩
  have s : Stt w w2 τ hb PH.empty := ⟨btr hB1 hB2, hH, fun b hb' => Nat.le_trans hB1.size (hown b hb')⟩
  clear hH hB1 hB2 hown
  go_wp2_with (refine wpList_makeVs _ rfl _ _ rfl k rfl rfl (by omega) ?_; intro w3 hrow hB)
  replace s := s.bel hB
  refine (Make_any s.heap 1 ByteArray.empty 0 _ (rowN k) (by decide) (RowV.ofO hrow) (by rw [rowN_len]; omega) (room_of 0 rfl (by decide))).mono ?_
  rintro e w4 ⟨rfl, τ4, hH, hC, hT⟩
  replace s := s.wr hH hC hT
  clear hH hC hT hrow hB
  rw [show PH.empty.last + 1 = 1 from rfl]
  rw [show PH.empty.made 1 ByteArray.empty 0 (rowN k) = L1 k from rfl] at s
  have x8 := Lv.new s #[.int .i64 4, .int .i64 1, .string ByteArray.empty] 24
  replace s := s.alloc (.cells #[.int .i64 4, .int .i64 1, .string ByteArray.empty] 24)
  have q1 : 64 ≤ 4096 / k := by rw [Nat.le_div_iff_mul_le (by omega)]; omega
  have q2 : 4096 / k ≤ 4096 := Nat.div_le_self _ _
  have q3 : (4096 : Int) / (k : Int) = ((4096 / k : Nat) : Int) := by simp
  obtain ⟨q, hq⟩ : ∃ q, q = 4096 / k := ⟨_, rfl⟩
  rw [← hq] at q1 q2 q3
  have Hq := Lib.hid hq
  clear hq
  obtain ⟨T, hT⟩ : ∃ T : Nat, (q : Int) - 3 + m % 7 = (T : Int) := ⟨((q : Int) - 3 + m % 7).toNat, by omega⟩
  have t1 : 61 ≤ T := by omega
  have t2 : T ≤ 4099 := by omega
  obtain ⟨⟨x8c0, x8c1, x8c2⟩, ⟨x8f0, x8f1, x8f2⟩, x8l⟩ := factsV x8.has
  have x8o := x8.free
  go_wp2_with fail
  generalize w4.alloc (.cells #[.int .i64 4, .int .i64 1, .string ByteArray.empty] 24) = w5 at *
  have hlt := own_new s.heap
  have hz0 := s.bl.size
  have hTw : (Lit.int .i64 (T : Int)).wf = true := wf64 (by omega) (by omega)
  have hMw : (Lit.int .i64 9223372036854775807).wf = true := by decide
  have hAf := after1 (k := k) (T := T) (by omega)
  refine wp_region_M 11 [(0, true), (1, true), (2, true), (3, false), (4, false), (5, true), (6, true), (7, true)] [⟨8, 10, 24, #[.int .i64 0, .int .i64 0, .string ⟨#[]⟩]⟩, ⟨9, 11, 33, #[.string ⟨#[]⟩, .int .i64 0, .int .i64 0, .string ⟨#[]⟩, .bool false]⟩] [(10, false)] (own τ4) (by kernel_rfl) (by kernel_rfl) (by intro x hx W; simp only [List.mem_cons, List.not_mem_nil, or_false] at hx; rcases hx with rfl | rfl <;> kernel_rfl) hlt ?_
  have hR := undrewR w5
  repeat
    first
    | refine M_skip rfl (by rfl) (fun _ _ _ h => h) ?_
    | refine M_pass rfl (by rfl) (fun b hb => hlt b (Nat.le_trans hR.size hb)) fun W hBW => ?_
      replace hR := btr hR hBW
      clear hBW
    | refine M_free rfl (by rfl) ?_
      apply Exists.intro
      refine ⟨fun W hW => ?_, fun _ _ _ h => h, ?_⟩
      focus
        have hq := hW.all
        first | (go_simp; done) | (go_simp; with_reducible rfl)
    simp only [Act.put, List.setIfInBounds_toArray, List.set_cons_zero, List.set_cons_succ]
  refine M_call rfl (by rfl) (fun b hb => hlt b (Nat.le_trans hR.size hb)) fun W hBW hSW => ?_
  replace hR := btr hR hBW
  clear hBW
  refine ⟨_, _, _, by go_simp; try (repeat' apply And.intro) <;> rfl, lnum_any W T, ?_⟩
  clear hSW
  rintro e W ⟨rfl, hB⟩
  refine ⟨_, rfl, hB, ?_⟩
  replace hR := btr hR hB
  clear hB
  simp only [Act.put, List.setIfInBounds_toArray, List.set_cons_zero, List.set_cons_succ]
  refine M_callW rfl (by rfl) fun W hBW hSW => ?_
  replace hR := btr hR hBW
  clear hBW hSW
  refine ⟨_, _, _, by go_simp; try (repeat' apply And.intro) <;> rfl, Bin_does (s.heap.below hR) o1 (vnum T hTw) _ _ (.inr ⟨rfl, rfl⟩) (fun h => absurd h.1 (by decide)) (fun W hW => mul_rowsL hW o1 (vnum T hTw) (row_obj L1_1 (.inl rfl)) rfl (room_of 1 rfl (by decide)) (by rw [show (L1 k).items o1 = rowN k from items_obj L1_1, rowN_len]; omega)), ?_⟩
  rw [show (vnum T hTw).n = T from rfl]
  obtain ⟨v10, e11, H2, hres⟩ : ∃ v x H, mulRowS (L1 k) o1 T = (v, x, H) := ⟨_, _, _, rfl⟩
  rw [hres] at hAf ⊢
  clear hres
  rintro e W5 ⟨rfl, τ5, hH, hC, hT'⟩
  refine ⟨_, own τ5, rfl, hC, fun b hb' => by simp [own, hT' b hb'], own_new hH, ?_⟩
  simp only [Act.put, List.setIfInBounds_toArray, List.set_cons_zero, List.set_cons_succ]
  replace s := s.bel hR
  replace x8 := x8.bel hR
  replace x8 := x8.wr hC hT'
  replace s := s.wr hH hC hT'
  clear hH hC hT'
  clear hR hlt
  repeat
    first
    | refine M_skip rfl (by rfl) (fun _ _ _ h => h) ?_
    | refine M_pass rfl (by rfl) (fun b hb => hlt b (Nat.le_trans hR.size hb)) fun W hBW => ?_
      replace hR := btr hR hBW
      clear hBW
    | refine M_free rfl (by rfl) ?_
      apply Exists.intro
      refine ⟨fun W hW => ?_, fun _ _ _ h => h, ?_⟩
      focus
        have hq := hW.all
        first | (go_simp; done) | (go_simp; with_reducible rfl)
    simp only [Act.put, List.setIfInBounds_toArray, List.set_cons_zero, List.set_cons_succ]
  refine M_end2 (d1 := 10) (d2 := 11) s hz0 rfl rfl rfl rfl rfl rfl rfl rfl rfl rfl (by simp) (by simp) (by decide) (by decide) ?_
  intro w6 g10 g11 snew hC l10 l11 x10 x11
  replace x8 := lv_two x8 hC x8l l10 l11
  replace s := snew
  clear snew hC l10 l11
  simp only [Act.put, List.setIfInBounds_toArray, List.set_cons_zero, List.set_cons_succ]
  replace s : Stt w w6 τ5 hb H2 := s
  replace hAf : After k T v10 e11 H2 := hAf
  obtain ⟨P, hP⟩ : ∃ P : Nat, P = T * k := ⟨_, rfl⟩
  have hPk : (T : Int) * (k : Int) = (P : Int) := by rw [hP, Int.natCast_mul]
  have hPl : 61 ≤ P := by rw [hP]; exact Nat.le_trans (by decide) (Nat.mul_le_mul t1 hk1)
  have hPb : P ≤ 262336 := by rw [hP]; exact Nat.le_trans (Nat.mul_le_mul t2 hk2) (by decide)
  obtain ⟨nm, hnm⟩ : ∃ nm, nm = if P ≤ 4096 then ByteArray.empty else memErr := ⟨_, rfl⟩
  obtain rfl : e11 = Ex.raise nm := by
    rw [hAf.name, hnm, hP]
    by_cases h : T * k ≤ 4096
    · rw [if_pos h, if_pos h]; rfl
    · rw [if_neg h, if_neg h]
  have HP := Lib.hid hP
  have HN := Lib.hid hnm
  have HL := Lib.hid hAf.last
  clear hP hnm hTw
  clear x8l x8o x8c0 x8c1 x8c2 x8f0 x8f1 x8f2
  obtain ⟨⟨x8c0, x8c1, x8c2⟩, ⟨x8f0, x8f1, x8f2⟩, x8l⟩ := factsV x8.has
  have x8o := x8.free
  have g10l := x10.has.lt
  have g11l := x11.has.lt
  replace hz0 := s.bl.size
  have hlt := own_new s.heap
  have hroom : H2.room := by have := HL.out; unfold PH.room; omega
  have hmax : mulRowS H2 o1 9223372036854775807 = (V.nul, Ex.raise memErr, H2) := by
    unfold mulRowS freshS
    rw [hAf.it1, if_pos (mul_over (by omega) (by omega))]
  go_wp2_with fail
  refine wp_region_M 10 [(0, true), (1, true), (2, false), (3, false), (4, true), (5, true), (6, true)] [⟨7, 13, 24, #[.int .i64 0, .int .i64 0, .string ⟨#[]⟩]⟩, ⟨8, 14, 33, #[.string ⟨#[]⟩, .int .i64 0, .int .i64 0, .string ⟨#[]⟩, .bool false]⟩] [(9, false)] (own τ5) (by kernel_rfl) (by kernel_rfl) (by intro x hx W; simp only [List.mem_cons, List.not_mem_nil, or_false] at hx; rcases hx with rfl | rfl <;> kernel_rfl) hlt ?_
  have hR := undrewR w6
  repeat
    first
    | refine M_skip rfl (by rfl) (fun _ _ _ h => h) ?_
    | refine M_pass rfl (by rfl) (fun b hb => hlt b (Nat.le_trans hR.size hb)) fun W hBW => ?_
      replace hR := btr hR hBW
      clear hBW
    | refine M_free rfl (by rfl) ?_
      apply Exists.intro
      refine ⟨fun W hW => ?_, fun _ _ _ h => h, ?_⟩
      focus
        have hq := hW.all
        first | (go_simp; done) | (go_simp; with_reducible rfl)
    simp only [Act.put, List.setIfInBounds_toArray, List.set_cons_zero, List.set_cons_succ]
  refine M_call rfl (by rfl) (fun b hb => hlt b (Nat.le_trans hR.size hb)) fun W hBW hSW => ?_
  replace hR := btr hR hBW
  clear hBW
  refine ⟨_, _, _, by go_simp; try (repeat' apply And.intro) <;> rfl, lnum_any W 9223372036854775807, ?_⟩
  clear hSW
  rintro e W ⟨rfl, hB⟩
  refine ⟨_, rfl, hB, ?_⟩
  replace hR := btr hR hB
  clear hB
  simp only [Act.put, List.setIfInBounds_toArray, List.set_cons_zero, List.set_cons_succ]
  refine M_callW rfl (by rfl) fun W hBW hSW => ?_
  replace hR := btr hR hBW
  clear hBW hSW
  refine ⟨_, _, _, by go_simp; try (repeat' apply And.intro) <;> rfl, Bin_does (s.heap.below hR) o1 (vnum 9223372036854775807 hMw) _ _ (.inr ⟨rfl, rfl⟩) (fun h => absurd h.1 (by decide)) (fun W hW => mul_rowsL hW o1 (vnum 9223372036854775807 hMw) hAf.row1 rfl hroom (by rw [hAf.it1, rowN_len]; omega)), ?_⟩
  rw [show (vnum 9223372036854775807 hMw).n = 9223372036854775807 from rfl, hmax]
  rintro e W5 ⟨rfl, τ6, hH, hC, hT'⟩
  refine ⟨_, own τ6, rfl, hC, fun b hb' => by simp [own, hT' b hb'], own_new hH, ?_⟩
  simp only [Act.put, List.setIfInBounds_toArray, List.set_cons_zero, List.set_cons_succ]
  replace s := s.bel hR
  replace x8 := x8.bel hR
  replace x10 := x10.bel hR
  replace x11 := x11.bel hR
  replace x8 := x8.wr hC hT'
  replace x10 := x10.wr hC hT'
  replace x11 := x11.wr hC hT'
  replace s := s.wr hH hC hT'
  clear hH hC hT'
  clear hR hlt hmax
  repeat
    first
    | refine M_skip rfl (by rfl) (fun _ _ _ h => h) ?_
    | refine M_pass rfl (by rfl) (fun b hb => hlt b (Nat.le_trans hR.size hb)) fun W hBW => ?_
      replace hR := btr hR hBW
      clear hBW
    | refine M_free rfl (by rfl) ?_
      apply Exists.intro
      refine ⟨fun W hW => ?_, fun _ _ _ h => h, ?_⟩
      focus
        have hq := hW.all
        first | (go_simp; done) | (go_simp; with_reducible rfl)
    simp only [Act.put, List.setIfInBounds_toArray, List.set_cons_zero, List.set_cons_succ]
  have x10l := g10l
  have x11l := g11l
  refine M_end2 (d1 := 13) (d2 := 14) s hz0 rfl rfl rfl rfl rfl rfl rfl rfl rfl rfl (by simp) (by simp) (by decide) (by decide) ?_
  intro w7 g13 g14 snew hC l13 l14 x13 x14
  replace x8 := lv_two x8 hC x8l l13 l14
  replace x10 := lv_two x10 hC x10l l13 l14
  replace x11 := lv_two x11 hC x11l l13 l14
  replace s := snew
  clear snew hC l13 l14
  simp only [Act.put, List.setIfInBounds_toArray, List.set_cons_zero, List.set_cons_succ]
  replace s : Stt w w7 τ6 hb H2 := s
  clear x10l x11l g10l g11l
  clear x8l x8o x8c0 x8c1 x8c2 x8f0 x8f1 x8f2
  clear hMw hroom x13
  have hew : (Lit.int .i64 (H2.last + 1)).wf = true := refN_wf s.heap (by have := HL.out; unfold PH.room; omega)
  have hMw : (Lit.int .i64 9223372036854775807).wf = true := by decide
  go_wp2_with fail
  refine (Make_any s.heap 1 ByteArray.empty 0 _ [] (by decide) (.inl ⟨rfl, .inl rfl⟩) (by simp) (by have := HL.out; omega)).mono ?_
  rintro e w8 ⟨rfl, τ7, hH, hC, hT'⟩
  replace x8 := x8.wr hC hT'
  replace x10 := x10.wr hC hT'
  replace x11 := x11.wr hC hT'
  replace x14 := x14.wr hC hT'
  replace s := s.wr hH hC hT'
  clear hH hC hT'
  go_wp2_with fail
  refine (lnum_any _ 9223372036854775807).mono ?_
  rintro e w9 ⟨rfl, hB⟩
  replace s := s.bel hB
  replace x8 := x8.bel hB
  replace x10 := x10.bel hB
  replace x11 := x11.bel hB
  replace x14 := x14.bel hB
  clear hB
  obtain ⟨H3, hH3⟩ : ∃ H3, H3 = H2.made 1 ByteArray.empty 0 [] := ⟨_, rfl⟩
  rw [← hH3] at s
  have hr3 : H3.row (V.ref (H2.last + 1) hew) = true := by rw [hH3]; exact row_obj (made_new H2 1 ByteArray.empty 0 []) (.inl rfl)
  have hi3 : H3.items (V.ref (H2.last + 1) hew) = [] := by rw [hH3]; exact items_obj (made_new H2 1 ByteArray.empty 0 [])
  have hk3 : H3.kind (V.ref (H2.last + 1) hew) = 1 := by rw [hH3]; exact kind_obj (made_new H2 1 ByteArray.empty 0 [])
  have hl3 : H3.last ≤ 3 := by rw [hH3]; have := HL.out; show H2.last + 1 ≤ 3; omega
  have hw4 : (Lit.int .i64 (H3.last + 1)).wf = true := refN_wf s.heap (by unfold PH.room; omega)
  have hmul3 : mulRowS H3 (V.ref (H2.last + 1) hew) 9223372036854775807 = (V.ref (H3.last + 1) hw4, Ex.none, H3.made 1 ByteArray.empty 0 []) := by
    unfold mulRowS freshS
    rw [hi3, hk3, show mulItems [] 9223372036854775807 = [] from rfl, if_neg (by simp), V.refN_eq hw4]
  have HL3 := Lib.hid hl3
  clear hl3
  go_wp2_with fail
  refine (Bin_does s.heap (V.ref (H2.last + 1) hew) (vnum 9223372036854775807 hMw) _ _ (.inr ⟨rfl, rfl⟩) (fun h => absurd h.1 (show ¬ (4 : Int) = 2 by decide)) (fun W hW => mul_rowsL hW (V.ref (H2.last + 1) hew) (vnum 9223372036854775807 hMw) hr3 rfl (by have := HL3.out; unfold PH.room; omega) (by rw [hi3]; simp))).mono ?_
  rw [show (vnum 9223372036854775807 hMw).n = 9223372036854775807 from rfl, hmul3]
  rintro e w10 ⟨rfl, τ8, hH, hC, hT'⟩
  replace hH : HeapAt w10 τ8 hb (H3.made 1 ByteArray.empty 0 []) := hH
  replace x8 := x8.wr hC hT'
  replace x10 := x10.wr hC hT'
  replace x11 := x11.wr hC hT'
  replace x14 := x14.wr hC hT'
  replace s := s.wr hH hC hT'
  clear hH hC hT'
  obtain ⟨v15, hv15⟩ : ∃ v15, v15 = V.ref (H3.last + 1) hw4 := ⟨_, rfl⟩
  obtain ⟨H4, hH4⟩ : ∃ H4, H4 = H3.made 1 ByteArray.empty 0 [] := ⟨_, rfl⟩
  rw [← hv15]
  rw [← hH4] at s
  have hi15 : H4.items v15 = [] := by rw [hv15, hH4]; exact items_obj (made_new H3 1 ByteArray.empty 0 [])
  have hl4 : H4.last ≤ 4 := by rw [hH4]; have := HL3.out; show H3.last + 1 ≤ 4; omega
  have hE4 : Ext H2 H4 := by rw [hH4, hH3]; exact (Ext.made _ _ _ _ _).trans (Ext.made _ _ _ _ _)
  have HE := Lib.hid hE4
  have HA := Lib.hid hAf
  have hA4 := hAf.old H4 hE4
  have HL4 := Lib.hid hl4
  have HA4 := Lib.hid hA4
  clear hl4 hA4 hE4 hH4 hv15 hmul3 hr3 hi3 hk3 hH3 HL3 hAf HL hw4 hew hMw
  obtain ⟨x15, x16, hB⟩ := Lv.two s #[.int .i64 v15.k, .int .i64 v15.n, .string v15.s] Ex.none.cells 24 33
  replace s := s.bel hB
  replace x8 := x8.bel hB
  replace x10 := x10.bel hB
  replace x11 := x11.bel hB
  replace x14 := x14.bel hB
  clear hB
  obtain ⟨⟨x10c0, x10c1, x10c2⟩, ⟨x10f0, x10f1, x10f2⟩, x10l⟩ := factsV x10.has
  have x10o := x10.free
  obtain ⟨⟨x11c0, x11c1, x11c2, x11c3, x11c4⟩, ⟨x11f0, x11f1, x11f2, x11f3, x11f4⟩, x11l⟩ := factsE x11.has
  have x11o := x11.free
  obtain ⟨⟨x14c0, x14c1, x14c2, x14c3, x14c4⟩, ⟨x14f0, x14f1, x14f2, x14f3, x14f4⟩, x14l⟩ := factsE x14.has
  have x14o := x14.free
  obtain ⟨⟨x15c0, x15c1, x15c2⟩, ⟨x15f0, x15f1, x15f2⟩, x15l⟩ := factsV x15.has
  have x15o := x15.free
  obtain ⟨⟨x16c0, x16c1, x16c2, x16c3, x16c4⟩, ⟨x16f0, x16f1, x16f2, x16f3, x16f4⟩, x16l⟩ := factsE x16.has
  have x16o := x16.free
  by_cases hf : P ≤ 4096
  case' pos =>
    obtain rfl : nm = ByteArray.empty := by rw [HN.out, if_pos hf]
    have hd : decide ((P : Int) ≤ 4096) = true := decide_eq_true (by omega)
    go_wp2_with fail
    refine (lnone_any _ ByteArray.empty).mono ?_
    rintro e w12 ⟨rfl, hB⟩
    clear x10c0 x10c1 x10c2 x10f0 x10f1 x10f2 x10l x10o x11c0 x11c1 x11c2 x11c3 x11c4 x11f0 x11f1 x11f2 x11f3 x11f4 x11l x11o x14c0 x14c1 x14c2 x14c3 x14c4 x14f0 x14f1 x14f2 x14f3 x14f4 x14l x14o x15c0 x15c1 x15c2 x15f0 x15f1 x15f2 x15l x15o x16c0 x16c1 x16c2 x16c3 x16c4 x16f0 x16f1 x16f2 x16f3 x16f4 x16l x16o
    replace s := s.bel hB
    replace x10 := x10.bel hB
    replace x11 := x11.bel hB
    replace x14 := x14.bel hB
    replace x15 := x15.bel hB
    replace x16 := x16.bel hB
    clear hB
    obtain ⟨⟨x10c0, x10c1, x10c2⟩, ⟨x10f0, x10f1, x10f2⟩, x10l⟩ := factsV x10.has
    have x10o := x10.free
    obtain ⟨⟨x11c0, x11c1, x11c2, x11c3, x11c4⟩, ⟨x11f0, x11f1, x11f2, x11f3, x11f4⟩, x11l⟩ := factsE x11.has
    have x11o := x11.free
    obtain ⟨⟨x14c0, x14c1, x14c2, x14c3, x14c4⟩, ⟨x14f0, x14f1, x14f2, x14f3, x14f4⟩, x14l⟩ := factsE x14.has
    have x14o := x14.free
    obtain ⟨⟨x15c0, x15c1, x15c2⟩, ⟨x15f0, x15f1, x15f2⟩, x15l⟩ := factsV x15.has
    have x15o := x15.free
    obtain ⟨⟨x16c0, x16c1, x16c2, x16c3, x16c4⟩, ⟨x16f0, x16f1, x16f2, x16f3, x16f4⟩, x16l⟩ := factsE x16.has
    have x16o := x16.free
    go_wp2_with fail
    refine (Len_any s.heap v10).mono ?_
    rintro e w13 ⟨rfl, hB⟩
    rw [((HA4.out.2 (by rw [← HP.out]; exact hf)).1), rowN_len, ← HP.out]
    clear x10c0 x10c1 x10c2 x10f0 x10f1 x10f2 x10l x10o x14c0 x14c1 x14c2 x14c3 x14c4 x14f0 x14f1 x14f2 x14f3 x14f4 x14l x14o x15c0 x15c1 x15c2 x15f0 x15f1 x15f2 x15l x15o x16c0 x16c1 x16c2 x16c3 x16c4 x16f0 x16f1 x16f2 x16f3 x16f4 x16l x16o
    replace s := s.bel hB
    replace x10 := x10.bel hB
    replace x14 := x14.bel hB
    replace x15 := x15.bel hB
    replace x16 := x16.bel hB
    clear hB
    obtain ⟨⟨x10c0, x10c1, x10c2⟩, ⟨x10f0, x10f1, x10f2⟩, x10l⟩ := factsV x10.has
    have x10o := x10.free
    obtain ⟨⟨x14c0, x14c1, x14c2, x14c3, x14c4⟩, ⟨x14f0, x14f1, x14f2, x14f3, x14f4⟩, x14l⟩ := factsE x14.has
    have x14o := x14.free
    obtain ⟨⟨x15c0, x15c1, x15c2⟩, ⟨x15f0, x15f1, x15f2⟩, x15l⟩ := factsV x15.has
    have x15o := x15.free
    obtain ⟨⟨x16c0, x16c1, x16c2, x16c3, x16c4⟩, ⟨x16f0, x16f1, x16f2, x16f3, x16f4⟩, x16l⟩ := factsE x16.has
    have x16o := x16.free
    go_wp2_with fail
    refine (lraised_any _ memErr memErr).mono ?_
    rintro e w14 ⟨rfl, hB⟩
    clear x10c0 x10c1 x10c2 x10f0 x10f1 x10f2 x10l x10o x15c0 x15c1 x15c2 x15f0 x15f1 x15f2 x15l x15o x16c0 x16c1 x16c2 x16c3 x16c4 x16f0 x16f1 x16f2 x16f3 x16f4 x16l x16o
    replace s := s.bel hB
    replace x10 := x10.bel hB
    replace x15 := x15.bel hB
    replace x16 := x16.bel hB
    clear hB
    obtain ⟨⟨x10c0, x10c1, x10c2⟩, ⟨x10f0, x10f1, x10f2⟩, x10l⟩ := factsV x10.has
    have x10o := x10.free
    obtain ⟨⟨x15c0, x15c1, x15c2⟩, ⟨x15f0, x15f1, x15f2⟩, x15l⟩ := factsV x15.has
    have x15o := x15.free
    obtain ⟨⟨x16c0, x16c1, x16c2, x16c3, x16c4⟩, ⟨x16f0, x16f1, x16f2, x16f3, x16f4⟩, x16l⟩ := factsE x16.has
    have x16o := x16.free
    go_wp2_with fail
    refine (lnone_any _ ByteArray.empty).mono ?_
    rintro e w15 ⟨rfl, hB⟩
    clear x10c0 x10c1 x10c2 x10f0 x10f1 x10f2 x10l x10o x15c0 x15c1 x15c2 x15f0 x15f1 x15f2 x15l x15o
    replace s := s.bel hB
    replace x10 := x10.bel hB
    replace x15 := x15.bel hB
    clear hB
    obtain ⟨⟨x10c0, x10c1, x10c2⟩, ⟨x10f0, x10f1, x10f2⟩, x10l⟩ := factsV x10.has
    have x10o := x10.free
    obtain ⟨⟨x15c0, x15c1, x15c2⟩, ⟨x15f0, x15f1, x15f2⟩, x15l⟩ := factsV x15.has
    have x15o := x15.free
    go_wp2_with fail
    refine (Len_any s.heap v15).mono ?_
    rintro e w16 ⟨rfl, hB⟩
    rw [hi15]
    clear x10c0 x10c1 x10c2 x10f0 x10f1 x10f2 x10l x10o
    replace s := s.bel hB
    replace x10 := x10.bel hB
    clear hB
    obtain ⟨⟨x10c0, x10c1, x10c2⟩, ⟨x10f0, x10f1, x10f2⟩, x10l⟩ := factsV x10.has
    have x10o := x10.free
    go_wp2_with fail
    have x10l' := x10.has.lt
    replace hz0 := s.bl.size
    have hlt := own_new s.heap
    obtain ⟨R, hR0⟩ : ∃ R : Nat, 4096 - (P : Int) = (R : Int) := ⟨4096 - P, by omega⟩
    have hRP : P + R = 4096 := by omega
    have HRP := Lib.hid hRP
    have hw1 : IntKind.i64.wrap (P : Int) = (P : Int) := IntWalk.i64_in _ (by omega)
    have hw2 : IntKind.i64.wrap (R : Int) = (R : Int) := IntWalk.i64_in _ (by omega)
    clear hRP
    refine wp_region_M 16 [(0, true), (1, true), (2, true), (3, true), (4, true), (5, true), (6, true), (7, false), (8, false), (9, false), (10, true), (11, true), (12, true)] [⟨13, 17, 24, #[.int .i64 0, .int .i64 0, .string ⟨#[]⟩]⟩, ⟨14, 18, 33, #[.string ⟨#[]⟩, .int .i64 0, .int .i64 0, .string ⟨#[]⟩, .bool false]⟩] [(15, false)] (own τ8) (by kernel_rfl) (by kernel_rfl) (by intro x hx W; simp only [List.mem_cons, List.not_mem_nil, or_false] at hx; rcases hx with rfl | rfl <;> kernel_rfl) hlt ?_
    have hR := undrewR w16
    repeat
      first
      | refine M_skip rfl (by rfl) (fun _ _ _ h => h) ?_
      | refine M_pass rfl (by rfl) (fun b hb => hlt b (Nat.le_trans hR.size hb)) fun W hBW => ?_
        replace hR := btr hR hBW
        clear hBW
      | refine M_free rfl (by rfl) ?_
        apply Exists.intro
        refine ⟨fun W hW => ?_, fun _ _ _ h => h, ?_⟩
        focus
          have hq := hW.all
          first | (go_simp; done) | (go_simp; with_reducible rfl)
      simp only [Act.put, List.setIfInBounds_toArray, List.set_cons_zero, List.set_cons_succ]
    refine M_val rfl (by rfl) (fun b hb => hlt b (Nat.le_trans hR.size hb)) fun W hBW hSW => ?_
    replace hR := btr hR hBW
    clear hBW hSW
    obtain ⟨W5, hmk, hrow, hB⟩ := run_makeVs W R (by omega)
    refine ⟨_, _, by go_simp; try (repeat' apply And.intro) <;> rfl, hB, ?_⟩
    simp only [Act.put, List.setIfInBounds_toArray, List.set_cons_zero, List.set_cons_succ]
    replace hR := btr hR hB
    clear hmk hB
    refine M_callW rfl (by rfl) fun W6 hBW hSW => ?_
    replace hR := btr hR hBW
    have hrow6 : RowV W6 _ (rowN R) := (RowV.ofO hrow).chg (ρ := fun _ => false) (Chg.of_below hBW) (fun _ _ => rfl)
    clear hrow hBW hSW
    have hwf : (Lit.int .i64 (H4.last + 1)).wf = true := refN_wf s.heap (by have := HL4.out; unfold PH.room; omega)
    refine ⟨_, _, _, by go_simp; try (repeat' apply And.intro) <;> rfl, Make_any (s.heap.below hR) 1 ByteArray.empty 0 _ (rowN R) (by decide) hrow6 (by rw [rowN_len]; have := HRP.out; omega) (by have := HL4.out; omega), ?_⟩
    rintro e W7 ⟨rfl, τ9, hH, hC, hT'⟩
    refine ⟨_, own τ9, rfl, hC, fun b hb' => by simp [own, hT' b hb'], own_new hH, ?_⟩
    simp only [Act.put, List.setIfInBounds_toArray, List.set_cons_zero, List.set_cons_succ]
    replace s := s.bel hR
    replace x10 := x10.bel hR
    replace x10 := x10.wr hC hT'
    replace s := s.wr hH hC hT'
    clear hH hC hT'
    clear hR hlt hrow6
    obtain ⟨H5, hH5⟩ : ∃ H5, H5 = H4.made 1 ByteArray.empty 0 (rowN R) := ⟨_, rfl⟩
    rw [← hH5] at s
    have hL5 : H5.last ≤ 5 := by rw [hH5]; have := HL4.out; show H4.last + 1 ≤ 5; omega
    have hE5 : Ext H2 H5 := by rw [hH5]; exact HE.out.trans (Ext.made _ _ _ _ _)
    have hi5 : H5.items (V.ref (H4.last + 1) hwf) = rowN R := by rw [hH5]; exact items_obj (made_new H4 1 ByteArray.empty 0 (rowN R))
    have hk5 : H5.kind (V.ref (H4.last + 1) hwf) = 1 := by rw [hH5]; exact kind_obj (made_new H4 1 ByteArray.empty 0 (rowN R))
    obtain ⟨a1, a2, a3⟩ := (HA.out.old H5 hE5).2 (by rw [← HP.out]; exact hf)
    rw [← HP.out] at a1
    have hadd : addRowS H5 v10 (V.ref (H4.last + 1) hwf) = (V.refN (H5.last + 1), Ex.none, H5.made 1 ByteArray.empty 0 (rowN P ++ rowN R)) := by
      unfold addRowS freshS
      rw [a1, a3, hi5, if_neg (by rw [List.length_append, rowN_len, rowN_len]; have := HRP.out; omega)]
    have hB := b0 W7
    have hlt := own_new s.heap
    refine M_callW rfl (by rfl) fun W8 hBW hSW => ?_
    replace s := s.bel hBW
    replace x10 := x10.bel hBW
    clear hBW hSW hB hlt
    refine ⟨_, _, _, by go_simp; try (repeat' apply And.intro) <;> rfl, Bin_does s.heap v10 (V.ref (H4.last + 1) hwf) _ _ (.inl ⟨rfl, rfl⟩) (fun h => absurd h.2 (show ¬ (4 : Int) = 2 by decide)) (fun W hW => add_rows hW v10 (V.ref (H4.last + 1) hwf) a2 (a3.trans hk5.symm) (by unfold PH.room; omega) (by rw [a1, rowN_len]; exact hf) (by rw [hi5, rowN_len]; have := HRP.out; omega)), ?_⟩
    rw [hadd]
    rintro e W9 ⟨rfl, τ10, hH, hC, hT'⟩
    refine ⟨_, own τ10, rfl, hC, fun b hb' => by simp [own, hT' b hb'], own_new hH, ?_⟩
    simp only [Act.put, List.setIfInBounds_toArray, List.set_cons_zero, List.set_cons_succ]
    replace x10 := x10.wr hC hT'
    replace s := s.wr hH hC hT'
    clear hH hC hT'
    repeat
      first
      | refine M_skip rfl (by rfl) (fun _ _ _ h => h) ?_
      | refine M_pass rfl (by rfl) (fun b hb => hlt b (Nat.le_trans hR.size hb)) fun W hBW => ?_
        replace hR := btr hR hBW
        clear hBW
      | refine M_free rfl (by rfl) ?_
        apply Exists.intro
        refine ⟨fun W hW => ?_, fun _ _ _ h => h, ?_⟩
        focus
          have hq := hW.all
          first | (go_simp; done) | (go_simp; with_reducible rfl)
      simp only [Act.put, List.setIfInBounds_toArray, List.set_cons_zero, List.set_cons_succ]
    have x10l := x10l'
    refine M_end2 (d1 := 17) (d2 := 18) s hz0 rfl rfl rfl rfl rfl rfl rfl rfl rfl rfl (by simp) (by simp) (by decide) (by decide) ?_
    intro w17 g17 g18 snew hC l17 l18 x17 x18
    replace x10 := lv_two x10 hC x10l l17 l18
    replace s := snew
    clear snew hC l17 l18
    simp only [Act.put, List.setIfInBounds_toArray, List.set_cons_zero, List.set_cons_succ]
    have hE6 : Ext H2 (H5.made 1 ByteArray.empty 0 (rowN P ++ rowN R)) := hE5.trans (Ext.made _ _ _ _ _)
    obtain ⟨H6, hH6⟩ : ∃ H6, H6 = H5.made 1 ByteArray.empty 0 (rowN P ++ rowN R) := ⟨_, rfl⟩
    rw [← hH6] at hE6
    replace s : Stt w w17 τ10 hb H6 := by rw [hH6]; exact s
    have hL6 : H6.last ≤ 6 := by rw [hH6]; show H5.last + 1 ≤ 6; omega
    have HL6 := Lib.hid hL6
    have HE6 := Lib.hid hE6
    clear x10l x10l' x10o x10c0 x10c1 x10c2 x10f0 x10f1 x10f2 hL6 hE6 hH6 hadd hH5 hL5 hE5 hi5 hk5 a1 a2 a3 hw2 x17
    clear hwf
    obtain ⟨⟨x10c0, x10c1, x10c2⟩, ⟨x10f0, x10f1, x10f2⟩, x10l⟩ := factsV x10.has
    have x10o := x10.free
    have x10l' := x10.has.lt
    have x18l' := x18.has.lt
    replace hz0 := s.bl.size
    have hlt := own_new s.heap
    obtain ⟨R1, hR1⟩ : ∃ R1 : Nat, (R : Int) + 1 = (R1 : Int) := ⟨R + 1, by omega⟩
    have hRP1 : P + R1 = 4097 := by have := HRP.out; omega
    have HRP1 := Lib.hid hRP1
    have hw3 : IntKind.i64.wrap (R1 : Int) = (R1 : Int) := IntWalk.i64_in _ (by omega)
    have hw2 : IntKind.i64.wrap (R : Int) = (R : Int) := IntWalk.i64_in _ (by omega)
    clear hRP1
    go_wp2_with fail
    refine wp_region_M 17 [(0, true), (1, true), (2, true), (3, true), (4, true), (5, true), (6, true), (7, true), (8, false), (9, false), (10, false), (11, true), (12, true), (13, true)] [⟨14, 19, 24, #[.int .i64 0, .int .i64 0, .string ⟨#[]⟩]⟩, ⟨15, 20, 33, #[.string ⟨#[]⟩, .int .i64 0, .int .i64 0, .string ⟨#[]⟩, .bool false]⟩] [(16, false)] (own τ10) (by kernel_rfl) (by kernel_rfl) (by intro x hx W; simp only [List.mem_cons, List.not_mem_nil, or_false] at hx; rcases hx with rfl | rfl <;> kernel_rfl) hlt ?_
    have hR := undrewR w17
    repeat
      first
      | refine M_skip rfl (by rfl) (fun _ _ _ h => h) ?_
      | refine M_pass rfl (by rfl) (fun b hb => hlt b (Nat.le_trans hR.size hb)) fun W hBW => ?_
        replace hR := btr hR hBW
        clear hBW
      | refine M_free rfl (by rfl) ?_
        apply Exists.intro
        refine ⟨fun W hW => ?_, fun _ _ _ h => h, ?_⟩
        focus
          have hq := hW.all
          first | (go_simp; done) | (go_simp; with_reducible rfl)
      simp only [Act.put, List.setIfInBounds_toArray, List.set_cons_zero, List.set_cons_succ]
    refine M_val rfl (by rfl) (fun b hb => hlt b (Nat.le_trans hR.size hb)) fun W hBW hSW => ?_
    replace hR := btr hR hBW
    clear hBW hSW
    obtain ⟨W5, hmk, hrow, hB⟩ := run_makeVs W R1 (by omega)
    refine ⟨_, _, by go_simp; try (repeat' apply And.intro) <;> rfl, hB, ?_⟩
    simp only [Act.put, List.setIfInBounds_toArray, List.set_cons_zero, List.set_cons_succ]
    replace hR := btr hR hB
    clear hmk hB
    refine M_callW rfl (by rfl) fun W6 hBW hSW => ?_
    replace hR := btr hR hBW
    have hrow6 : RowV W6 _ (rowN R1) := (RowV.ofO hrow).chg (ρ := fun _ => false) (Chg.of_below hBW) (fun _ _ => rfl)
    clear hrow hBW hSW
    have hwf : (Lit.int .i64 (H6.last + 1)).wf = true := refN_wf s.heap (by have := HL6.out; unfold PH.room; omega)
    refine ⟨_, _, _, by go_simp; try (repeat' apply And.intro) <;> rfl, Make_any (s.heap.below hR) 1 ByteArray.empty 0 _ (rowN R1) (by decide) hrow6 (by rw [rowN_len]; have := HRP1.out; omega) (by have := HL6.out; omega), ?_⟩
    rintro e W7 ⟨rfl, τ11, hH, hC, hT'⟩
    refine ⟨_, own τ11, rfl, hC, fun b hb' => by simp [own, hT' b hb'], own_new hH, ?_⟩
    simp only [Act.put, List.setIfInBounds_toArray, List.set_cons_zero, List.set_cons_succ]
    replace s := s.bel hR
    replace x10 := x10.bel hR
    replace x18 := x18.bel hR
    replace x10 := x10.wr hC hT'
    replace x18 := x18.wr hC hT'
    replace s := s.wr hH hC hT'
    clear hH hC hT'
    clear hR hlt hrow6
    obtain ⟨H7, hH7⟩ : ∃ H7, H7 = H6.made 1 ByteArray.empty 0 (rowN R1) := ⟨_, rfl⟩
    rw [← hH7] at s
    have hL7 : H7.last ≤ 7 := by rw [hH7]; have := HL6.out; show H6.last + 1 ≤ 7; omega
    have hE7 : Ext H2 H7 := by rw [hH7]; exact HE6.out.trans (Ext.made _ _ _ _ _)
    have hi7 : H7.items (V.ref (H6.last + 1) hwf) = rowN R1 := by rw [hH7]; exact items_obj (made_new H6 1 ByteArray.empty 0 (rowN R1))
    have hk7 : H7.kind (V.ref (H6.last + 1) hwf) = 1 := by rw [hH7]; exact kind_obj (made_new H6 1 ByteArray.empty 0 (rowN R1))
    obtain ⟨a1, a2, a3⟩ := (HA.out.old H7 hE7).2 (by rw [← HP.out]; exact hf)
    rw [← HP.out] at a1
    have hadd : addRowS H7 v10 (V.ref (H6.last + 1) hwf) = (V.nul, Ex.raise memErr, H7) := by
      unfold addRowS freshS
      rw [a1, a3, hi7, if_pos (by rw [List.length_append, rowN_len, rowN_len]; have := HRP1.out; omega)]
    have hB := b0 W7
    have hlt := own_new s.heap
    refine M_callW rfl (by rfl) fun W8 hBW hSW => ?_
    replace s := s.bel hBW
    replace x10 := x10.bel hBW
    replace x18 := x18.bel hBW
    clear hBW hSW hB hlt
    refine ⟨_, _, _, by go_simp; try (repeat' apply And.intro) <;> rfl, Bin_does s.heap v10 (V.ref (H6.last + 1) hwf) _ _ (.inl ⟨rfl, rfl⟩) (fun h => absurd h.2 (show ¬ (4 : Int) = 2 by decide)) (fun W hW => add_rows hW v10 (V.ref (H6.last + 1) hwf) a2 (a3.trans hk7.symm) (by unfold PH.room; omega) (by rw [a1, rowN_len]; exact hf) (by rw [hi7, rowN_len]; have := HRP1.out; omega)), ?_⟩
    rw [hadd]
    rintro e W9 ⟨rfl, τ12, hH, hC, hT'⟩
    refine ⟨_, own τ12, rfl, hC, fun b hb' => by simp [own, hT' b hb'], own_new hH, ?_⟩
    simp only [Act.put, List.setIfInBounds_toArray, List.set_cons_zero, List.set_cons_succ]
    replace x10 := x10.wr hC hT'
    replace x18 := x18.wr hC hT'
    replace s := s.wr hH hC hT'
    clear hH hC hT'
    repeat
      first
      | refine M_skip rfl (by rfl) (fun _ _ _ h => h) ?_
      | refine M_pass rfl (by rfl) (fun b hb => hlt b (Nat.le_trans hR.size hb)) fun W hBW => ?_
        replace hR := btr hR hBW
        clear hBW
      | refine M_free rfl (by rfl) ?_
        apply Exists.intro
        refine ⟨fun W hW => ?_, fun _ _ _ h => h, ?_⟩
        focus
          have hq := hW.all
          first | (go_simp; done) | (go_simp; with_reducible rfl)
      simp only [Act.put, List.setIfInBounds_toArray, List.set_cons_zero, List.set_cons_succ]
    have x10l := x10l'
    have x18l := x18l'
    refine M_end2 (d1 := 19) (d2 := 20) s hz0 rfl rfl rfl rfl rfl rfl rfl rfl rfl rfl (by simp) (by simp) (by decide) (by decide) ?_
    intro w18 g19 g20 snew hC l19 l20 x19 x20
    replace x10 := lv_two x10 hC x10l l19 l20
    replace x18 := lv_two x18 hC x18l l19 l20
    replace s := snew
    clear snew hC l19 l20
    simp only [Act.put, List.setIfInBounds_toArray, List.set_cons_zero, List.set_cons_succ]
    clear x10 x10l x10l' x10o x10c0 x10c1 x10c2 x10f0 x10f1 x10f2 x18l x18l'
    obtain ⟨⟨x18c0, x18c1, x18c2, x18c3, x18c4⟩, ⟨x18f0, x18f1, x18f2, x18f3, x18f4⟩, x18l⟩ := factsE x18.has
    have x18o := x18.free
    obtain ⟨⟨x20c0, x20c1, x20c2, x20c3, x20c4⟩, ⟨x20f0, x20f1, x20f2, x20f3, x20f4⟩, x20l⟩ := factsE x20.has
    have x20o := x20.free
    go_wp2_with fail
    refine (lnone_any _ ByteArray.empty).mono ?_
    rintro e w19 ⟨rfl, hB⟩
    clear x18c0 x18c1 x18c2 x18c3 x18c4 x18f0 x18f1 x18f2 x18f3 x18f4 x18l x18o x20c0 x20c1 x20c2 x20c3 x20c4 x20f0 x20f1 x20f2 x20f3 x20f4 x20l x20o
    replace s := s.bel hB
    replace x18 := x18.bel hB
    replace x20 := x20.bel hB
    clear hB
    obtain ⟨⟨x18c0, x18c1, x18c2, x18c3, x18c4⟩, ⟨x18f0, x18f1, x18f2, x18f3, x18f4⟩, x18l⟩ := factsE x18.has
    have x18o := x18.free
    obtain ⟨⟨x20c0, x20c1, x20c2, x20c3, x20c4⟩, ⟨x20f0, x20f1, x20f2, x20f3, x20f4⟩, x20l⟩ := factsE x20.has
    have x20o := x20.free
    go_wp2_with fail
    refine (lraised_any _ memErr memErr).mono ?_
    rintro e w20 ⟨rfl, hB⟩
    replace s := s.bel hB
    clear hB x18 x20
    clear x18c0 x18c1 x18c2 x18c3 x18c4 x18f0 x18f1 x18f2 x18f3 x18f4 x18l x18o x20c0 x20c1 x20c2 x20c3 x20c4 x20f0 x20f1 x20f2 x20f3 x20f4 x20l x20o
    obtain ⟨wl, hwl⟩ : ∃ wl, wl = w20 := ⟨_, rfl⟩
    subst hwl
    clear hadd hH7 hL7 hE7 hi7 hk7 a1 a2 a3 hw1 hw2 hw3 hR0 hR1 x19 hwf hf hd HL4 HE HA HL6 HE6 HRP HRP1
  case' neg =>
    obtain rfl : nm = memErr := by rw [HN.out, if_neg hf]
    have hd : decide ((P : Int) ≤ 4096) = false := decide_eq_false (by omega)
    go_wp2_with fail
    refine (lnone_any _ memErr).mono ?_
    rintro e w12 ⟨rfl, hB⟩
    rw [show decide (memErr = ByteArray.empty) = false by decide]
    clear x11c0 x11c1 x11c2 x11c3 x11c4 x11f0 x11f1 x11f2 x11f3 x11f4 x11l x11o x14c0 x14c1 x14c2 x14c3 x14c4 x14f0 x14f1 x14f2 x14f3 x14f4 x14l x14o x15c0 x15c1 x15c2 x15f0 x15f1 x15f2 x15l x15o x16c0 x16c1 x16c2 x16c3 x16c4 x16f0 x16f1 x16f2 x16f3 x16f4 x16l x16o
    replace s := s.bel hB
    replace x11 := x11.bel hB
    replace x14 := x14.bel hB
    replace x15 := x15.bel hB
    replace x16 := x16.bel hB
    clear hB
    obtain ⟨⟨x11c0, x11c1, x11c2, x11c3, x11c4⟩, ⟨x11f0, x11f1, x11f2, x11f3, x11f4⟩, x11l⟩ := factsE x11.has
    have x11o := x11.free
    obtain ⟨⟨x14c0, x14c1, x14c2, x14c3, x14c4⟩, ⟨x14f0, x14f1, x14f2, x14f3, x14f4⟩, x14l⟩ := factsE x14.has
    have x14o := x14.free
    obtain ⟨⟨x15c0, x15c1, x15c2⟩, ⟨x15f0, x15f1, x15f2⟩, x15l⟩ := factsV x15.has
    have x15o := x15.free
    obtain ⟨⟨x16c0, x16c1, x16c2, x16c3, x16c4⟩, ⟨x16f0, x16f1, x16f2, x16f3, x16f4⟩, x16l⟩ := factsE x16.has
    have x16o := x16.free
    go_wp2_with fail
    refine (lraised_any _ memErr memErr).mono ?_
    rintro e w13 ⟨rfl, hB⟩
    clear x14c0 x14c1 x14c2 x14c3 x14c4 x14f0 x14f1 x14f2 x14f3 x14f4 x14l x14o x15c0 x15c1 x15c2 x15f0 x15f1 x15f2 x15l x15o x16c0 x16c1 x16c2 x16c3 x16c4 x16f0 x16f1 x16f2 x16f3 x16f4 x16l x16o
    replace s := s.bel hB
    replace x14 := x14.bel hB
    replace x15 := x15.bel hB
    replace x16 := x16.bel hB
    clear hB
    obtain ⟨⟨x14c0, x14c1, x14c2, x14c3, x14c4⟩, ⟨x14f0, x14f1, x14f2, x14f3, x14f4⟩, x14l⟩ := factsE x14.has
    have x14o := x14.free
    obtain ⟨⟨x15c0, x15c1, x15c2⟩, ⟨x15f0, x15f1, x15f2⟩, x15l⟩ := factsV x15.has
    have x15o := x15.free
    obtain ⟨⟨x16c0, x16c1, x16c2, x16c3, x16c4⟩, ⟨x16f0, x16f1, x16f2, x16f3, x16f4⟩, x16l⟩ := factsE x16.has
    have x16o := x16.free
    go_wp2_with fail
    refine (lraised_any _ memErr memErr).mono ?_
    rintro e w14 ⟨rfl, hB⟩
    clear x15c0 x15c1 x15c2 x15f0 x15f1 x15f2 x15l x15o x16c0 x16c1 x16c2 x16c3 x16c4 x16f0 x16f1 x16f2 x16f3 x16f4 x16l x16o
    replace s := s.bel hB
    replace x15 := x15.bel hB
    replace x16 := x16.bel hB
    clear hB
    obtain ⟨⟨x15c0, x15c1, x15c2⟩, ⟨x15f0, x15f1, x15f2⟩, x15l⟩ := factsV x15.has
    have x15o := x15.free
    obtain ⟨⟨x16c0, x16c1, x16c2, x16c3, x16c4⟩, ⟨x16f0, x16f1, x16f2, x16f3, x16f4⟩, x16l⟩ := factsE x16.has
    have x16o := x16.free
    go_wp2_with fail
    refine (lnone_any _ ByteArray.empty).mono ?_
    rintro e w15 ⟨rfl, hB⟩
    clear x15c0 x15c1 x15c2 x15f0 x15f1 x15f2 x15l x15o
    replace s := s.bel hB
    replace x15 := x15.bel hB
    clear hB
    obtain ⟨⟨x15c0, x15c1, x15c2⟩, ⟨x15f0, x15f1, x15f2⟩, x15l⟩ := factsV x15.has
    have x15o := x15.free
    go_wp2_with fail
    refine (Len_any s.heap v15).mono ?_
    rintro e w16 ⟨rfl, hB⟩
    rw [hi15]
    replace s := s.bel hB
    clear hB
    clear x15c0 x15c1 x15c2 x15f0 x15f1 x15f2 x15l x15o
    obtain ⟨wl, hwl⟩ : ∃ wl, wl = w16 := ⟨_, rfl⟩
    subst hwl
    clear hf hd HL4 HE HA
  all_goals
    have hNb : N ≤ 66000 := by have := HN2.out; omega
    go_wp2_with (refine wpList_make_full _ rfl _ _ 75 rfl _ 5 i0 _ 1 Tryz.underlying75 hi hz0' hz1 .i64 .i64 _ _ N rfl rfl rfl rfl (by rw [hz2]; omega) (by unfold maxLen; omega) (Nat.le_refl _) ?_; intro wA hrow hg)
    rw [made_bytes] at hrow
    have hBl : Below wl.heap.size wl wA := ⟨hg.os, hg.tape, hg.output, hg.size, fun b hb' => hg.block b hb' (fun e => by cases e)⟩
    clear hg
    have hzA := s.bl.size
    go_loopw [23] (fun i wr => ∃ j : Nat, Hid (j ≤ N) ∧ i = .int .i64 j ∧ wr.ownsRow wl.heap.size 5 1 (.slice (some ⟨wl.heap.size, 0, Option.none⟩) N N) N (Lib.byteCells (List.replicate j (97 : UInt8) ++ List.replicate (N - j) 0)) ∧ Below wl.heap.size wl wr) (fun i _ => N - (intOf i).toNat)
    case' atStart => exact ⟨0, Lib.hid (Nat.zero_le _), rfl, hrow, hBl⟩
    case' round =>
      obtain ⟨j, HJ, rfl, ho, hBr⟩ := hrel
      by_cases hlt : j < N
      · have hcell := ho.cellAt j (by omega)
        have hfr := ho.frozenAt j
        have hxs : (Lib.byteCells (List.replicate j (97 : UInt8) ++ List.replicate (N - j) 0))[j]? = some (.int .u8 0) := by
          unfold Lib.byteCells
          rw [List.getElem?_map, List.getElem?_append_right (by simp), List.length_replicate, Nat.sub_self, List.getElem?_replicate, if_pos (by omega)]
          rfl
        rw [hxs] at hcell
        obtain ⟨ho2, hg2⟩ := ho.stored j (.int .u8 97)
        rw [fill_set N j hlt] at ho2
        clear hxs
        go_wp2
        go_roundw
        case' rel => exact ⟨j + 1, Lib.hid hlt, by go_num, ho2, hBr.setCell (p := ⟨wl.heap.size, j, Option.none⟩) (Nat.le_refl _) _⟩
        case' measure => simp [intOf]; omega
      · obtain rfl : j = N := by have := HJ.out; omega
        have hconv := run_convert_bytes_back wr 75 9 5 ⟨wl.heap.size, 0, Option.none⟩ j (List.replicate j (97 : UInt8)) Tryz.underlying75 Tryz.underlying5 Tryz.underlying9 (fun q' hq' => by
          have h1 := ho.cells (g := wl.heap.size) rfl q' (.int .u8 97) (by
            unfold Lib.byteCells
            rw [List.getElem?_map, List.getElem?_append_left hq', List.getElem?_eq_getElem hq', List.getElem_replicate]
            rfl)
          rw [h1, List.getElem_replicate]
          rfl)
        rw [List.length_replicate] at hconv
        have s2 := s.bel hBr
        clear ho hrow hBl hzA s
        go_wp2_with fail
        refine (lstr_any _ _).mono ?_
        rintro e w21 ⟨rfl, hB⟩
        replace s2 := s2.bel hB
        clear hB hconv
        go_wp2_with fail
        refine (Repr_any s2.heap (aV j hNb) (aV_ok _ j hNb)).mono ?_
        rw [aV_repr]
        rintro e w22 ⟨rfl, hB⟩
        replace s2 := s2.bel hB
        clear hB
        by_cases h65 : lg ≤ 65536
        · rw [if_neg (by have := HN2.out; omega)]
          have hsz : (⟨([39] ++ List.replicate j (97 : UInt8) ++ [39]).toArray⟩ : ByteArray).size = lg := by
            show ([39] ++ List.replicate j (97 : UInt8) ++ [39]).toArray.size = lg
            simp
            have := HN2.out
            omega
          rw [show reprOut ⟨[39] ++ List.replicate j (97 : UInt8) ++ [39], ByteArray.empty⟩ = ⟨([39] ++ List.replicate j (97 : UInt8) ++ [39]).toArray⟩ from rfl]
          generalize (⟨([39] ++ List.replicate j (97 : UInt8) ++ [39]).toArray⟩ : ByteArray) = out at *
          have hd : decide ((lg : Int) ≤ 65536) = true := decide_eq_true (by omega)
          have x25 := Lv.new s2 (Ex.raise ByteArray.empty).cells 33
          replace s2 := s2.alloc (.cells (Ex.raise ByteArray.empty).cells 33)
          obtain ⟨⟨x25c0, x25c1, x25c2, x25c3, x25c4⟩, ⟨x25f0, x25f1, x25f2, x25f3, x25f4⟩, x25l⟩ := factsE x25.has
          have x25o := x25.free
          go_wp2_with fail
          refine (lnone_any _ ByteArray.empty).mono ?_
          rintro e w23 ⟨rfl, hB⟩
          clear x25c0 x25c1 x25c2 x25c3 x25c4 x25f0 x25f1 x25f2 x25f3 x25f4 x25l x25o
          replace s2 := s2.bel hB
          replace x25 := x25.bel hB
          clear hB
          obtain ⟨⟨x25c0, x25c1, x25c2, x25c3, x25c4⟩, ⟨x25f0, x25f1, x25f2, x25f3, x25f4⟩, x25l⟩ := factsE x25.has
          have x25o := x25.free
          go_wp2_with fail
          refine (lnone_any _ ByteArray.empty).mono ?_
          rintro e w24 ⟨rfl, hB⟩
          replace s2 := s2.bel hB
          clear hB
          clear x25c0 x25c1 x25c2 x25c3 x25c4 x25f0 x25f1 x25f2 x25f3 x25f4 x25l x25o
          go_wp2
          go_ret
          exact ⟨rfl, s2.bl⟩
        · rw [if_pos (by have := HN2.out; omega)]
          rw [show reprOut ⟨[], memErr⟩ = ByteArray.empty from rfl]
          have hd : decide ((lg : Int) ≤ 65536) = false := decide_eq_false (by omega)
          have x25 := Lv.new s2 (Ex.raise memErr).cells 33
          replace s2 := s2.alloc (.cells (Ex.raise memErr).cells 33)
          obtain ⟨⟨x25c0, x25c1, x25c2, x25c3, x25c4⟩, ⟨x25f0, x25f1, x25f2, x25f3, x25f4⟩, x25l⟩ := factsE x25.has
          have x25o := x25.free
          go_wp2_with fail
          refine (lnone_any _ memErr).mono ?_
          rintro e w23 ⟨rfl, hB⟩
          rw [show decide (memErr = ByteArray.empty) = false by decide]
          clear x25c0 x25c1 x25c2 x25c3 x25c4 x25f0 x25f1 x25f2 x25f3 x25f4 x25l x25o
          replace s2 := s2.bel hB
          replace x25 := x25.bel hB
          clear hB
          obtain ⟨⟨x25c0, x25c1, x25c2, x25c3, x25c4⟩, ⟨x25f0, x25f1, x25f2, x25f3, x25f4⟩, x25l⟩ := factsE x25.has
          have x25o := x25.free
          go_wp2_with fail
          refine (lnone_any _ memErr).mono ?_
          rintro e w24 ⟨rfl, hB⟩
          rw [show decide (memErr = ByteArray.empty) = false by decide]
          clear x25c0 x25c1 x25c2 x25c3 x25c4 x25f0 x25f1 x25f2 x25f3 x25f4 x25l x25o
          replace s2 := s2.bel hB
          replace x25 := x25.bel hB
          clear hB
          obtain ⟨⟨x25c0, x25c1, x25c2, x25c3, x25c4⟩, ⟨x25f0, x25f1, x25f2, x25f3, x25f4⟩, x25l⟩ := factsE x25.has
          have x25o := x25.free
          go_wp2_with fail
          refine (lraised_any _ memErr memErr).mono ?_
          rintro e w25 ⟨rfl, hB⟩
          replace s2 := s2.bel hB
          clear hB
          clear x25c0 x25c1 x25c2 x25c3 x25c4 x25f0 x25f1 x25f2 x25f3 x25f4 x25l x25o
          go_wp2
          go_ret
          exact ⟨rfl, s2.bl⟩

end Go.Proofs.YtjhfjllgjgnmeaaGreat

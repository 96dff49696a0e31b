/- Package operate: the teller's tell; Repr. -/
import Derived.Test.YtjhfjllgjgnmeaaGreatWhole
import Derived.Laws.EntriesVeiled
namespace Go.Proofs.YtjhfjllgjgnmeaaGreat
open Go.RowKit Go.Maps
attribute [local go_sem] World.cell?_alloc_some

def V.none : V := ⟨0, 0, ByteArray.empty, by decide, by decide, by simp⟩

/-- How a value is told that may stand within so many more. -/
def tellS (H : PH) : Nat → V → St → St
  | k, v, st =>
    if st.name ≠ ByteArray.empty then st else
    if H.whole v = false then sayS st (plainS v) else
    match k with
    | 0 => { st with name := recErr }
    | k + 1 =>
      if H.kind v = 1 then rowS ⟨#[91, 93]⟩ (H.items v).length (fun i => tellS H k ((H.items v).getD i V.none)) st
      else if H.kind v = 2 then rowS (if (H.items v).length = 1 then ⟨#[40, 44, 41]⟩ else ⟨#[40, 41]⟩) (H.items v).length (fun i => tellS H k ((H.items v).getD i V.none)) st
      else rowS ⟨#[123, 125]⟩ (H.d v).length (fun i st => tellS H k ((H.d v).getD i (V.none, V.none)).2 (sayS (tellS H k ((H.d v).getD i (V.none, V.none)).1 st) [58, 32])) st

/-- What may be told without more words: no dict, no value of another kind. -/
def TellOk (H : PH) : Nat → V → Prop
  | 0, v => H.whole v = true ∨ (0 ≤ v.k ∧ v.k ≤ 3 ∧ v.s.size ≤ 66000)
  | k + 1, v => (H.whole v = true ∧ H.kind v ≠ 3 ∧ ∀ x ∈ H.items v, TellOk H k x) ∨ (H.whole v = false ∧ 0 ≤ v.k ∧ v.k ≤ 3 ∧ v.s.size ≤ 66000)

theorem digits_len : ∀ (j m : Nat) (acc : List UInt8), m < 10 ^ j → (digits m acc).length ≤ j + acc.length
  | 0, m, acc, h => by
    have : m = 0 := by simpa using h
    subst this
    rw [digits, if_pos rfl]
    omega
  | j + 1, m, acc, h => by
    rw [digits]
    by_cases h0 : m = 0
    · rw [if_pos h0]; omega
    · rw [if_neg h0]
      have := digits_len j (m / 10) (UInt8.ofNat (48 + m % 10) :: acc) (by rw [Nat.pow_succ] at h; omega)
      rw [List.length_cons] at this
      omega

theorem textB_len (n : Int) (hn : (Lit.int .i64 n).wf = true) : (textB n).length ≤ 40 := by
  simp only [Lit.wf, Bool.and_eq_true, decide_eq_true_eq] at hn
  have h : -9223372036854775808 ≤ n ∧ n ≤ 9223372036854775807 := hn
  have h1 := digits_len 20 (n.natAbs / 10) [UInt8.ofNat (48 + n.natAbs % 10)] (by
    have h3 : (10 : Nat) ^ 20 = 100000000000000000000 := by decide
    omega)
  rw [List.length_singleton] at h1
  unfold textB
  rw [List.length_append]
  split
  · simp only [List.length_singleton]; omega
  · simp only [List.length_nil]; omega

theorem quoteS_len (l : List UInt8) : (quoteS l).length ≤ 4 * l.length + 2 := by
  have := flatMap_quoteB_length l
  simp only [quoteS, List.length_append, List.length_singleton]
  omega

theorem plainS_len (v : V) (h : v.s.size ≤ 66000) (_ : 0 ≤ v.k ∧ v.k ≤ 3) : (plainS v).length ≤ 1073741824 := by
  unfold plainS
  have h1 := textB_len v.n v.hn
  have h2 := quoteS_len v.s.data.toList
  have h3 : v.s.data.toList.length = v.s.size := by simp
  split
  · simp
  · split
    · split <;> simp
    · split
      · omega
      · omega

set_option maxRecDepth 100000 in
set_option maxHeartbeats 800000 in
/-- One part of a row: an item. -/
theorem part_any {wr : World} {tb hb : Nat} {b : Value} {st st' : St} (hT : TellAt wr tb hb b st) {g1 gl g3 : Nat} {d : Int} {lv : Value} {items : List V} (y1 : wr.heap[g1]? = some (.cells #[.pointer (some ⟨tb, 0, none⟩)] 180 (0, 0)))
    (yl : wr.heap[gl]? = some (.cells #[lv] 59 (0, 0))) (y3 : wr.heap[g3]? = some (.cells #[.int .i64 d] 3 (0, 0))) (hrow : RowV wr lv items) (i : Nat) (x : V) (hx : items[i]? = some x) (hd0 : 0 ≤ d) (hd : d < 30) (hit : items.length ≤ 1073741824)
    (o1 : bldρ tb b g1 = false) (ol : bldρ tb b gl = false) (o3 : bldρ tb b g3 = false) (orow : ∀ k, lv.ownBlock = some k → bldρ tb b k = false)
    (hcall : ∀ W, Below wr.heap.size wr W → Calls Tryz.prog 156 #[.pointer (some ⟨tb, 0, none⟩), x.val, .int .i64 (d + 1)] W fun e w' => e = .returned (.tuple #[]) ∧ ∃ b', TellAt w' tb hb b' st' ∧ Told W w' tb b b') :
    Calls Tryz.prog 220 #[.int .i64 i, .pointer (some ⟨g1, 0, none⟩), .pointer (some ⟨gl, 0, none⟩), .pointer (some ⟨g3, 0, none⟩)] wr fun e w' => e = .returned (.tuple #[]) ∧ ∃ b', TellAt w' tb hb b' st' ∧ Told wr w' tb b b' := by
  have hi : i < items.length := (List.getElem?_eq_some_iff.1 hx).1
  rcases hrow with ⟨rfl, _⟩ | ⟨bk, off, cap, rfl, hc⟩
  · simp at hi
  obtain ⟨x0, x1, x2⟩ := hc i x hx
  have hρ : ∀ j, wr.heap.size ≤ j → bldρ tb b j = false := fun j hj => by
    have h1 := hT.lt
    simp only [bldρ, Bool.or_eq_false_iff, beq_eq_false_iff_ne]
    exact ⟨by omega, fun e => by have := h1.2 j e; omega⟩
  have l1 : g1 < wr.heap.size := (Array.getElem?_eq_some_iff.1 y1).1
  have ll : gl < wr.heap.size := (Array.getElem?_eq_some_iff.1 yl).1
  have l3 : g3 < wr.heap.size := (Array.getElem?_eq_some_iff.1 y3).1
  have lb := lt_of_cell x0
  have ob := orow bk rfl
  have d1 : ∀ W, Chg (bldρ tb b) wr.drew W → W.cell? ⟨g1, 0, none⟩ = some (.pointer (some ⟨tb, 0, none⟩)) := fun W hW => (hW.cell l1 o1).trans (((cells_of_block y1).1 0).trans rfl)
  have d2 : ∀ W, Chg (bldρ tb b) wr.drew W → W.cell? ⟨gl, 0, none⟩ = some (.slice (some ⟨bk, off, none⟩) items.length cap) := fun W hW => (hW.cell ll ol).trans (((cells_of_block yl).1 0).trans rfl)
  have d3 : ∀ W, Chg (bldρ tb b) wr.drew W → W.cell? ⟨g3, 0, none⟩ = some (.int .i64 d) := fun W hW => (hW.cell l3 o3).trans (((cells_of_block y3).1 0).trans rfl)
  have d4 : ∀ W, Chg (bldρ tb b) wr.drew W → W.cell? ⟨bk, off + i * 3, none⟩ = some (.int .i64 x.k) ∧ W.cell? ⟨bk, off + i * 3 + 1, none⟩ = some (.int .i64 x.n) ∧ W.cell? ⟨bk, off + i * 3 + 2, none⟩ = some (.string x.s) := fun W hW => ⟨(hW.cell lb ob).trans x0, (hW.cell lb ob).trans x1, (hW.cell lb ob).trans x2⟩
  have hwr : IntKind.i64.wrap (d + 1) = d + 1 := IntWalk.i64_in _ (by omega)
  clear x0 x1 x2 hc y1 yl y3
  go_enter Tryz.func220, Tryz.ntmps220
  go_wp2_with fail
  refine wp_region_M 8 [(0, true), (1, true), (2, true), (3, true), (4, true), (5, true), (6, true), (7, false)] [] [] (bldρ tb b) (by kernel_rfl) (by kernel_rfl) (by simp) hρ ?_
  iterate 7
    refine M_free rfl (by rfl) ?_
    apply Exists.intro
    refine ⟨fun W hW => ?_, ?_, ?_⟩
    · have e1 := d1 W hW
      have e2 := d2 W hW
      have e3 := d3 W hW
      obtain ⟨e4, e5, e6⟩ := d4 W hW
      first | (go_simp; done) | (go_simp; with_reducible rfl)
    · exact fun _ _ _ h => h
    simp only [Act.put, List.setIfInBounds_toArray, List.set_cons_zero, List.set_cons_succ]
  refine M_callW rfl (by rfl) fun W hBW hSW => ?_
  have hBW' : Below wr.heap.size wr W := ⟨hBW.os, hBW.tape, hBW.output, hBW.size, hBW.block⟩
  refine ⟨_, _, _, by go_simp; try rfl, hcall W hBW', ?_⟩
  rintro e W6 ⟨rfl, b', hT6, hD6⟩
  have hD : Told wr W6 tb b b' := (Told.of_below hBW').trans hD6
  refine ⟨_, bldρ tb b, rfl, hD6.chg, fun _ _ => rfl, fun j hj => hρ j (Nat.le_trans hBW'.size (Nat.le_trans hD6.chg.size hj)), ?_⟩
  simp only [Act.put, List.setIfInBounds_toArray, List.set_cons_zero, List.set_cons_succ]
  refine M_end0 fun W7 hB7 hS7 => ?_
  have hT7 := hT6.below hB7
  have hD7 := hD.trans (Told.of_below hB7)
  simp only [List.drop_succ_cons, List.drop_zero]
  go_wp2
  go_end0
  exact ⟨rfl, b', hT7, hD7⟩

theorem Told.keep {w w' : World} {tb : Nat} {b b' : Value} (h : Told w w' tb b b') {j : Nat} (hj : j < w.heap.size) (h0 : bldρ tb b j = false) : bldρ tb b' j = false := by
  simp only [bldρ, Bool.or_eq_false_iff, beq_eq_false_iff_ne] at h0 ⊢
  refine ⟨h0.1, fun e => ?_⟩
  rcases h.new with e2 | ⟨i, e2, hi⟩
  · exact h0.2 (e2 ▸ e)
  · rw [e2] at e; have := Option.some.inj e; omega

theorem HeapAt.olt {w : World} {τ : Tag} {hb : Nat} {H : PH} (h : HeapAt w τ hb H) : ∀ j, own τ j = true → j < w.heap.size := by
  obtain ⟨ma, mr, pb, h⟩ := h
  exact h.lt

/-- The heap, as a teller tells. -/
theorem HeapAt.told {w w' : World} {τ : Tag} {hb tb : Nat} {H : PH} {b b' : Value} (h : HeapAt w τ hb H) (hD : Told w w' tb b b') (hτ : own τ tb = false) (hτ2 : ∀ k, b.ownBlock = some k → own τ k = false) :
    HeapAt w' τ hb H ∧ ∀ k, b'.ownBlock = some k → own τ k = false := by
  have hz := h.olt
  refine ⟨h.chg hD.chg (fun j hj => ?_), fun j hj => ?_⟩
  · simp only [bldρ, Bool.or_eq_false_iff, beq_eq_false_iff_ne]
    exact ⟨fun e => (by rw [e, hτ] at hj; cases hj), fun e => (by rw [hτ2 j e] at hj; cases hj)⟩
  · rcases hD.new with e2 | ⟨i, e2, hi⟩
    · exact hτ2 j (e2 ▸ hj)
    · rw [e2] at hj; have := Option.some.inj hj
      cases h1 : own τ j with
      | false => rfl
      | true => have := hz j h1; omega

set_option maxRecDepth 100000 in
set_option maxHeartbeats 16000000 in
theorem tell_step {τ : Tag} {hb tb : Nat} {H : PH} (hτ : own τ tb = false) (k : Nat) (hk : k ≤ 30)
    (ih : ∀ k', k = k' + 1 → ∀ {w : World}, HeapAt w τ hb H → ∀ {b : Value} {st : St}, TellAt w tb hb b st → (∀ k, b.ownBlock = some k → own τ k = false) → ∀ v : V, TellOk H k' v →
      Calls Tryz.prog 156 #[.pointer (some ⟨tb, 0, none⟩), v.val, .int .i64 (30 - (k' : Int))] w fun e w' => e = .returned (.tuple #[]) ∧ ∃ b', TellAt w' tb hb b' (tellS H k' v st) ∧ Told w w' tb b b')
    {w : World} (hH : HeapAt w τ hb H) {b : Value} {st : St} (hT : TellAt w tb hb b st) (hτ2 : ∀ k, b.ownBlock = some k → own τ k = false) (v : V) (hok : TellOk H k v) :
    Calls Tryz.prog 156 #[.pointer (some ⟨tb, 0, none⟩), v.val, .int .i64 (30 - (k : Int))] w fun e w' => e = .returned (.tuple #[]) ∧ ∃ b', TellAt w' tb hb b' (tellS H k v st) ∧ Told w w' tb b b' := by
  have IH := Lib.hid ih
  clear ih
  obtain ⟨p, hp⟩ := hT.at_
  obtain ⟨hc, hf, hlt⟩ := cells_of_block hp.blk
  have c0 := hc 0
  have c3 := hc 3
  simp [tcells] at c0 c3
  clear hc hf hp
  have he := nameE st.name
  have hB0 : ∀ o1 o2 o3, Below w.heap.size w (((w.alloc o1).alloc o2).alloc o3) := fun _ _ _ => bal (bal (bal (b0 _) _) _) _
  have c3' : ∀ o1 o2 o3, (((w.alloc o1).alloc o2).alloc o3).cell? ⟨tb, 3, none⟩ = some (.string st.name) := fun o1 o2 o3 => (World.cell?_of_block (a := ⟨tb, 3, none⟩) ((hB0 o1 o2 o3).block tb hlt)).trans c3
  generalize hd : (30 - (k : Int)) = d
  have HD := Lib.hid hd
  clear hd
  by_cases hn : st.name = ByteArray.empty
  · rw [decide_eq_true hn] at he
    go_enter Tryz.func156, Tryz.ntmps156
    go_wp2_with fail
    have hbx : (((w.alloc (.cells #[.pointer (some ⟨tb, 0, none⟩)] 180)).alloc (.cells #[.int .i64 v.k, .int .i64 v.n, .string v.s] 24)).alloc (.cells #[.int .i64 d] 3)).heap[w.heap.size]? = some (.cells #[.pointer (some ⟨tb, 0, none⟩)] 180 (0, 0)) ∧
        (((w.alloc (.cells #[.pointer (some ⟨tb, 0, none⟩)] 180)).alloc (.cells #[.int .i64 v.k, .int .i64 v.n, .string v.s] 24)).alloc (.cells #[.int .i64 d] 3)).heap[w.heap.size + 1]? = some (.cells #[.int .i64 v.k, .int .i64 v.n, .string v.s] 24 (0, 0)) ∧
        (((w.alloc (.cells #[.pointer (some ⟨tb, 0, none⟩)] 180)).alloc (.cells #[.int .i64 v.k, .int .i64 v.n, .string v.s] 24)).alloc (.cells #[.int .i64 d] 3)).heap[w.heap.size + 1 + 1]? = some (.cells #[.int .i64 d] 3 (0, 0)) := by
      refine ⟨?_, ?_, ?_⟩
      · rw [Below.heap_alloc _ _ _ (by simp only [World.size_alloc]; omega), Below.heap_alloc _ _ _ (by simp)]
        exact (MapKept.heap_alloc w _).1
      · rw [Below.heap_alloc _ _ _ (by simp)]
        have := (MapKept.heap_alloc (w.alloc (.cells #[.pointer (some ⟨tb, 0, none⟩)] 180)) (.cells #[.int .i64 v.k, .int .i64 v.n, .string v.s] 24)).1
        simpa using this
      · have := (MapKept.heap_alloc ((w.alloc (.cells #[.pointer (some ⟨tb, 0, none⟩)] 180)).alloc (.cells #[.int .i64 v.k, .int .i64 v.n, .string v.s] 24)) (.cells #[.int .i64 d] 3)).1
        simpa using this
    obtain ⟨bx1, bx2, bx3⟩ := hbx
    have hB := hB0 (.cells #[.pointer (some ⟨tb, 0, none⟩)] 180) (.cells #[.int .i64 v.k, .int .i64 v.n, .string v.s] 24) (.cells #[.int .i64 d] 3)
    generalize (((w.alloc (.cells #[.pointer (some ⟨tb, 0, none⟩)] 180)).alloc (.cells #[.int .i64 v.k, .int .i64 v.n, .string v.s] 24)).alloc (.cells #[.int .i64 d] 3)) = W1 at hB bx1 bx2 bx3 ⊢
    have hH1 := hH.below hB
    have hT1 := hT.below hB
    have bo : ∀ j, w.heap.size ≤ j → bldρ tb b j = false := fun j hj => by
      have h1 := hT.lt
      simp only [bldρ, Bool.or_eq_false_iff, beq_eq_false_iff_ne]
      exact ⟨by omega, fun e => by have := h1.2 j e; omega⟩
    have hz1 : w.heap.size + 1 + 1 < W1.heap.size := (Array.getElem?_eq_some_iff.1 bx3).1
    have e0 : W1.cell? ⟨tb, 0, none⟩ = some (.pointer (some ⟨hb, 0, none⟩)) := (World.cell?_of_block (a := ⟨tb, 0, none⟩) (hB.block tb hlt)).trans c0
    have tlt : tb < W1.heap.size := Nat.lt_of_lt_of_le hlt hB.size
    clear c3' hB0
    -- is it a list, a tuple or a dict?
    have d1 : ∀ W, Chg (fun _ => false) W1.drew W → W.cell? ⟨w.heap.size, 0, none⟩ = some (.pointer (some ⟨tb, 0, none⟩)) := fun W hW => (hW.cell (by simp; omega) rfl).trans (((cells_of_block bx1).1 0).trans rfl)
    have d2 : ∀ W, Chg (fun _ => false) W1.drew W → W.cell? ⟨w.heap.size + 1, 0, none⟩ = some (.int .i64 v.k) ∧ W.cell? ⟨w.heap.size + 1, 1, none⟩ = some (.int .i64 v.n) ∧ W.cell? ⟨w.heap.size + 1, 2, none⟩ = some (.string v.s) := fun W hW =>
      ⟨(hW.cell (by simp; omega) rfl).trans (((cells_of_block bx2).1 0).trans rfl), (hW.cell (by simp; omega) rfl).trans (((cells_of_block bx2).1 1).trans rfl), (hW.cell (by simp; omega) rfl).trans (((cells_of_block bx2).1 2).trans rfl)⟩
    have d3 : ∀ W, Chg (fun _ => false) W1.drew W → W.cell? ⟨tb, 0, none⟩ = some (.pointer (some ⟨hb, 0, none⟩)) := fun W hW => (hW.cell (by simpa using tlt) rfl).trans e0
    refine wp_region_M 8 [(0, true), (1, true), (2, true), (3, true), (4, true), (5, false), (6, true), (7, true)] [] [] (fun _ => false) (by kernel_rfl) (by kernel_rfl) (by simp) (fun _ _ => rfl) ?_
    iterate 5
      refine M_free rfl (by rfl) ?_
      apply Exists.intro
      refine ⟨fun W hW => ?_, ?_, ?_⟩
      · have x1 := d1 W hW
        obtain ⟨x2, x3, x4⟩ := d2 W hW
        have x5 := d3 W hW
        first | (go_simp; done) | (go_simp; with_reducible rfl)
      · exact fun _ _ _ h => h
      simp only [Act.put, List.setIfInBounds_toArray, List.set_cons_zero, List.set_cons_succ]
    refine M_call rfl (by rfl) (fun _ _ => rfl) fun W hBW hSW => ?_
    have hBW' : Below W1.heap.size W1 W := ⟨hBW.os, hBW.tape, hBW.output, hBW.size, hBW.block⟩
    refine ⟨_, _, _, by go_simp; try rfl, whole_any (hH1.below hBW') v, ?_⟩
    rintro e W2 ⟨rfl, hB2⟩
    refine ⟨_, rfl, hB2, ?_⟩
    simp only [Act.put, List.setIfInBounds_toArray, List.set_cons_zero, List.set_cons_succ]
    iterate 2
      refine M_free rfl (by rfl) ?_
      apply Exists.intro
      refine ⟨fun W hW => ?_, ?_, ?_⟩
      · first | (go_simp; done) | (go_simp; with_reducible rfl)
      · exact fun _ _ _ h => h
      simp only [Act.put, List.setIfInBounds_toArray, List.set_cons_zero, List.set_cons_succ]
    refine M_end0 fun W3 hB3 hS3 => ?_
    have hB3' : Below W1.heap.size W1 W3 := ⟨hS3.os, hS3.tape, hS3.output, hS3.size, fun j hj => hS3.block j hj rfl⟩
    have hH3 := hH1.below hB3'
    have hT3 := hT1.below hB3'
    have y1 := (hB3'.block _ (by omega)).trans bx1
    have y2 := (hB3'.block _ (by omega)).trans bx2
    have y3 := (hB3'.block _ hz1).trans bx3
    have ytb : W3.cell? ⟨tb, 0, none⟩ = some (.pointer (some ⟨hb, 0, none⟩)) := (World.cell?_of_block (a := ⟨tb, 0, none⟩) (hB3'.block tb tlt)).trans e0
    have hBw3 : Below w.heap.size w W3 := hB.trans (hB3'.mono hB.size)
    have z3 : w.heap.size + 1 + 1 < W3.heap.size := (Array.getElem?_eq_some_iff.1 y3).1
    have tlt3 := hT3.lt
    have hρ : ∀ j, W3.heap.size ≤ j → bldρ tb b j = false := fun j hj => bo j (by omega)
    clear hB3' hS3 hB3 hB2 hBW' hSW hBW d1 d2 d3 hT1 hH1 bx1 bx2 bx3 hB e0 tlt hz1
    clear W W1 W2
    have d1 : ∀ W, Chg (bldρ tb b) W3.drew W → W.cell? ⟨w.heap.size, 0, none⟩ = some (.pointer (some ⟨tb, 0, none⟩)) := fun W hW => (hW.cell (by simp; omega) (bo _ (by omega))).trans (((cells_of_block y1).1 0).trans rfl)
    have d2 : ∀ W, Chg (bldρ tb b) W3.drew W → W.cell? ⟨w.heap.size + 1, 0, none⟩ = some (.int .i64 v.k) ∧ W.cell? ⟨w.heap.size + 1, 1, none⟩ = some (.int .i64 v.n) ∧ W.cell? ⟨w.heap.size + 1, 2, none⟩ = some (.string v.s) := fun W hW =>
      ⟨(hW.cell (by simp; omega) (bo _ (by omega))).trans (((cells_of_block y2).1 0).trans rfl), (hW.cell (by simp; omega) (bo _ (by omega))).trans (((cells_of_block y2).1 1).trans rfl), (hW.cell (by simp; omega) (bo _ (by omega))).trans (((cells_of_block y2).1 2).trans rfl)⟩
    simp only [List.drop_succ_cons, List.drop_zero]
    cases hw : H.whole v with
    | false =>
      have hpl : 0 ≤ v.k ∧ v.k ≤ 3 ∧ v.s.size ≤ 66000 := by
        cases k with
        | zero =>
          rcases hok with h | h
          · rw [hw] at h; cases h
          · exact h
        | succ k =>
          rcases hok with h | h
          · rw [hw] at h; cases h.1
          · exact h.2
      have hS : tellS H k v st = sayS st (plainS v) := by cases k <;> rw [tellS, if_neg (by simpa using hn), if_pos hw]
      go_wp2_with fail
      refine wp_region_M 5 [(0, true), (1, true), (2, true), (3, false), (4, false)] [] [] (bldρ tb b) (by kernel_rfl) (by kernel_rfl) (by simp) hρ ?_
      iterate 3
        refine M_free rfl (by rfl) ?_
        apply Exists.intro
        refine ⟨fun W hW => ?_, ?_, ?_⟩
        · have x1 := d1 W hW
          obtain ⟨x2, x3, x4⟩ := d2 W hW
          first | (go_simp; done) | (go_simp; with_reducible rfl)
        · exact fun _ _ _ h => h
        simp only [Act.put, List.setIfInBounds_toArray, List.set_cons_zero, List.set_cons_succ]
      refine M_call rfl (by rfl) hρ fun W hBW hSW => ?_
      refine ⟨_, _, _, by go_simp; try rfl, plain_any (w := W) (.pointer (some ⟨tb, 0, none⟩)) v hpl.1 hpl.2.1 hpl.2.2, ?_⟩
      rintro e W4 ⟨rfl, hB4⟩
      refine ⟨_, rfl, hB4, ?_⟩
      simp only [Act.put, List.setIfInBounds_toArray, List.set_cons_zero, List.set_cons_succ]
      refine M_callW rfl (by rfl) fun W5 hB5 hS5 => ?_
      have hBW5 : Below W3.heap.size W3 W5 := (show Below W3.heap.size W3 W from ⟨hBW.os, hBW.tape, hBW.output, hBW.size, hBW.block⟩).trans (((hB4.trans (hB5.mono hB4.size))).mono hBW.size)
      refine ⟨_, _, _, by go_simp; try rfl, say_any (hT3.below hBW5) ⟨(plainS v).toArray⟩ ?_, ?_⟩
      · have := plainS_len v hpl.2.2 ⟨hpl.1, hpl.2.1⟩
        simpa [ByteArray.size] using this
      rintro e W6 ⟨rfl, b', hT6, hD6⟩
      have hD : Told w W6 tb b b' := (Told.of_below (hBw3.trans (hBW5.mono hBw3.size))).trans hD6
      refine ⟨_, bldρ tb b, rfl, hD6.chg, fun _ _ => rfl, fun j hj => hρ j (Nat.le_trans hBW5.size (Nat.le_trans hD6.chg.size hj)), ?_⟩
      simp only [Act.put, List.setIfInBounds_toArray, List.set_cons_zero, List.set_cons_succ]
      refine M_end0 fun W7 hB7 hS7 => ?_
      have hT7 := hT6.below hB7
      have hD7 := hD.trans (Told.of_below hB7)
      simp only [List.drop_succ_cons, List.drop_zero]
      clear hT6 hD6 hD hS7 hB7 hS5 hB5 hB4 hSW hBW hBW5
      go_wp2
      refine bodyPost_ret (results_none rfl _ _ _) rfl ?_
      exact ⟨rfl, b', by first | exact hT7 | (rw [hS]; exact hT7), hD7⟩
    | true =>
      have y3c : W3.cell? ⟨w.heap.size + 1 + 1, 0, none⟩ = some (.int .i64 d) := ((cells_of_block y3).1 0).trans rfl
      have y1c : W3.cell? ⟨w.heap.size, 0, none⟩ = some (.pointer (some ⟨tb, 0, none⟩)) := ((cells_of_block y1).1 0).trans rfl
      cases k with
      | zero =>
        have hd30 : 30 ≤ d := by have := HD.out; simp at this; omega
        have hS : tellS H 0 v st = { st with name := recErr } := by rw [tellS, if_neg (by simpa using hn), if_neg (by rw [hw]; decide)]
        obtain ⟨p3, hp3⟩ := hT3.at_
        obtain ⟨hc3, hf3, _⟩ := cells_of_block hp3.blk
        have n3 := hc3 3
        have m3 := hf3 3
        simp [tcells] at n3
        have hset := heap_setCell_same (o := 3) (u := .string recErr) hp3.blk
        have hTz : TellAt (W3.setCell ⟨tb, 3, none⟩ (.string recErr)) tb hb b { st with name := recErr } :=
          ⟨⟨p3, { blk := hset.trans rfl, c0 := hp3.c0, c1 := hp3.c1, row := ownsRow_same hp3.row (fun k hk => Below.heap_setCell _ _ _ _ (fun e => hp3.ne (by rw [hk]; exact congrArg some e))), ne := hp3.ne, nz := hp3.nz, lies := hp3.lies }⟩, hT3.len⟩
        have hDz : Told w (W3.setCell ⟨tb, 3, none⟩ (.string recErr)) tb b b := (Told.of_below hBw3).trans ⟨(Chg.refl _ _).setCell (fun _ => by simp [bldρ]) _, .inl rfl⟩
        clear hc3 hf3 hp3 hset hT3
        go_wp2
        refine bodyPost_ret (results_none rfl _ _ _) rfl ?_
        exact ⟨rfl, b, by rw [hS]; exact hTz, hDz⟩
      | succ k =>
        have hok' : H.kind v ≠ 3 ∧ ∀ x ∈ H.items v, TellOk H k x := by
          rcases hok with h | h
          · exact h.2
          · rw [hw] at h; cases h.1
        have hd30 : d < 30 := by have := HD.out; omega
        go_wp2_with fail
        refine wp_region_M 7 [(0, true), (1, true), (2, true), (3, true), (4, true), (5, false)] [⟨6, 6, 59, #[.slice none 0 0]⟩] [] (fun _ => false) (by kernel_rfl) (by kernel_rfl) ?_ (fun _ _ => rfl) ?_
        · intro x hx W
          simp only [List.mem_singleton] at hx
          subst hx
          kernel_rfl
        iterate 5
          refine M_free rfl (by rfl) ?_
          apply Exists.intro
          refine ⟨fun W hW => ?_, ?_, ?_⟩
          · have x1 := d1 W (hW.mono (fun _ _ h => by cases h))
            obtain ⟨x2, x3, x4⟩ := d2 W (hW.mono (fun _ _ h => by cases h))
            have x5 : W.cell? ⟨tb, 0, none⟩ = some (.pointer (some ⟨hb, 0, none⟩)) := (hW.cell (by simpa using tlt3.1) rfl).trans ytb
            first | (go_simp; done) | (go_simp; with_reducible rfl)
          · exact fun _ _ _ h => h
          simp only [Act.put, List.setIfInBounds_toArray, List.set_cons_zero, List.set_cons_succ]
        refine M_call rfl (by rfl) (fun _ _ => rfl) fun W hBW hSW => ?_
        have hBW' : Below W3.heap.size W3 W := ⟨hBW.os, hBW.tape, hBW.output, hBW.size, hBW.block⟩
        refine ⟨_, _, _, by go_simp; try rfl, Items_any (hH3.below hBW') v, ?_⟩
        rintro e W4 ⟨lv, rfl, hO4, hB4⟩
        refine ⟨_, rfl, hB4, ?_⟩
        simp only [Act.put, List.setIfInBounds_toArray, List.set_cons_zero, List.set_cons_succ]
        refine M_end fun W5 val hB5 hS5 hal _ => ?_
        have hal6 := hal ⟨6, 6, 59, #[.slice none 0 0]⟩ (by simp)
        simp only [laid, cond_true, Act.put, List.setIfInBounds_toArray, List.set_cons_zero, List.set_cons_succ, wpPi, List.drop_succ_cons, List.drop_zero]
        generalize val 6 = ℓ at hal6 ⊢
        clear hal
        obtain ⟨yl0, _, hℓ⟩ := hal6
        have hℓ' : W3.heap.size ≤ ℓ := hℓ
        have hB35 : Below W3.heap.size W3 W5 := ⟨hS5.os, hS5.tape, hS5.output, hS5.size, fun j hj => hS5.block j hj rfl⟩
        have hO5 : W5.ownsRow W3.heap.size 24 3 lv (H.items v).length (flat (H.items v)) := ownsRow_base' (ownsRow_same hO4 (fun j hj => hB5.block j (owns_lt hO4 hj))) hBW'.size
        have hlit : (H.items v).length ≤ 1073741824 := by
          obtain ⟨ma, mr, pb, h⟩ := hH3
          cases ho : H.of v with
          | none => rw [PH.items_none ho]; simp
          | some o => rw [PH.items_some ho]; obtain ⟨_, _, _, hO⟩ := h.of ho; exact hO.small
        obtain ⟨la, lc, hlv⟩ := ownsRow_slice hO5
        generalize hil : (H.items v).length = il at hlv hO5
        subst hlv
        obtain ⟨hcl, hfl, hll⟩ := cells_of_block yl0
        have cl0 := hcl 0
        have fl0 := hfl 0
        simp at cl0
        clear hcl hfl hO4 hB4 hB5 hSW hBW
        go_wp2_with fail
        have hB37 : Below W3.heap.size W3 ((W5.setCell ⟨ℓ, 0, none⟩ (.slice la il lc)).alloc (.cells #[(.func (.func 220) #[] #[.pointer (some ⟨w.heap.size, 0, none⟩), .pointer (some ⟨ℓ, 0, none⟩), .pointer (some ⟨w.heap.size + 1 + 1, 0, none⟩)])] 143)) := (hB35.setCell (p := ⟨ℓ, 0, none⟩) hℓ' _).alloc (by rw [World.size_setCell]; exact hB35.size) _
        have yl7 : ((W5.setCell ⟨ℓ, 0, none⟩ (.slice la il lc)).alloc (.cells #[(.func (.func 220) #[] #[.pointer (some ⟨w.heap.size, 0, none⟩), .pointer (some ⟨ℓ, 0, none⟩), .pointer (some ⟨w.heap.size + 1 + 1, 0, none⟩)])] 143)).heap[ℓ]? = some (.cells #[.slice la il lc] 59 (0, 0)) := (Below.heap_alloc _ _ _ (by rw [World.size_setCell]; exact hll)).trans (heap_setCell_same yl0)
        have yc7 : ((W5.setCell ⟨ℓ, 0, none⟩ (.slice la il lc)).alloc (.cells #[(.func (.func 220) #[] #[.pointer (some ⟨w.heap.size, 0, none⟩), .pointer (some ⟨ℓ, 0, none⟩), .pointer (some ⟨w.heap.size + 1 + 1, 0, none⟩)])] 143)).heap[W5.heap.size]? = some (.cells #[(.func (.func 220) #[] #[.pointer (some ⟨w.heap.size, 0, none⟩), .pointer (some ⟨ℓ, 0, none⟩), .pointer (some ⟨w.heap.size + 1 + 1, 0, none⟩)])] 143 (0, 0)) := by
          have := (MapKept.heap_alloc (W5.setCell ⟨ℓ, 0, none⟩ (.slice la il lc)) (.cells #[(.func (.func 220) #[] #[.pointer (some ⟨w.heap.size, 0, none⟩), .pointer (some ⟨ℓ, 0, none⟩), .pointer (some ⟨w.heap.size + 1 + 1, 0, none⟩)])] 143)).1
          rwa [World.size_setCell] at this
        have hO7 : ((W5.setCell ⟨ℓ, 0, none⟩ (.slice la il lc)).alloc (.cells #[(.func (.func 220) #[] #[.pointer (some ⟨w.heap.size, 0, none⟩), .pointer (some ⟨ℓ, 0, none⟩), .pointer (some ⟨w.heap.size + 1 + 1, 0, none⟩)])] 143)).ownsRow W3.heap.size 24 3 (.slice la il lc) il (flat (H.items v)) := ownsRow_same hO5 (fun j hj => (Below.heap_alloc _ _ _ (by rw [World.size_setCell]; exact owns_lt hO5 hj)).trans (Below.heap_setCell _ _ _ _ (fun e => by
          have e' : j = ℓ := e
          obtain ⟨_, ⟨e1, _⟩ | ⟨g', c', cur, e1, _, hh, _⟩⟩ := hO5
          · rw [e1] at hj; cases hj
          · rw [e1] at hj; have : g' = j := by simpa [Value.ownBlock] using hj
            subst this; subst e'; rw [yl0] at hh; have := Option.some.inj hh; simp at this)))
        generalize ((W5.setCell ⟨ℓ, 0, none⟩ (.slice la il lc)).alloc (.cells #[(.func (.func 220) #[] #[.pointer (some ⟨w.heap.size, 0, none⟩), .pointer (some ⟨ℓ, 0, none⟩), .pointer (some ⟨w.heap.size + 1 + 1, 0, none⟩)])] 143)) = W7 at hB37 yl7 yc7 hO7 ⊢
        have hrow7 := RowV.of_owns (l := H.items v) (v := .slice la il lc) (by rw [hil]; exact hO7)
        have hlb : ∀ j, (Value.slice la il lc).ownBlock = some j → W3.heap.size ≤ j := fun j hj => owns_base hO7 hj
        have hc7 : W3.heap.size ≤ W5.heap.size := hB35.size
        generalize W5.heap.size = cb at yc7 hc7 ⊢
        clear hO7 hO5 cl0 fl0 hll yl0 hB35 hS5 W4 hBW'
        have hH7 := hH3.below hB37
        have hT7 := hT3.below hB37
        have u1 := (hB37.block _ (by omega)).trans y1
        have u2 := (hB37.block _ (by omega)).trans y2
        have u3 := (hB37.block _ z3).trans y3
        have utb : W7.cell? ⟨tb, 0, none⟩ = some (.pointer (some ⟨hb, 0, none⟩)) := (World.cell?_of_block (a := ⟨tb, 0, none⟩) (hB37.block tb tlt3.1)).trans ytb
        have hBw7 : Below w.heap.size w W7 := hBw3.trans (hB37.mono hBw3.size)
        have tlt7 := hT7.lt
        have z7 := hB37.size
        have g1 : ∀ W, Chg (fun _ => false) W7.drew W → W.cell? ⟨w.heap.size, 0, none⟩ = some (.pointer (some ⟨tb, 0, none⟩)) := fun W hW => (hW.cell (by simp; omega) rfl).trans (((cells_of_block u1).1 0).trans rfl)
        have g2 : ∀ W, Chg (fun _ => false) W7.drew W → W.cell? ⟨w.heap.size + 1, 0, none⟩ = some (.int .i64 v.k) ∧ W.cell? ⟨w.heap.size + 1, 1, none⟩ = some (.int .i64 v.n) ∧ W.cell? ⟨w.heap.size + 1, 2, none⟩ = some (.string v.s) := fun W hW =>
          ⟨(hW.cell (by simp; omega) rfl).trans (((cells_of_block u2).1 0).trans rfl), (hW.cell (by simp; omega) rfl).trans (((cells_of_block u2).1 1).trans rfl), (hW.cell (by simp; omega) rfl).trans (((cells_of_block u2).1 2).trans rfl)⟩
        refine wp_region_M 6 [(0, true), (1, true), (2, true), (3, true), (4, true), (5, false)] [] [] (fun _ => false) (by kernel_rfl) (by kernel_rfl) (by simp) (fun _ _ => rfl) ?_
        iterate 5
          refine M_free rfl (by rfl) ?_
          apply Exists.intro
          refine ⟨fun W hW => ?_, ?_, ?_⟩
          · have x1 := g1 W hW
            obtain ⟨x2, x3, x4⟩ := g2 W hW
            have x5 : W.cell? ⟨tb, 0, none⟩ = some (.pointer (some ⟨hb, 0, none⟩)) := (hW.cell (by simpa using tlt7.1) rfl).trans utb
            first | (go_simp; done) | (go_simp; with_reducible rfl)
          · exact fun _ _ _ h => h
          simp only [Act.put, List.setIfInBounds_toArray, List.set_cons_zero, List.set_cons_succ]
        refine M_call rfl (by rfl) (fun _ _ => rfl) fun W hBW hSW => ?_
        have hBW' : Below W7.heap.size W7 W := ⟨hBW.os, hBW.tape, hBW.output, hBW.size, hBW.block⟩
        refine ⟨_, _, _, by go_simp; try rfl, Kind_any (hH7.below hBW') v, ?_⟩
        rintro e W8 ⟨rfl, hB8⟩
        refine ⟨_, rfl, hB8, ?_⟩
        simp only [Act.put, List.setIfInBounds_toArray, List.set_cons_zero, List.set_cons_succ]
        refine M_end0 fun W9 hB9 hS9 => ?_
        have hB79 : Below W7.heap.size W7 W9 := ⟨hS9.os, hS9.tape, hS9.output, hS9.size, fun j hj => hS9.block j hj rfl⟩
        clear hS9 hB9 hB8 hSW hBW hBW' g1 g2
        simp only [List.drop_succ_cons, List.drop_zero]
        have hll7 : ℓ < W7.heap.size := (Array.getElem?_eq_some_iff.1 yl7).1
        have hcb7 : cb < W7.heap.size := (Array.getElem?_eq_some_iff.1 yc7).1
        have hH9 := hH7.below hB79
        have hT9 := hT7.below hB79
        have q1 := (hB79.block _ (by omega)).trans u1
        have q3 := (hB79.block _ (by omega)).trans u3
        have ql := (hB79.block _ hll7).trans yl7
        have qc := (hB79.block _ hcb7).trans yc7
        have hrow9 : RowV W9 (.slice la il lc) (H.items v) := hrow7.chg (ρ := fun _ => false) (Chg.of_below hB79) (fun _ _ => rfl)
        have q1c : W9.cell? ⟨w.heap.size, 0, none⟩ = some (.pointer (some ⟨tb, 0, none⟩)) := ((cells_of_block q1).1 0).trans rfl
        have qlc : W9.cell? ⟨ℓ, 0, none⟩ = some (.slice la il lc) := ((cells_of_block ql).1 0).trans rfl
        have qcc : W9.cell? ⟨cb, 0, none⟩ = some (.func (.func 220) #[] #[.pointer (some ⟨w.heap.size, 0, none⟩), .pointer (some ⟨ℓ, 0, none⟩), .pointer (some ⟨w.heap.size + 1 + 1, 0, none⟩)]) := ((cells_of_block qc).1 0).trans rfl
        have hBw9 : Below w.heap.size w W9 := hBw7.trans (hB79.mono hBw7.size)
        clear hH7 hT7 u1 u2 u3 yl7 yc7 hrow7 utb hH3 hT3 y1 y2 y3 ytb y1c y3c
        have hpart : ∀ (i : Nat) (wr : World) (b' : Value) (st' : St), i < il → Told W9 wr tb b b' → TellAt wr tb hb b' st' →
            Calls Tryz.prog 220 (#[.int .i64 i] ++ #[.pointer (some ⟨w.heap.size, 0, none⟩), .pointer (some ⟨ℓ, 0, none⟩), .pointer (some ⟨w.heap.size + 1 + 1, 0, none⟩)]) wr fun e w' => e = .returned (.tuple #[]) ∧ ∃ b'', TellAt w' tb hb b'' (tellS H k ((H.items v).getD i V.none) st') ∧ Told wr w' tb b' b'' := by
          intro i wr b' st' hi hD hT'
          have hx : (H.items v)[i]? = some ((H.items v).getD i V.none) := by
            have : i < (H.items v).length := by omega
            simp [List.getD, List.getElem?_eq_getElem this]
          have hmem : (H.items v).getD i V.none ∈ H.items v := List.mem_of_getElem? hx
          have s9 := hB79.size
          have n1 := bo w.heap.size (Nat.le_refl _)
          have nl := bo ℓ (by omega)
          have n3 := bo (w.heap.size + 1 + 1) (by omega)
          have hrr : RowV wr (.slice la il lc) (H.items v) := hrow9.chg hD.chg (fun j hj => bo j (by have := hlb j hj; omega))
          refine part_any hT' ((hD.chg.block _ (by omega) n1).trans q1) ((hD.chg.block _ (by omega) nl).trans ql) ((hD.chg.block _ (by omega) n3).trans q3) hrr i _ hx (by have := HD.out; omega) hd30 (by omega)
            (hD.keep (by omega) n1) (hD.keep (by omega) nl) (hD.keep (by omega) n3) (fun j hj => ?_) (fun W hBW => ?_)
          · by_cases hjl : j < W9.heap.size
            · exact hD.keep hjl (bo j (by have := hlb j hj; omega))
            · exfalso
              have hne : H.items v ≠ [] := by intro e; rw [e] at hil; simp at hil; omega
              exact hjl (hrow9.lt hne j hj)
          · obtain ⟨hHr, hτr⟩ := hH9.told hD hτ hτ2
            have hdk : d + 1 = 30 - (k : Int) := by have := HD.out; omega
            rw [hdk]
            exact IH.out k rfl (hHr.below hBW) (hT'.below hBW) hτr _ (hok'.2 _ hmem)
        have hfn : ∀ args w, (callFunc 220 args).run Tryz.prog w = .ok (.enter 220 args) w := enters_of Tryz.func220 (by kernel_rfl) rfl
        have HPA := Lib.hid hpart
        clear hpart IH d1 d2 hρ hlb bo hrow9 q1 q3 ql qc hH9 hH hτ2 hτ hok c0 c3 hT tlt3 tlt7
        rw [hil] at hlit
        have hlitH := Lib.hid hlit
        clear hlit
        by_cases hk1 : H.kind v = 1
        · have hS : tellS H (k + 1) v st = rowS ⟨#[91, 93]⟩ il (fun i => tellS H k ((H.items v).getD i V.none)) st := by rw [tellS, if_neg (by simpa using hn), if_neg (by rw [hw]; decide), if_pos hk1, hil]
          have HSH := Lib.hid hS
          clear hS
          go_wp2_with fail
          refine (rowT_any hT9 ⟨#[91, 93]⟩ (by decide) (by decide) il hlitH.out _ hfn _ _ HPA.out).mono ?_
          rintro e W10 ⟨rfl, b', hT10, hD10⟩
          have hD := (Told.of_below hBw9 (tb := tb) (v := b)).trans hD10
          go_wp2
          go_end0
          exact ⟨rfl, b', HSH.out ▸ hT10, hD⟩
        · have hk2 : H.kind v = 2 := by
            have := hok'.1
            simp [PH.whole, PH.row] at hw
            omega
          by_cases h1 : il = 1
          · have hS : tellS H (k + 1) v st = rowS ⟨#[40, 44, 41]⟩ il (fun i => tellS H k ((H.items v).getD i V.none)) st := by rw [tellS, if_neg (by simpa using hn), if_neg (by rw [hw]; decide), if_neg hk1, if_pos hk2, hil, if_pos h1]
            have HSH := Lib.hid hS
            have h1' : ((il : Int) == 1) = true := by simp; omega
            clear hS h1
            go_wp2_with fail
            refine (rowT_any hT9 ⟨#[40, 44, 41]⟩ (by decide) (by decide) il hlitH.out _ hfn _ _ HPA.out).mono ?_
            rintro e W10 ⟨rfl, b', hT10, hD10⟩
            have hD := (Told.of_below hBw9 (tb := tb) (v := b)).trans hD10
            go_wp2
            go_end0
            exact ⟨rfl, b', HSH.out ▸ hT10, hD⟩
          · have hS : tellS H (k + 1) v st = rowS ⟨#[40, 41]⟩ il (fun i => tellS H k ((H.items v).getD i V.none)) st := by rw [tellS, if_neg (by simpa using hn), if_neg (by rw [hw]; decide), if_neg hk1, if_pos hk2, hil, if_neg h1]
            have HSH := Lib.hid hS
            have h1' : ((il : Int) == 1) = false := by simp; omega
            clear hS
            go_wp2_with fail
            refine (rowT_any hT9 ⟨#[40, 41]⟩ (by decide) (by decide) il hlitH.out _ hfn _ _ HPA.out).mono ?_
            rintro e W10 ⟨rfl, b', hT10, hD10⟩
            have hD := (Told.of_below hBw9 (tb := tb) (v := b)).trans hD10
            go_wp2
            go_end0
            exact ⟨rfl, b', HSH.out ▸ hT10, hD⟩
  · rw [decide_eq_false hn] at he
    have hS : tellS H k v st = st := by cases k <;> rw [tellS, if_pos hn]
    have hB := hB0 (.cells #[.pointer (some ⟨tb, 0, none⟩)] 180) (.cells #[.int .i64 v.k, .int .i64 v.n, .string v.s] 24) (.cells #[.int .i64 d] 3)
    clear hB0
    go_enter Tryz.func156, Tryz.ntmps156
    go_wp2
    refine bodyPost_ret (results_none rfl _ _ _) rfl ?_
    exact ⟨rfl, b, by rw [hS]; exact hT.below hB, Told.of_below hB⟩

theorem tell_any {τ : Tag} {hb tb : Nat} {H : PH} (hτ : own τ tb = false) : ∀ (k : Nat), k ≤ 30 → ∀ {w : World}, HeapAt w τ hb H → ∀ {b : Value} {st : St}, TellAt w tb hb b st → (∀ k, b.ownBlock = some k → own τ k = false) → ∀ v : V, TellOk H k v →
    Calls Tryz.prog 156 #[.pointer (some ⟨tb, 0, none⟩), v.val, .int .i64 (30 - (k : Int))] w fun e w' => e = .returned (.tuple #[]) ∧ ∃ b', TellAt w' tb hb b' (tellS H k v st) ∧ Told w w' tb b b' := by
  intro k
  induction k with
  | zero => intro hk w hH b st hT hτ2 v hok; exact tell_step hτ 0 hk (fun k' e => by omega) hH hT hτ2 v hok
  | succ k ih =>
    intro hk w hH b st hT hτ2 v hok
    refine tell_step hτ (k + 1) hk (fun k' e => ?_) hH hT hτ2 v hok
    have e' : k' = k := by omega
    subst e'
    intro w' hH' b' st' hT' hτ2' v' hok'
    exact ih (by omega) hH' hT' hτ2' v' hok'

end Go.Proofs.YtjhfjllgjgnmeaaGreat

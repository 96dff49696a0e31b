/- Package operate: Repr. -/
import Derived.Test.YtjhfjllgjgnmeaaGreatTellB
import Derived.Test.YtjhfjllgjgnmeaaGreatSame
namespace Go.Proofs.YtjhfjllgjgnmeaaGreat
open Go.RowKit Go.Maps
attribute [local go_sem] World.cell?_alloc_some

def reprS (H : PH) (v : V) : St := tellS H 30 v ⟨[], ByteArray.empty⟩
def reprOut (st : St) : ByteArray := if st.name = ByteArray.empty then ⟨st.l.toArray⟩ else ByteArray.empty

set_option maxRecDepth 100000 in
set_option maxHeartbeats 1600000 in
theorem Repr_any {w : World} {τ : Tag} {hb : Nat} {H : PH} (h : HeapAt w τ hb H) (v : V) (hok : TellOk H 30 v) :
    Calls Tryz.prog 42 #[.pointer (some ⟨hb, 0, Option.none⟩), v.val] w fun e w' => e = .returned (.tuple #[.string (reprOut (reprS H v)), (Ex.raise (reprS H v).name).val]) ∧ Below w.heap.size w w' := by
  have hn0 : ∀ j, w.heap.size ≤ j → own τ j = false := fun j hj => by
    cases hx : own τ j with
    | false => rfl
    | true => have := h.olt j hx; omega
  go_enter Tryz.func42, Tryz.ntmps42
  go_wp2_with fail
  have hB0 : Below w.heap.size w (((w.alloc (.cells #[.int .i64 v.k, .int .i64 v.n, .string v.s] 24)).alloc (.cells #[.string ⟨#[]⟩, .int .i64 0, .int .i64 0, .string ⟨#[]⟩, .bool false] 33)).alloc (.cells #[.pointer (some ⟨hb, 0, Option.none⟩), .pointer Option.none, .slice Option.none 0 0, .string ⟨#[]⟩] 185)) := bal (bal (bal (b0 _) _) _) _
  have he : (((w.alloc (.cells #[.int .i64 v.k, .int .i64 v.n, .string v.s] 24)).alloc (.cells #[.string ⟨#[]⟩, .int .i64 0, .int .i64 0, .string ⟨#[]⟩, .bool false] 33)).alloc (.cells #[.pointer (some ⟨hb, 0, Option.none⟩), .pointer Option.none, .slice Option.none 0 0, .string ⟨#[]⟩] 185)).heap[w.heap.size + 1]? = some (.cells #[.string ⟨#[]⟩, .int .i64 0, .int .i64 0, .string ⟨#[]⟩, .bool false] 33 (0, 0)) := by
    rw [Below.heap_alloc _ _ _ (by simp)]
    have := (MapKept.heap_alloc (w.alloc (.cells #[.int .i64 v.k, .int .i64 v.n, .string v.s] 24)) (.cells #[.string ⟨#[]⟩, .int .i64 0, .int .i64 0, .string ⟨#[]⟩, .bool false] 33)).1
    simpa using this
  have ht : (((w.alloc (.cells #[.int .i64 v.k, .int .i64 v.n, .string v.s] 24)).alloc (.cells #[.string ⟨#[]⟩, .int .i64 0, .int .i64 0, .string ⟨#[]⟩, .bool false] 33)).alloc (.cells #[.pointer (some ⟨hb, 0, Option.none⟩), .pointer Option.none, .slice Option.none 0 0, .string ⟨#[]⟩] 185)).heap[w.heap.size + 1 + 1]? = some (.cells #[.pointer (some ⟨hb, 0, Option.none⟩), .pointer Option.none, .slice Option.none 0 0, .string ⟨#[]⟩] 185 (0, 0)) := by
    have := (MapKept.heap_alloc ((w.alloc (.cells #[.int .i64 v.k, .int .i64 v.n, .string v.s] 24)).alloc (.cells #[.string ⟨#[]⟩, .int .i64 0, .int .i64 0, .string ⟨#[]⟩, .bool false] 33)) (.cells #[.pointer (some ⟨hb, 0, Option.none⟩), .pointer Option.none, .slice Option.none 0 0, .string ⟨#[]⟩] 185)).1
    simpa using this
  have hT : TellAt (((w.alloc (.cells #[.int .i64 v.k, .int .i64 v.n, .string v.s] 24)).alloc (.cells #[.string ⟨#[]⟩, .int .i64 0, .int .i64 0, .string ⟨#[]⟩, .bool false] 33)).alloc (.cells #[.pointer (some ⟨hb, 0, Option.none⟩), .pointer Option.none, .slice Option.none 0 0, .string ⟨#[]⟩] 185)) (w.heap.size + 1 + 1) hb (.slice Option.none 0 0) ⟨[], ByteArray.empty⟩ :=
    ⟨⟨.pointer Option.none, { blk := ht, c0 := .inl rfl, c1 := rfl, row := World.ownsRow_nil _ _ _ _, ne := by simp [Value.ownBlock], nz := fun _ => rfl, lies := by kernel_rfl }⟩, by simp⟩
  refine (tell_any (hn0 _ (by omega)) 30 (Nat.le_refl _) (h.below hB0) hT (fun k hk => by cases hk) v hok).mono ?_
  rintro e X1 ⟨rfl, b', hT1, hD1⟩
  have hst : tellS H 30 v ⟨[], ByteArray.empty⟩ = reprS H v := rfl
  rw [hst] at hT1
  generalize hrs : reprS H v = st at hT1
  have zX := hD1.chg.size
  simp only [World.size_alloc] at zX
  have he1 := (hD1.chg.block (w.heap.size + 1) (by simp only [World.size_alloc]; omega) (by simp [bldρ, Value.ownBlock])).trans he
  have hB1 : Below w.heap.size w X1 := hB0.trans ⟨hD1.chg.os, hD1.chg.tape, hD1.chg.output, hD1.chg.size, fun j hj => hD1.chg.block j (by simp only [World.size_alloc]; omega) (by simp [bldρ, Value.ownBlock]; omega)⟩
  obtain ⟨p, hp⟩ := hT1.at_
  obtain ⟨hc, _, hlt⟩ := cells_of_block hp.blk
  have c3 := hc 3
  simp [tcells] at c3
  have hnm := nameE st.name
  have hlen := hT1.len
  have hbo : ∀ j, b'.ownBlock = some j → w.heap.size + 1 + 1 + 1 ≤ j := fun j hj => by
    rcases hD1.new with e | ⟨i, e, hi⟩
    · rw [e] at hj; cases hj
    · rw [e] at hj; have := Option.some.inj hj; simp only [World.size_alloc] at hi; omega
  clear hc hB0 he ht hT h hok hD1
  obtain ⟨⟨e0, e1, e2, e3, e4⟩, ⟨n0, n1, n2, n3, n4⟩, el⟩ := factsE he1
  by_cases hn : st.name = ByteArray.empty
  · rw [decide_eq_true hn] at hnm
    clear e0 e1 e2 e3 e4 n0 n1 n2 n3 n4
    go_wp2_with fail
    refine (bldString_any hp (by omega)).mono ?_
    rintro e X2 ⟨rfl, hC⟩
    have he2 := (hC.block _ el (by
      simp only [bldρ, Bool.or_eq_false_iff, beq_eq_false_iff_ne]
      exact ⟨by omega, fun e => by have := hbo _ e; omega⟩)).trans he1
    have hB2 : Below w.heap.size w X2 := hB1.trans ⟨hC.os, hC.tape, hC.output, hC.size, fun j hj => hC.block j (Nat.lt_of_lt_of_le hj hB1.size) (by
      simp only [bldρ, Bool.or_eq_false_iff, beq_eq_false_iff_ne]
      exact ⟨by omega, fun e => by have := hbo _ e; omega⟩)⟩
    obtain ⟨⟨e0, e1, e2, e3, e4⟩, ⟨n0, n1, n2, n3, n4⟩, el2⟩ := factsE he2
    have hout : reprOut st = ⟨st.l.toArray⟩ := by rw [reprOut, if_pos hn]
    clear hp hC hT1 hst
    go_wp2
    obtain ⟨f1, f2⟩ := fin_E (w := w) (by omega) he2 hB2 _ _ _ _ _
    refine ret_tE rfl rfl rfl rfl f1 rfl ⟨?_, f2⟩
    rw [hrs, hout, hn]
    rfl
  · rw [decide_eq_false hn] at hnm
    go_wp2_with fail
    refine (raise_any _ _).mono ?_
    rintro e X2 ⟨rfl, hB⟩
    have he2 := (hB.block _ el).trans he1
    have hB2 := btr hB1 hB
    clear e0 e1 e2 e3 e4 n0 n1 n2 n3 n4 hB
    obtain ⟨⟨e0, e1, e2, e3, e4⟩, ⟨n0, n1, n2, n3, n4⟩, el2⟩ := factsE he2
    have hout : reprOut st = ByteArray.empty := by rw [reprOut, if_neg hn]
    clear hp hT1 hst
    go_wp2
    obtain ⟨f1, f2⟩ := fin_E (w := w) (by omega) he2 hB2 _ _ _ _ _
    refine ret_tE rfl rfl rfl rfl f1 rfl ⟨?_, f2⟩
    rw [hrs, hout]
    rfl

end Go.Proofs.YtjhfjllgjgnmeaaGreat

/- Package operate: row, whole; the teller's plain. -/
import Derived.Test.YtjhfjllgjgnmeaaGreatRow
namespace Go.Proofs.YtjhfjllgjgnmeaaGreat
open Go.RowKit Go.Maps
attribute [local go_sem] World.cell?_alloc_some

/-- A list, or a tuple. -/
def PH.row (H : PH) (v : V) : Bool := H.kind v == 1 || H.kind v == 2
def PH.whole (H : PH) (v : V) : Bool := H.row v || H.kind v == 3

set_option maxHeartbeats 400000 in
theorem orow_any {w : World} {τ : Tag} {hb : Nat} {H : PH} (h : HeapAt w τ hb H) (v : V) :
    Calls Tryz.prog 97 #[.pointer (some ⟨hb, 0, none⟩), v.val] w fun e w' => e = .returned (.bool (H.row v)) ∧ Below w.heap.size w w' := by
  go_enter Tryz.func97, Tryz.ntmps97
  go_wp2_with fail
  refine (Kind_any (h.below (bal (b0 _) _)) v).mono ?_
  rintro e w1 ⟨rfl, hB⟩
  have hB1 := btr (bal (b0 _) _) hB
  clear hB h
  have hr : H.row v = (H.kind v == 1 || H.kind v == 2) := rfl
  generalize H.kind v = kk at hr ⊢
  by_cases k1 : kk = 1
  · go_wp2
    go_ret
    exact ⟨by rw [hr, k1]; rfl, hB1⟩
  · have k1' : (kk == 1) = false := by simpa using k1
    by_cases k2 : kk = 2
    · go_wp2
      go_ret
      exact ⟨by rw [hr, k2]; rfl, hB1⟩
    · have k2' : (kk == 2) = false := by simpa using k2
      go_wp2
      go_ret
      exact ⟨by rw [hr, k1', k2']; rfl, hB1⟩

set_option maxHeartbeats 400000 in
theorem whole_any {w : World} {τ : Tag} {hb : Nat} {H : PH} (h : HeapAt w τ hb H) (v : V) :
    Calls Tryz.prog 79 #[.pointer (some ⟨hb, 0, none⟩), v.val] w fun e w' => e = .returned (.bool (H.whole v)) ∧ Below w.heap.size w w' := by
  have hcell := (MapKept.heap_alloc w (.cells #[.int .i64 v.k, .int .i64 v.n, .string v.s] 24)).1
  go_enter Tryz.func79, Tryz.ntmps79
  go_wp2_with fail
  refine (orow_any (h.below (bal (b0 _) _)) v).mono ?_
  rintro e w1 ⟨rfl, hB⟩
  have hB1 := btr (bal (b0 _) _) hB
  obtain ⟨hc, _, _⟩ := cells_of_block ((hB.block _ (by simp)).trans hcell)
  have c0 := hc 0
  have c1 := hc 1
  have c2 := hc 2
  simp at c0 c1 c2
  clear hc hcell
  cases hr : H.row v with
  | true =>
    have hw : H.whole v = true := by simp [PH.whole, hr]
    clear hB h
    go_wp2
    go_ret
    exact ⟨by rw [hw]; rfl, hB1⟩
  | false =>
    have hw : H.whole v = (H.kind v == 3) := by simp [PH.whole, hr]
    have h1 := h.below hB1
    clear hB h
    go_wp2_with fail
    refine (Kind_any h1 v).mono ?_
    rintro e w2 ⟨rfl, hB⟩
    have hB2 := btr hB1 hB
    clear hB h1
    generalize H.kind v = kk at hw ⊢
    go_wp2
    go_ret
    exact ⟨by rw [hw]; rfl, hB2⟩

/-- How a value that is no list, tuple or dict is told (None, bools, ints, strs). -/
def plainS (v : V) : List UInt8 :=
  if v.k = 0 then [78, 111, 110, 101] else if v.k = 1 then (if v.n ≠ 0 then [84, 114, 117, 101] else [70, 97, 108, 115, 101]) else
  if v.k = 2 then textB v.n else quoteS v.s.data.toList

set_option maxRecDepth 100000 in
set_option maxHeartbeats 800000 in
theorem plain_any {w : World} (tp : Value) (v : V) (h0 : 0 ≤ v.k) (h3 : v.k ≤ 3) (hs : v.s.size ≤ 66000) :
    Calls Tryz.prog 219 #[tp, v.val] w fun e w' => e = .returned (.string ⟨(plainS v).toArray⟩) ∧ Below w.heap.size w w' := by
  have hk : v.k = 0 ∨ v.k = 1 ∨ v.k = 2 ∨ v.k = 3 := by omega
  have hn := v.hn
  have HS := Lib.hid hs
  unfold plainS V.val
  obtain ⟨k, n, s, hk', hn', hs'⟩ := v
  have HN := Lib.hid hn'
  dsimp only at *
  clear h0 h3 hs hn
  rcases hk with rfl | rfl | rfl | rfl
  · go_enter Tryz.func219, Tryz.ntmps219
    go_wp2
    go_ret
    exact ⟨rfl, bal (b0 _) _⟩
  · by_cases hz : n = 0
    · go_enter Tryz.func219, Tryz.ntmps219
      go_wp2
      go_ret
      exact ⟨by simp, bal (b0 _) _⟩
    · have hz' : (n != 0) = true := by simpa using hz
      go_enter Tryz.func219, Tryz.ntmps219
      go_wp2
      go_ret
      exact ⟨by simp, bal (b0 _) _⟩
  · go_enter Tryz.func219, Tryz.ntmps219
    go_wp2_with fail
    refine (Text_any _ n HN.out).mono ?_
    rintro e w1 ⟨rfl, hB⟩
    have hB1 := btr (bal (b0 _) _) hB
    clear hB
    go_wp2
    go_ret
    exact ⟨rfl, hB1⟩
  · go_enter Tryz.func219, Tryz.ntmps219
    go_wp2_with fail
    refine (Quote_any _ s HS.out).mono ?_
    rintro e w1 ⟨rfl, hB⟩
    have hB1 := btr (bal (b0 _) _) hB
    clear hB
    go_wp2
    go_ret
    exact ⟨rfl, hB1⟩

end Go.Proofs.YtjhfjllgjgnmeaaGreat

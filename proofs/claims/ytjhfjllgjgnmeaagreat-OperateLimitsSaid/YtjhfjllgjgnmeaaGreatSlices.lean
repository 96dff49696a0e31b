/- Package slices at rows of values: Clone, Grow, Concat. -/
import Derived.Test.YtjhfjllgjgnmeaaGreatRep
namespace Go.Proofs.YtjhfjllgjgnmeaaGreat
open Go.RowKit Go.Maps
attribute [local go_sem] World.cell?_alloc_some eqlNilV

/-- What is answered is a row of one's own. -/
def OwnsV (w w' : World) (v : Value) (l : List V) : Prop := w'.ownsRow w.heap.size 24 3 v l.length (flat l)

set_option maxRecDepth 100000 in
set_option maxHeartbeats 400000 in
theorem Clone_any {w : World} {v : Value} {l : List V} (h : RowV w v l) (hl : l.length ≤ 1073741824) :
    Calls Tryz.prog 164 #[v] w fun e w' => ∃ v', e = .returned v' ∧ OwnsV w w' v' l ∧ Below w.heap.size w w' := by
  obtain ⟨i0, hi, hz0, hz1, hz2⟩ := info_parts infoV
  have hs := SrcIs.of_row h
  rcases hs with ⟨rfl, hm, hf⟩ | ⟨a, c, rfl, hn⟩
  · have hle : l = [] := List.length_eq_zero_iff.1 hm
    subst hle
    clear hm hf h hl
    go_enter Tryz.func164, Tryz.ntmps164
    go_wp2
    go_ret
    exact ⟨_, rfl, World.ownsRow_nil _ _ _ _, b0 _⟩
  · have hs' : SrcIs (w.alloc (.cells #[] 24)) (.slice (some a) l.length c) l.length (flat l) := .inr ⟨a, c, rfl, fun j u hj => by
      rw [World.cell?_alloc_some _ _ _ (by rw [hn j u hj]; rfl)]; exact hn j u hj⟩
    have HS := Lib.hid hs'
    clear hs' hn h
    have hl' : l.length * 32 ≤ 140737488355328 := by omega
    have hl2 : l.length ≤ maxLen := by unfold maxLen; omega
    have HL := Lib.hid hl'
    have HL2 := Lib.hid hl2
    clear hl' hl2 hl
    have HO := Lib.hid (World.ownsRow_lit (base := w.heap.size) (e := 24) (size := 3) w #[] 0 (Nat.le_refl _) (Nat.zero_le _) rfl)
    have HF := Lib.hid (flat_length l)
    go_enter Tryz.func164, Tryz.ntmps164
    go_wp2_with (at_builtin; refine wpList_append_src rfl _ _ 59 rfl w.heap.size 24 i0 _ 3 32 Tryz.underlying59 hi hz0 hz1 hz2 rfl (by decide) _ _ _ rfl HO.out _ l.length (flat l) rfl HF.out HS.out (flat_one l) (by simpa using HL2.out) (by simpa using HL.out) (by simp) ?_; intro v' w1 hown hg _)
    go_ret
    have hg' : (w.alloc (.cells #[] 24)).grownBy w1 (some w.heap.size) := hg
    exact ⟨v', rfl, by simpa [OwnsV] using hown, (bal (b0 _) _).grown hg' (by simp) (fun k e => by cases e; exact Nat.le_refl _)⟩

theorem zeroCells_size (z : Array Value) (n : Nat) : (Builtin.zeroCells z n).size = n * z.size := by simp [Builtin.zeroCells]

/-- 'append(nil, make([]T, n)...)'. -/
theorem run_append_zeros {P : Program} (w : World) (t ti ty e : TypeId) (i : TypeInfo) (z : Value) (size bytes : Nat) (ht : P.underlying t = some (.slice e)) (hti : P.underlying ti = some (.int .i64)) (hi : P.info? e = some i) (hz : i.zero = some z)
    (hsize : i.size = size) (hby : i.bytes = bytes) (hzs : z.cells.size = size) (hsz : 0 < size) (n : Nat) (h0 : 0 < n) (hn : n * bytes ≤ 281474976710656) (h63 : n ≤ maxLen) :
    ∃ cap cur, n ≤ cap ∧ cap ≤ maxLen ∧ cur.size = cap * size ∧ (Builtin.append_ #[t, ti] ty #[.slice none 0 0, .int .i64 n]).run P w = .ok (.slice (some ⟨w.heap.size, 0, none⟩) n cap) (w.drew.alloc (.cells cur e)) := by
  subst hsize
  subst hby
  have hw : IntKind.i64.wrap (n : Int) = (n : Int) := by unfold maxLen at h63; exact IntWalk.i64_in _ (by omega)
  have h1 : ¬ ((n : Int) < 0) := by omega
  have h2 : ¬ ((n : Int) * (i.bytes : Int) > 281474976710656) := by
    have : (n : Int) * (i.bytes : Int) = ((n * i.bytes : Nat) : Int) := by simp
    omega
  have h3 : ¬ (n = 0) := by omega
  have h4 : ¬ (9223372036854775807 < n) := by unfold maxLen at h63; omega
  have h2' : ¬ (281474976710656 < (n : Int) * (i.bytes : Int)) := h2
  have h5 : Builtin.nextslicecap n 0 = n := by unfold Builtin.nextslicecap; simp [h0]
  have h6 : ¬ (281474976710656 < n * i.bytes) := by omega
  have h7 : ¬ (n * i.size = 0) := Nat.ne_of_gt (Nat.mul_pos h0 hsz)
  refine ⟨grownCap w n 0 e, (Builtin.zeroCells z.cells n ++ Builtin.zeroCells z.cells (grownCap w n 0 e - n)), grownCap_ge w n 0 e, grownCap_le_maxLen w n 0 e h63, ?_, ?_⟩
  · have := grownCap_ge w n 0 e
    rw [Array.size_append, zeroCells_size, zeroCells_size, hzs, ← Nat.add_mul, Nat.add_sub_cancel' this]
  · simp [Builtin.append_, run_underlying ht, run_underlying hti, sizeOf, typeInfo, zeroValue, hi, hz, hw, h2', h3, h5, h6, h7, Builtin.firstCells, Question.forced, newRow, grownCap, asInt, asIntOf]
    rw [if_neg h1, if_neg (by omega)]

theorem wpList_append_zeros {P : Program} {w : World} {ops : Array Oper} {rest : List Oper} {o : Oper} {a : Act} {Q : Exit → Act → World → Prop} (hgd : o.guard = none) (s x : Operand) (t ti : TypeId)
    (ho : o.op = .call { callee := .builtin .append, args := #[s, x], argTypes := #[t, ti] })
    (e : TypeId) (i : TypeInfo) (z : Value) (size bytes : Nat) (ht : P.underlying t = some (.slice e)) (hti : P.underlying ti = some (.int .i64)) (hi : P.info? e = some i) (hz : i.zero = some z)
    (hsize : i.size = size) (hby : i.bytes = bytes) (hzs : z.cells.size = size) (hsz : 0 < size) (n : Nat) (hs : a.eval s = .slice none 0 0) (hx : a.eval x = .int .i64 n) (h0 : 0 < n) (hn : n * bytes ≤ 281474976710656) (h63 : n ≤ maxLen)
    (h : ∀ cap cur, n ≤ cap → cap ≤ maxLen → cur.size = cap * size → wpList P ops Q rest (a.put o.dst (.slice (some ⟨w.heap.size, 0, none⟩) n cap)) (w.drew.alloc (.cells cur e))) : wpList P ops Q (o :: rest) a w := by
  refine wpList_plain hgd fun K hK => ?_
  obtain ⟨cap, cur, h1, h2, h3, hr⟩ := run_append_zeros (P := P) w t ti o.type e i z size bytes ht hti hi hz hsize hby hzs hsz n h0 hn h63
  unfold Oper.wp execOp
  simp only [ho, resolve, invoke, builtin, Sem.run_bind, Sem.run_pure, Result.andThen_ok, List.map_toArray, List.map_cons, List.map_nil, hs, hx, hr]
  exact hK _ _ (h cap cur h1 h2 h3)

set_option maxRecDepth 100000 in
set_option maxHeartbeats 400000 in
/-- 'slices.Grow(nil, n)': room for n. -/
theorem Grow_any {w : World} {n : Nat} (hn : n ≤ 2147483648) :
    Calls Tryz.prog 228 #[.slice none 0 0, .int .i64 n] w fun e w' => ∃ v', e = .returned v' ∧ OwnsV w w' v' [] ∧ Below w.heap.size w w' := by
  by_cases h0 : n = 0
  · subst h0
    clear hn
    go_enter Tryz.func228, Tryz.ntmps228
    go_wp2
    go_ret
    exact ⟨_, rfl, World.ownsRow_nil _ _ _ _, b0 _⟩
  · go_enter Tryz.func228, Tryz.ntmps228
    obtain ⟨i0, hi, hz0, hz1, hz2⟩ := info_parts infoV
    have H1 := Lib.hid (show n * 32 ≤ 281474976710656 by omega)
    have H2 := Lib.hid (show n ≤ maxLen by unfold maxLen; omega)
    have hpos : 0 < n := by omega
    go_wp2_with (at_builtin; refine wpList_append_zeros rfl _ _ 59 3 rfl 24 i0 _ 3 32 Tryz.underlying59 Tryz.underlying3 hi hz0 hz1 hz2 rfl (by decide) n rfl rfl hpos H1.out H2.out ?_; intro cap cur hc1 hc2 hc3)
    go_ret
    exact ⟨_, rfl, ⟨rfl, .inr ⟨w.heap.size, cap, cur, rfl, Nat.le_refl _, (MapKept.heap_alloc w _).1, Nat.zero_le _, hc2, hc3, by simp; rfl⟩⟩, (bal (b0 _) _).drew⟩

/-! ### Concat -/

/-- Slice value v reads as rows of values: the slices vs, which read as ls. -/
structure RowsV (w : World) (v : Value) (vs : List Value) (ls : List (List V)) : Prop where
  shape : ∃ b off cap, v = .slice (some ⟨b, off, none⟩) vs.length cap ∧ ∀ (i : Nat) (x : Value), vs[i]? = some x → w.cell? ⟨b, off + i, none⟩ = some x
  len : vs.length = ls.length
  rows : ∀ (i : Nat) (x : Value) (l : List V), vs[i]? = some x → ls[i]? = some l → RowV w x l

theorem RowV.slice {w : World} {v : Value} {l : List V} (h : RowV w v l) : ∃ a cap, v = .slice a l.length cap := by
  rcases h with ⟨rfl, rfl | ⟨a, cap, rfl⟩⟩ | ⟨b, off, cap, rfl, hc⟩
  · exact ⟨none, 0, rfl⟩
  · exact ⟨_, _, rfl⟩
  · exact ⟨_, _, rfl⟩

/-- How many values the first k rows have. -/
def total (ls : List (List V)) (k : Nat) : Nat := (ls.take k).flatten.length

theorem total_succ (ls : List (List V)) (k : Nat) (l : List V) (h : ls[k]? = some l) : total ls (k + 1) = total ls k + l.length := by
  unfold total
  rw [List.take_add_one, h]
  simp

theorem total_le (ls : List (List V)) (k : Nat) : total ls k ≤ ls.flatten.length := by
  unfold total
  conv => rhs; rw [← List.take_append_drop k ls, List.flatten_append, List.length_append]
  omega

theorem take_succ_flatten (ls : List (List V)) (k : Nat) (l : List V) (h : ls[k]? = some l) : (ls.take (k + 1)).flatten = (ls.take k).flatten ++ l := by
  rw [List.take_add_one, h]
  simp

set_option maxRecDepth 100000 in
set_option maxHeartbeats 800000 in
theorem Concat_any {w : World} {v : Value} {vs : List Value} {ls : List (List V)} (h : RowsV w v vs ls) (hn : ls.flatten.length ≤ 2147483648) (hm : ls.length ≤ 1073741824) :
    Calls Tryz.prog 168 #[v] w fun e w' => ∃ v', e = .returned v' ∧ OwnsV w w' v' ls.flatten ∧ Below w.heap.size w w' := by
  obtain ⟨b, off, cap, rfl, hc⟩ := h.shape
  have hmv : vs.length ≤ 1073741824 := by rw [h.len]; exact hm
  have HLEN := Lib.hid h.len
  have hrows := h.rows
  clear h
  go_enter Tryz.func168, Tryz.ntmps168
  go_wp2
  go_loop [3, 11] (fun n i => ∃ k : Nat, k ≤ vs.length ∧ i = .int .i64 k ∧ n = .int .i64 (total ls k)) (fun _ i => vs.length - (intOf i).toNat)
  case atStart => exact ⟨0, Nat.zero_le _, rfl, by simp [total]⟩
  case round =>
    obtain ⟨k, hk, rfl, rfl⟩ := hrel
    by_cases hlt : k < vs.length
    · have hc0 := hc k vs[k] (by simp [hlt])
      have hl : ls[k]? = some (ls[k]'(by have := HLEN.out; omega)) := by simp [show k < ls.length by have := HLEN.out; omega]
      obtain ⟨a', c', hs⟩ := (hrows k vs[k] _ (by simp [hlt]) hl).slice
      have ht := total_succ ls k _ hl
      have ht2 := total_le ls (k + 1)
      rw [hs] at hc0
      have HT := Lib.hid ht
      have hb : total ls k + (ls[k]'(by have := HLEN.out; omega)).length ≤ 2147483648 := by omega
      clear ht ht2 hc hrows hs hl
      go_wp2
      go_round
      case rel => exact ⟨k + 1, by omega, by go_num, by rw [HT.out]; go_num⟩
      case measure => simp [intOf]; omega
    · obtain rfl : k = vs.length := by omega
      have hT : total ls vs.length ≤ 2147483648 := Nat.le_trans (total_le _ _) hn
      have HC := Lib.hid hc
      have HR := Lib.hid hrows
      have HM := Lib.hid hm
      have HN := Lib.hid hn
      clear hc hrows hm hn
      obtain ⟨i0, hi, hz0, hz1, hz2⟩ := info_parts infoV
      go_wp2_with fail
      refine (Grow_any hT).mono ?_
      rintro e w1 ⟨v', rfl, hO, hB⟩
      go_wp2
      go_loopw [6, 8, 27] (fun v _ i wr => ∃ k : Nat, k ≤ vs.length ∧ i = .int .i64 k ∧ wr.ownsRow w.heap.size 24 3 v (total ls k) (flat (ls.take k).flatten) ∧ Below w.heap.size w wr) (fun _ _ i _ => vs.length - (intOf i).toNat)
      case atStart => exact ⟨0, Nat.zero_le _, rfl, by simpa [OwnsV, total] using hO, hB⟩
      case round =>
        obtain ⟨k, hk, rfl, hO', hB'⟩ := hrel
        by_cases hlt : k < vs.length
        · have hl : ls[k]? = some (ls[k]'(by have := HLEN.out; omega)) := by simp [show k < ls.length by have := HLEN.out; omega]
          have hx : vs[k]? = some vs[k] := by simp [hlt]
          have hrow := HR.out k vs[k] _ hx hl
          have hsrc := SrcIs.of_row hrow
          obtain ⟨a', c', hs⟩ := hrow.slice
          have hc0 := HC.out k vs[k] hx
          have hc1 : wr.cell? ⟨b, off + k, none⟩ = some (.slice a' (ls[k]'(by have := HLEN.out; omega)).length c') := by
            rw [hB'.cell (p := ⟨b, off + k, none⟩) (lt_of_cell hc0), hc0, hs]
          have hsrc' : SrcIs wr vs[k] (ls[k]'(by have := HLEN.out; omega)).length (flat (ls[k]'(by have := HLEN.out; omega))) := by
            rcases hsrc with h | ⟨ad, c, h1, h2⟩
            · exact .inl h
            · refine .inr ⟨ad, c, h1, fun j u hj => ?_⟩
              have h3 := h2 j u hj
              rw [hB'.cell (p := ad.add j) (World.block_lt_of_cell? _ _ h3)]
              exact h3
          rw [hs] at hsrc'
          have HS := Lib.hid hsrc'
          have HT := Lib.hid (total_succ ls k _ hl)
          have HT2 := Lib.hid (take_succ_flatten ls k _ hl)
          have HB : Hid (total ls k + (ls[k]'(by have := HLEN.out; omega)).length ≤ 2147483648) := by
            have h1 := total_succ ls k _ hl
            have h2 := total_le ls (k + 1)
            have h3 := HN.out
            show _ ≤ _
            omega
          have HF := Lib.hid (flat_length (ls[k]'(by have := HLEN.out; omega)))
          have HO := Lib.hid hO'
          clear hsrc hsrc' hrow hs hl hx hO'
          go_wp2_with (at_builtin; refine wpList_append_src rfl _ _ 59 rfl w.heap.size 24 i0 _ 3 32 Tryz.underlying59 hi hz0 hz1 hz2 rfl (by decide) _ _ _ rfl HO.out _ (ls[k]'(by have := HLEN.out; omega)).length (flat (ls[k]'(by have := HLEN.out; omega))) rfl HF.out HS.out (flat_one _) (by have := HB.out; unfold maxLen; omega) (by have := HB.out; omega) hB'.size ?_; intro v2 w2 hown hg _)
          have hg' : wr.grownBy w2 u6.ownBlock := hg
          go_roundw
          case rel => exact ⟨k + 1, by omega, by go_num, by rw [HT.out, HT2.out, flat_append]; exact hown, hB'.grown hg' hB'.size (fun j e => (HO.out.lt j e).1)⟩
          case measure => simp [intOf]; omega
        · obtain rfl : k = vs.length := by omega
          have HO := Lib.hid hO'
          clear hO'
          go_wp2
          go_ret
          have e1 : ls.take vs.length = ls := by rw [HLEN.out]; exact List.take_length
          refine ⟨_, rfl, ?_, hB'⟩
          have h2 := HO.out
          unfold total at h2
          rw [e1] at h2
          exact h2
end Go.Proofs.YtjhfjllgjgnmeaaGreat

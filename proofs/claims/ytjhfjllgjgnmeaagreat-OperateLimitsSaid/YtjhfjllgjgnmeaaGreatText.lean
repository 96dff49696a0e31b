/- number.Text. -/
import Derived.Test.YtjhfjllgjgnmeaaGreatBld
import Derived.Laws.OwnMore
import Derived.Laws.IdiomStrings
namespace Go.Proofs.YtjhfjllgjgnmeaaGreat
open Go.RowKit Go.Maps
attribute [local go_sem] World.cell?_alloc_some

/-- The digits of m ahead of acc. -/
def digits (m : Nat) (acc : List UInt8) : List UInt8 := if m = 0 then acc else digits (m / 10) (UInt8.ofNat (48 + m % 10) :: acc)
termination_by m
decreasing_by omega

def textB (n : Int) : List UInt8 := (if n < 0 then [45] else []) ++ digits (n.natAbs / 10) [UInt8.ofNat (48 + n.natAbs % 10)]

theorem byteOne (l : List UInt8) : ∀ v ∈ Lib.byteCells l, v.oneCell' = true := by
  intro v hv
  simp only [Lib.byteCells, List.mem_map] at hv
  obtain ⟨b, _, rfl⟩ := hv
  rfl

set_option maxRecDepth 100000 in
set_option maxHeartbeats 800000 in
theorem put_any {w : World} {g : Nat} {v : Value} {l : List UInt8} (c : UInt8) (hb : w.heap[g]? = some (.cells #[v] 75 (0, 0))) (hown : w.ownsRow 0 5 1 v l.length (Lib.byteCells l)) (hl : l.length ≤ 1000) :
    Calls Tryz.prog 292 #[.int .u8 c.toNat, .pointer (some ⟨g, 0, none⟩)] w fun e w' => e = .returned (.tuple #[]) ∧ ∃ v', w'.heap[g]? = some (.cells #[v'] 75 (0, 0)) ∧ w'.ownsRow w.heap.size 5 1 v' (c :: l).length (Lib.byteCells (c :: l)) ∧ Chg (fun k => k == g) w w' := by
  obtain ⟨i0, hi, hz0, hz1, hz2⟩ := info_parts infoU8
  obtain ⟨hc, hf, hlt⟩ := cells_of_block hb
  have c0 := hc 0
  have f0 := hf 0
  simp at c0
  obtain ⟨a, cap, rfl⟩ := ownsRow_slice hown
  have HS : SrcIs (w.alloc (.cells #[.int .u8 c.toNat] 5)) (.slice a l.length cap) l.length (Lib.byteCells l) := SrcIs.of_owns (ownsRow_same hown (fun k hk => Below.heap_alloc _ _ _ (owns_lt' hown hk)))
  have HLit : (w.alloc (.cells #[.int .u8 c.toNat] 5)).ownsRow w.heap.size 5 1 (.slice (some ⟨w.heap.size, 0, none⟩) 1 1) 1 [.int .u8 c.toNat] := ⟨rfl, .inr ⟨_, 1, _, rfl, Nat.le_refl _, (MapKept.heap_alloc w _).1, Nat.le_refl _, by decide, rfl, rfl⟩⟩
  have HL := Lib.hid hl
  clear hl hc hf hown
  go_enter Tryz.func292, Tryz.ntmps292
  go_wp2_with (at_builtin; refine wpList_append_src rfl _ _ 75 rfl w.heap.size 5 i0 (.int .u8 0) 1 1 Tryz.underlying75 hi hz0 hz1 hz2 rfl (by decide) _ _ _ rfl HLit _ l.length (Lib.byteCells l) rfl (by rw [Lib.byteCells_length, Nat.mul_one]) HS (byteOne l) (by have := HL.out; unfold maxLen; omega) (by have := HL.out; omega) (by simp) ?_)
  intro v' w2 hown2 hg2 _
  obtain ⟨a2, cap2, rfl⟩ := ownsRow_slice hown2
  have hb2 : w2.heap[g]? = some (.cells #[.slice a l.length cap] 75 (0, 0)) := (hg2.block g (by simp; omega) (by simp [Value.ownBlock]; omega)).trans ((Below.heap_alloc _ _ _ hlt).trans hb)
  obtain ⟨hc2, hf2, _⟩ := cells_of_block hb2
  have c2 := hc2 0
  have f2 := hf2 0
  simp at c2
  have hne : ∀ k, (Value.slice a2 (1 + l.length) cap2).ownBlock = some k → k ≠ g := fun k hk e => by
    obtain ⟨_, ⟨e1, _⟩ | ⟨g', c', cur, e1, hge, _⟩⟩ := hown2
    · rw [e1] at hk; cases hk
    · rw [e1] at hk; have : g' = k := by simpa [Value.ownBlock] using hk
      omega
  have hfin1 := heap_setCell_same (o := 0) (u := .slice a2 (1 + l.length) cap2) hb2
  have hfin2 : (w2.setCell ⟨g, 0, none⟩ (.slice a2 (1 + l.length) cap2)).ownsRow w.heap.size 5 1 (.slice a2 (1 + l.length) cap2) (1 + l.length) ([.int .u8 c.toNat] ++ Lib.byteCells l) := ownsRow_same hown2 (fun k hk => Below.heap_setCell _ _ _ _ (hne k hk))
  have hfin3 : Chg (fun k => k == g) w (w2.setCell ⟨g, 0, none⟩ (.slice a2 (1 + l.length) cap2)) := ((((Chg.refl _ _).alloc _).grown hg2 (fun k hk hk2 => by simp [Value.ownBlock] at hk; omega)).setCell (fun _ => by simp) _)
  clear hc2 hf2 hb2 hown2 hg2 HS HLit hb hne
  go_wp2
  go_end0
  exact ⟨rfl, _, hfin1, by rw [show (l.length + 1 : Nat) = 1 + l.length from Nat.add_comm _ _]; exact hfin2, hfin3⟩

theorem pow_bound {m len : Nat} (h : m * 10 ^ len ≤ 18446744073709551616) (hm : m ≠ 0) : len ≤ 19 := by
  by_cases hl : len ≤ 19
  · exact hl
  · exfalso
    have h1 : 10 ^ 20 ≤ 10 ^ len := Nat.pow_le_pow_right (by omega) (by omega)
    have h2 : 10 ^ len ≤ m * 10 ^ len := Nat.le_mul_of_pos_left _ (by omega)
    have h3 : (10 : Nat) ^ 20 = 100000000000000000000 := by decide
    omega

theorem pow_step {m len : Nat} (h : m * 10 ^ len ≤ 18446744073709551616) : m / 10 * 10 ^ (len + 1) ≤ 18446744073709551616 := by
  refine Nat.le_trans ?_ h
  rw [Nat.pow_succ, Nat.mul_comm (10 ^ len) 10, ← Nat.mul_assoc]
  exact Nat.mul_le_mul_right _ (Nat.div_mul_le_self m 10)

theorem magnitude_any (w : World) (n : Int) (hn : (Lit.int .i64 n).wf = true) : Calls Tryz.prog 241 #[.int .i64 n] w fun e w' => e = .returned (.int .u64 n.natAbs) ∧ w' = w := by
  have h : -9223372036854775808 ≤ n ∧ n ≤ 9223372036854775807 := by
    simp only [Lit.wf, Bool.and_eq_true, decide_eq_true_eq] at hn
    exact hn
  clear hn
  by_cases h0 : n < 0
  · go_enter Tryz.func241, Tryz.ntmps241
    go_wp2
    go_ret
    have e : IntKind.u64.wrap (-IntKind.u64.wrap n) = (n.natAbs : Int) := by simp only [IntKind.wrap_u64]; omega
    exact ⟨by rw [e]; rfl, rfl⟩
  · go_enter Tryz.func241, Tryz.ntmps241
    go_wp2
    go_ret
    have e : n = (n.natAbs : Int) := by omega
    exact ⟨by rw [← e]; rfl, rfl⟩

theorem dig (m : Nat) : (48 + (m : Int) % 10) = ((UInt8.ofNat (48 + m % 10)).toNat : Int) := by
  rw [UInt8.toNat_ofNat']
  omega

/-- A variable that holds bytes of the program's own. -/
structure OutAt (w0 w : World) (g : Nat) (l : List UInt8) : Prop where
  at_ : ∃ v, w.heap[g]? = some (.cells #[v] 75 (0, 0)) ∧ w.ownsRow w0.heap.size 5 1 v l.length (Lib.byteCells l)
  bel : Below w0.heap.size w0 w
  glt : w0.heap.size ≤ g

theorem OutAt.put {w0 w w' : World} {g : Nat} {l l' : List UInt8} (h : OutAt w0 w g l) {v' : Value} (h1 : w'.heap[g]? = some (.cells #[v'] 75 (0, 0))) (h2 : w'.ownsRow w.heap.size 5 1 v' l'.length (Lib.byteCells l')) (h3 : Chg (fun k => k == g) w w') : OutAt w0 w' g l' :=
  ⟨⟨v', h1, ownsRow_base' h2 h.bel.size⟩, h.bel.trans ⟨h3.os, h3.tape, h3.output, h3.size, fun j hj => h3.block j (Nat.lt_of_lt_of_le hj h.bel.size) (by have := h.glt; simp; omega)⟩, h.glt⟩

/-- What 'string(out)' makes of it. -/
theorem OutAt.text {w0 wr : World} {g : Nat} {l : List UInt8} (h : OutAt w0 wr g l) (hl : 1 ≤ l.length) : ∃ a n c, wr.cell? ⟨g, 0, none⟩ = some (.slice a n c) ∧ (convert 75 9 (.slice a n c)).run Tryz.prog wr = .ok (.string ⟨l.toArray⟩) wr := by
  obtain ⟨v, hb, hown⟩ := h.at_
  have h0 := (cells_of_block hb).1 0
  simp at h0
  have hown' := hown
  obtain ⟨_, ⟨_, e⟩ | ⟨b, cap, cur, rfl, _⟩⟩ := hown
  · omega
  · refine ⟨_, _, _, h0, run_convert_bytes_back wr 75 9 5 ⟨b, 0, none⟩ cap l Tryz.underlying75 Tryz.underlying5 Tryz.underlying9 (fun j hj => ?_)⟩
    have := hown'.cells (g := b) rfl j (.int .u8 l[j].toNat) (by simp [Lib.byteCells, hj])
    exact this

set_option maxRecDepth 100000 in
set_option maxHeartbeats 1600000 in
theorem Text_any (w : World) (n : Int) (hn : (Lit.int .i64 n).wf = true) :
    Calls Tryz.prog 258 #[.int .i64 n] w fun e w' => e = .returned (.string ⟨(textB n).toArray⟩) ∧ Below w.heap.size w w' := by
  go_enter Tryz.func258, Tryz.ntmps258
  go_wp2_with fail
  refine (magnitude_any _ n hn).mono ?_
  rintro e w1 ⟨rfl, rfl⟩
  have hm : n.natAbs ≤ 9223372036854775808 := by
    simp only [Lit.wf, Bool.and_eq_true, decide_eq_true_eq] at hn
    have h : -9223372036854775808 ≤ n ∧ n ≤ 9223372036854775807 := hn
    omega
  generalize hmm : n.natAbs = m at hm
  have hO : OutAt w (w.alloc (.cells #[.slice none 0 0] 75)) w.heap.size [] := ⟨⟨_, (MapKept.heap_alloc w _).1, World.ownsRow_nil _ _ _ _⟩, bal (b0 _) _, Nat.le_refl _⟩
  have HM := Lib.hid hm
  clear hm
  go_wp2_with fail
  rw [dig]
  obtain ⟨v0, hv0, hw0⟩ := hO.at_
  refine (put_any _ hv0 (ownsRow_base' hw0 (Nat.zero_le _)) (by simp)).mono ?_
  rintro e w1 ⟨rfl, v1, q1, q2, q3⟩
  have hO1 := hO.put q1 q2 q3
  clear q1 q2 q3 hv0 hw0 hO
  have h0 : m / 10 * 10 ^ [UInt8.ofNat (48 + m % 10)].length ≤ 18446744073709551616 := by
    have := HM.out
    simp only [List.length_singleton, Nat.pow_one]
    omega
  have H0 := Lib.hid h0
  clear h0
  have hm := HM.out
  go_wp2
  go_loopw [5] (fun u wr => ∃ (k : Nat) (l : List UInt8), u = .int .u64 k ∧ OutAt w wr w.heap.size l ∧ digits k l = digits (m / 10) [UInt8.ofNat (48 + m % 10)] ∧ Hid (k * 10 ^ l.length ≤ 18446744073709551616) ∧ 1 ≤ l.length ∧ l.length ≤ 20) (fun u _ => (intOf u).toNat)
  case atStart => exact ⟨m / 10, _, by go_num, hO1, rfl, H0, Nat.le_refl _, by simp⟩
  case round =>
    obtain ⟨k, l, rfl, hO', hd, HK, hl1, hl20⟩ := hrel
    obtain ⟨v0, hv0, hw0⟩ := hO'.at_
    by_cases hk0 : k = 0
    · have hll : digits (m / 10) [UInt8.ofNat (48 + m % 10)] = l := by rw [← hd, hk0, digits, if_pos rfl]
      clear hd HK
      by_cases hn0 : n < 0
      · go_wp2_with fail
        refine (put_any 45 hv0 (ownsRow_base' hw0 (Nat.zero_le _)) (by omega)).mono ?_
        rintro e w2 ⟨rfl, v2, q1, q2, q3⟩
        have hO2 := hO'.put q1 q2 q3
        clear q1 q2 q3 hv0 hw0 hO'
        obtain ⟨a, j, c, c0, hcv⟩ := hO2.text (by simp)
        go_wp2
        go_ret
        exact ⟨by rw [textB, if_pos hn0, hmm, hll]; rfl, hO2.bel⟩
      · obtain ⟨a, j, c, c0, hcv⟩ := hO'.text hl1
        go_wp2
        go_ret
        exact ⟨by rw [textB, if_neg (by omega), hmm, hll]; rfl, hO'.bel⟩
    · have hlb := pow_bound HK.out hk0
      have hkb : k ≤ 1844674407370955161 := by
        have h1 : 10 ^ 1 ≤ 10 ^ l.length := Nat.pow_le_pow_right (by omega) hl1
        have h2 := Nat.mul_le_mul_left k h1
        have h3 := HK.out
        omega
      have HKB := Lib.hid hkb
      go_wp2_with fail
      rw [dig]
      refine (put_any _ hv0 (ownsRow_base' hw0 (Nat.zero_le _)) (by omega)).mono ?_
      rintro e w2 ⟨rfl, v2, q1, q2, q3⟩
      have hO2 := hO'.put q1 q2 q3
      clear q1 q2 q3 hv0 hw0 hO'
      have H2 := Lib.hid (pow_step HK.out)
      go_wp2
      go_roundw
      case rel => exact ⟨k / 10, UInt8.ofNat (48 + k % 10) :: l, by go_num, hO2, by rw [← hd]; conv => (rhs; rw [digits]); rw [if_neg hk0], H2, by simp, by rw [List.length_cons]; omega⟩
      case measure => simp [intOf]; omega

end Go.Proofs.YtjhfjllgjgnmeaaGreat

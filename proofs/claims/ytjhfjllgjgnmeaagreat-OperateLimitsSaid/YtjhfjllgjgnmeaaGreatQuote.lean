/- scan.Quote, number.Text. -/
import Derived.Test.YtjhfjllgjgnmeaaGreatBld
import Derived.Lib.ConvBytes
import Derived.Test.YtjhfjllgjgnmeaaGreatPi
namespace Go.Proofs.YtjhfjllgjgnmeaaGreat
open Go.RowKit Go.Maps
attribute [local go_sem] World.cell?_alloc_some

def hexB (n : Nat) : UInt8 := if n < 10 then UInt8.ofNat (48 + n) else UInt8.ofNat (87 + n)
/-- A byte, as a source has it. -/
def quoteB (c : UInt8) : List UInt8 :=
  if c.toNat = 10 then [92, 110] else if c.toNat = 9 then [92, 116] else if c.toNat = 92 ∨ c.toNat = 39 then [92, c] else
  if c.toNat < 32 ∨ 126 < c.toNat then [92, 120, hexB (c.toNat / 16), hexB (c.toNat % 16)] else [c]
def quoteS (l : List UInt8) : List UInt8 := [39] ++ l.flatMap quoteB ++ [39]

theorem quoteB_length (c : UInt8) : (quoteB c).length ≤ 4 := by
  unfold quoteB
  split
  · simp
  · split
    · simp
    · split
      · simp
      · split <;> simp

theorem flatMap_quoteB_length (l : List UInt8) : (l.flatMap quoteB).length ≤ 4 * l.length := by
  induction l with
  | nil => simp
  | cons c r ih => have := quoteB_length c; simp only [List.flatMap_cons, List.length_append, List.length_cons]; omega

theorem flatMap_take_succ (l : List UInt8) (k : Nat) (c : UInt8) (h : l[k]? = some c) : (l.take (k + 1)).flatMap quoteB = (l.take k).flatMap quoteB ++ quoteB c := by
  rw [List.take_add_one, h]
  simp

theorem hexX : ∀ q : Fin 16, ((⟨#[48, 49, 50, 51, 52, 53, 54, 55, 56, 57, 97, 98, 99, 100, 101, 102]⟩ : ByteArray).extract q.val (q.val + 1)).data.toList = [hexB q.val] := by decide

set_option maxRecDepth 100000 in
theorem bits15 : ∀ n : Fin 256, bits BinOp.and IntKind.u8 (n.val : Int) 15 = ((n.val % 16 : Nat) : Int) := by decide

/-- A builder that the call has made in block b; beside it block g, which stands. -/
structure VB (w0 wr : World) (b g : Nat) (X : Option Obj) (cs : Array Value) (v : Value) (l : List UInt8) : Prop where
  at_ : BldAt wr b 0 183 cs v l
  ne : v.ownBlock ≠ some g
  from_ : ∀ k, v.ownBlock = some k → w0.heap.size ≤ k
  b0 : w0.heap.size ≤ b
  bel : Below w0.heap.size w0 wr
  side : wr.heap[g]? = X
  gb : g ≠ b
  glt : g < wr.heap.size

theorem VB.below {w0 wr W : World} {b g : Nat} {X : Option Obj} {cs : Array Value} {v : Value} {l : List UInt8} (h : VB w0 wr b g X cs v l) (hB : Below wr.heap.size wr W) : VB w0 W b g X cs v l :=
  { h with
    at_ := h.at_.same (hB.block b (Array.getElem?_eq_some_iff.1 h.at_.blk).1) (fun k hk => hB.block k (owns_lt' h.at_.row hk))
    bel := h.bel.trans (hB.mono h.bel.size)
    side := (hB.block g h.glt).trans h.side
    glt := Nat.lt_of_lt_of_le h.glt hB.size }

theorem VB.wrote {w0 wr w' : World} {b g : Nat} {X : Option Obj} {cs : Array Value} {v v' : Value} {l l' : List UInt8} (h : VB w0 wr b g X cs v l) (k : Wrote wr w' b 0 183 cs v v' l') : VB w0 w' b g X (bldPut cs b 0 v') v' l' := by
  have hs := k.chg.size
  refine { at_ := k.at_, ne := ?_, from_ := ?_, b0 := h.b0, bel := h.bel.trans ⟨k.chg.os, k.chg.tape, k.chg.output, hs, fun j hj => k.chg.block j (Nat.lt_of_lt_of_le hj h.bel.size) ?_⟩, side := (k.chg.block g h.glt ?_).trans h.side, gb := h.gb, glt := Nat.lt_of_lt_of_le h.glt hs }
  · rcases k.new with e | ⟨j, e, hj⟩
    · rw [e]; exact h.ne
    · rw [e]; intro e2; have := Option.some.inj e2; have := h.glt; omega
  · intro j hj
    rcases k.new with e | ⟨i, e, hi⟩
    · exact h.from_ j (e.symm.trans hj)
    · rw [e] at hj; have := Option.some.inj hj; have := h.bel.size; omega
  · simp only [bldρ, Bool.or_eq_false_iff, beq_eq_false_iff_ne]
    exact ⟨fun e => by have := h.b0; omega, fun e => by have := h.from_ j e; omega⟩
  · simp only [bldρ, Bool.or_eq_false_iff, beq_eq_false_iff_ne]
    exact ⟨h.gb, h.ne⟩

set_option maxRecDepth 100000 in
set_option maxHeartbeats 1600000 in
theorem Quote_any (w : World) (s : ByteArray) (hlen : s.size ≤ 66000) :
    Calls Tryz.prog 259 #[.string s] w fun e w' => e = .returned (.string ⟨(quoteS s.data.toList).toArray⟩) ∧ Below w.heap.size w w' := by
  have h0 : BldAt (w.alloc (.cells #[.pointer none, .slice none 0 0] 183)) w.heap.size 0 183 #[.pointer none, .slice none 0 0] (.slice none 0 0) [] :=
    { blk := (MapKept.heap_alloc w _).1, c0 := .inl rfl, c1 := rfl, row := World.ownsRow_nil _ _ _ _, ne := by simp [Value.ownBlock], nz := fun _ => rfl, lies := by kernel_rfl }
  have HLEN := Lib.hid hlen
  clear hlen
  go_enter Tryz.func259, Tryz.ntmps259
  go_wp2_with fail
  refine (bldWriteByte_any h0 39 (by simp)).mono ?_
  rintro e w1 ⟨rfl, v1, hW1⟩
  go_wp2_with fail
  rw [Lib.run_convert_string_bytes w1 _ _ 5 s Tryz.underlying9 Tryz.underlying75 Tryz.underlying5]
  simp only [Result.andThen]
  rw [Oper.upon_value]
  have z1 := hW1.chg.size
  have z2 := Lib.bytesWorld_size w1 5 s
  simp only [World.size_alloc] at z1
  have hVB : VB w (Lib.bytesWorld w1 5 s) w.heap.size w1.heap.size ((Lib.bytesWorld w1 5 s).heap[w1.heap.size]?) (bldPut #[.pointer none, .slice none 0 0] w.heap.size 0 v1) v1 ([] ++ [39]) := by
    have old := Lib.bytesWorld_at_old w1 5 s
    have hv : ∀ k, v1.ownBlock = some k → w.heap.size ≤ k ∧ k < w1.heap.size := fun k hk => ⟨by
      rcases hW1.new with e | ⟨j, e, hj⟩
      · rw [hk] at e; cases e
      · rw [e] at hk; have := Option.some.inj hk; simp at hj; omega, owns_lt' hW1.at_.row hk⟩
    refine { at_ := hW1.at_.same (old _ (by omega)) (fun k hk => old k (hv k hk).2), ne := fun e => by have := (hv _ e).2; omega, from_ := fun k hk => (hv k hk).1, b0 := Nat.le_refl _, bel := ?_, side := rfl, gb := by omega, glt := by omega }
    have hB1 : Below w.heap.size w w1 := (bal (b0 w) (.cells #[.pointer none, .slice none 0 0] 183)).trans ⟨hW1.chg.os, hW1.chg.tape, hW1.chg.output, hW1.chg.size, fun j hj => hW1.chg.block j (by simp; omega) (by simp [bldρ, Value.ownBlock]; omega)⟩
    exact hB1.trans ⟨rfl, rfl, rfl, by omega, fun j hj => old j (by omega)⟩
  have hcl : ∀ j, j < s.size → (Lib.bytesWorld w1 5 s).cell? ⟨w1.heap.size, j, none⟩ = some (.int .u8 (s.data.toList.getD j 0).toNat) := Lib.bytesWorld_cell w1 5 s
  generalize Lib.bytesWorld w1 5 s = w2 at hVB hcl z2 ⊢
  clear hW1 h0
  have hside : ∀ wr : World, wr.heap[w1.heap.size]? = w2.heap[w1.heap.size]? → ∀ j, j < s.size → wr.cell? ⟨w1.heap.size, j, none⟩ = some (.int .u8 (s.data.toList.getD j 0).toNat) := fun wr h j hj => (World.cell?_of_block (a := ⟨_, _, none⟩) h).trans (hcl j hj)
  clear hcl
  generalize hX : w2.heap[w1.heap.size]? = X at hVB hside
  go_wp2
  go_loopw [5, 10] (fun c i wr => ∃ (k : Nat) (cs : Array Value) (v : Value), k ≤ s.size ∧ i = .int .i64 k ∧ VB w wr w.heap.size w1.heap.size X cs v ([39] ++ (s.data.toList.take k).flatMap quoteB)) (fun _ i _ => s.size - (intOf i).toNat)
  case atStart => exact ⟨0, _, _, Nat.zero_le _, rfl, by simpa using hVB⟩
  case round =>
    obtain ⟨k, cs, v, hk, rfl, hV⟩ := hrel
    by_cases hlt : k < s.size
    · have c0 := hside wr hV.side k hlt
      have hl' : k < s.data.toList.length := by simpa using hlt
      have hck : s.data.toList[k]? = some (s.data.toList.getD k 0) := by simp [List.getD, List.getElem?_eq_getElem hl']
      generalize s.data.toList.getD k 0 = c at c0 hck
      have hc256 : c.toNat ≤ 255 := by have := c.toNat_lt; omega
      have hbd : ([39] ++ (s.data.toList.take k).flatMap quoteB).length ≤ 264001 := by
        have h1 := flatMap_quoteB_length (s.data.toList.take k)
        have h2 := HLEN.out
        have h3 : (s.data.toList.take k).length ≤ k := by rw [List.length_take]; omega
        simp only [List.length_append, List.length_cons, List.length_nil]
        omega
      have HB := Lib.hid hbd
      clear hbd
      have fin : ∀ (w' : World) (cs' : Array Value) (v' : Value), VB w w' w.heap.size w1.heap.size X cs' v' ([39] ++ (s.data.toList.take k).flatMap quoteB ++ quoteB c) → ∃ (k' : Nat) (cs : Array Value) (v : Value), k' ≤ s.size ∧ Value.int .i64 ((k : Int) + 1) = .int .i64 k' ∧ VB w w' w.heap.size w1.heap.size X cs v ([39] ++ (s.data.toList.take k').flatMap quoteB) := fun w' cs' v' h => ⟨k + 1, cs', v', hlt, by go_num, by rw [flatMap_take_succ _ _ _ hck, ← List.append_assoc]; exact h⟩
      have HF := Lib.hid fin
      clear fin
      have HK2 := Lib.hid (show k < 66000 by have := HLEN.out; omega)
      clear hside hX hVB hck
      by_cases h10 : c.toNat = 10
      · go_wp2_with fail
        refine (bldWriteString_any hV.at_ ⟨#[92, 110]⟩ (by have := HB.out; rw [show (⟨#[92, 110]⟩ : ByteArray).size = 2 from rfl]; omega)).mono ?_
        rintro e w' ⟨rfl, v', hW⟩
        have hV' := hV.wrote hW
        have hk2 := HK2.out
        go_wp2
        go_roundw
        case rel => exact HF.out _ _ _ (by rw [show quoteB c = [92, 110] by simp [quoteB, h10]]; exact hV')
        case measure => simp [intOf]; omega
      · by_cases h9 : c.toNat = 9
        · go_wp2_with fail
          refine (bldWriteString_any hV.at_ ⟨#[92, 116]⟩ (by have := HB.out; rw [show (⟨#[92, 116]⟩ : ByteArray).size = 2 from rfl]; omega)).mono ?_
          rintro e w' ⟨rfl, v', hW⟩
          have hV' := hV.wrote hW
          have hk2 := HK2.out
          go_wp2
          go_roundw
          case rel => exact HF.out _ _ _ (by rw [show quoteB c = [92, 116] by simp [quoteB, h9]]; exact hV')
          case measure => simp [intOf]; omega
        · by_cases h92 : c.toNat = 92
          · have e92 : Utf8.encode 92 = ⟨#[92]⟩ := by decide
            go_wp2_with fail
            refine (bldWriteString_any hV.at_ ⟨#[92, 92]⟩ (by have := HB.out; rw [show (⟨#[92, 92]⟩ : ByteArray).size = 2 from rfl]; omega)).mono ?_
            rintro e w' ⟨rfl, v', hW⟩
            have hV' := hV.wrote hW
            have hk2 := HK2.out
            go_wp2
            go_roundw
            case rel => exact HF.out _ _ _ (by rw [show quoteB c = [92, 92] by rw [quoteB, if_neg h10, if_neg h9, if_pos (.inl h92), show c = 92 from UInt8.toNat_inj.1 h92]]; exact hV')
            case measure => simp [intOf]; omega
          · by_cases h39 : c.toNat = 39
            · have e39 : Utf8.encode 39 = ⟨#[39]⟩ := by decide
              go_wp2_with fail
              refine (bldWriteString_any hV.at_ ⟨#[92, 39]⟩ (by have := HB.out; rw [show (⟨#[92, 39]⟩ : ByteArray).size = 2 from rfl]; omega)).mono ?_
              rintro e w' ⟨rfl, v', hW⟩
              have hV' := hV.wrote hW
              have hk2 := HK2.out
              go_wp2
              go_roundw
              case rel => exact HF.out _ _ _ (by rw [show quoteB c = [92, 39] by rw [quoteB, if_neg h10, if_neg h9, if_pos (.inr h39), show c = 39 from UInt8.toNat_inj.1 h39]]; exact hV')
              case measure => simp [intOf]; omega
            · have b92 : ((c.toNat : Int) == 92) = false := by simp; omega
              have b39 : ((c.toNat : Int) == 39) = false := by simp; omega
              by_cases hx : c.toNat < 32 ∨ (¬ c.toNat < 32 ∧ 126 < c.toNat)
              · have hx' := Lib.hid hx
                rcases hx with h32 | ⟨h32, h126⟩
                all_goals
                  go_wp2_with fail
                  obtain ⟨q, hq, eq⟩ : ∃ q : Nat, q ≤ 15 ∧ (c.toNat : Int) / 16 = q := ⟨c.toNat / 16, by omega, by omega⟩
                  have wq : IntKind.u8.wrap ((q : Int) + 1) = ((q + 1 : Nat) : Int) := by rw [IntWalk.u8_in] <;> omega
                  have sq : ((⟨#[48, 49, 50, 51, 52, 53, 54, 55, 56, 57, 97, 98, 99, 100, 101, 102]⟩ : ByteArray).extract q (q + 1)).size = 1 := by rw [ByteArray.size_extract]; show min (q + 1) 16 - q = 1; omega
                  obtain ⟨r, hr, er, hrn⟩ : ∃ r : Nat, r ≤ 15 ∧ bits BinOp.and IntKind.u8 (c.toNat : Int) 15 = r ∧ r = c.toNat % 16 := ⟨c.toNat % 16, by omega, bits15 ⟨c.toNat, by omega⟩, rfl⟩
                  have HRN := Lib.hid hrn
                  clear hrn
                  have wr' : IntKind.u8.wrap ((r : Int) + 1) = ((r + 1 : Nat) : Int) := by rw [IntWalk.u8_in] <;> omega
                  have sr : ((⟨#[48, 49, 50, 51, 52, 53, 54, 55, 56, 57, 97, 98, 99, 100, 101, 102]⟩ : ByteArray).extract r (r + 1)).size = 1 := by rw [ByteArray.size_extract]; show min (r + 1) 16 - r = 1; omega
                  have hρ : ∀ b, wr.heap.size ≤ b → bldρ w.heap.size v b = false := fun b hb => by
                    have h1 := (Array.getElem?_eq_some_iff.1 hV.at_.blk).1
                    simp only [bldρ, Bool.or_eq_false_iff, beq_eq_false_iff_ne]
                    exact ⟨by omega, fun e => by have := owns_lt' hV.at_.row e; omega⟩
                  have hq2 : quoteB c = (⟨#[92, 120]⟩ ++ (⟨#[48, 49, 50, 51, 52, 53, 54, 55, 56, 57, 97, 98, 99, 100, 101, 102]⟩ : ByteArray).extract q (q + 1) ++ (⟨#[48, 49, 50, 51, 52, 53, 54, 55, 56, 57, 97, 98, 99, 100, 101, 102]⟩ : ByteArray).extract r (r + 1)).data.toList := by
                    have e1 := hexX ⟨q, by omega⟩
                    have e2 := hexX ⟨r, by omega⟩
                    have e3 : q = c.toNat / 16 := by omega
                    rw [quoteB, if_neg h10, if_neg h9, if_neg (by omega), if_pos (by omega), ByteArray.data_append, ByteArray.data_append, Array.toList_append, Array.toList_append, e1, e2, ← e3, ← HRN.out]
                    rfl
                  refine wp_region_M 15 [(0, true), (1, true), (2, true), (3, true), (4, true), (5, true), (6, true), (7, true), (8, true), (9, true), (10, true), (11, true), (12, true), (13, true), (14, false)] [] [] (bldρ w.heap.size v) (by kernel_rfl) (by kernel_rfl) (by simp) hρ ?_
                  iterate 14
                    refine M_free rfl (by rfl) ?_
                    apply Exists.intro
                    refine ⟨fun W hW => ?_, ?_, ?_⟩
                    · first | (go_simp; done) | (go_simp; with_reducible rfl) | (go_simp; rw [if_pos ⟨by omega, by omega⟩, if_pos (by omega)])
                    · exact fun _ _ _ h => h
                    simp only [Act.put, List.setIfInBounds_toArray, List.set_cons_zero, List.set_cons_succ]
                  have Hq2 := Lib.hid hq2
                  clear hq2
                  refine M_callW rfl (by rfl) fun W hBW hSW => ?_
                  have hBW' : Below wr.heap.size wr W := ⟨hBW.os, hBW.tape, hBW.output, hBW.size, hBW.block⟩
                  refine ⟨_, _, _, by go_simp; rfl, bldWriteString_any (hV.below hBW').at_ _ ?_, ?_⟩
                  · have := HB.out
                    rw [show ∀ a b : ByteArray, (a ++ b).size = a.size + b.size from fun a b => ByteArray.size_append, show ∀ a b : ByteArray, (a ++ b).size = a.size + b.size from fun a b => ByteArray.size_append, sq, sr]
                    show _ + (2 + 1 + 1) ≤ _
                    omega
                  rintro e w' ⟨rfl, v', hW⟩
                  have hV' := (hV.below hBW').wrote hW
                  refine ⟨_, bldρ w.heap.size v, rfl, hW.chg, fun _ _ => rfl, fun b hb => hρ b (by have := hBW.size; have := hW.chg.size; simp at *; omega), ?_⟩
                  simp only [Act.put, List.setIfInBounds_toArray, List.set_cons_zero, List.set_cons_succ]
                  refine M_end0 fun W6 hB6 hS6 => ?_
                  have hV6 := hV'.below hB6
                  have hk2 := HK2.out
                  simp only [List.drop_succ_cons, List.drop_zero]
                  go_wp2
                  go_roundw
                  case rel => exact HF.out _ _ _ (by rw [Hq2.out]; exact hV6)
                  case measure => simp [intOf]; omega
              · have h32 : ¬ c.toNat < 32 := by omega
                have h126 : ¬ 126 < c.toNat := by omega
                clear hx
                go_wp2_with fail
                refine (bldWriteByte_any hV.at_ c (by have := HB.out; omega)).mono ?_
                rintro e w' ⟨rfl, v', hW⟩
                have hV' := hV.wrote hW
                have hk2 := HK2.out
                go_wp2
                go_roundw
                case rel => exact HF.out _ _ _ (by rw [show quoteB c = [c] by rw [quoteB, if_neg h10, if_neg h9, if_neg (by omega), if_neg (by omega)]]; exact hV')
                case measure => simp [intOf]; omega
    · go_wp2_with fail
      have hke : k = s.size := by omega
      have hl' : ([39] ++ (s.data.toList.take k).flatMap quoteB).length ≤ 264001 := by
        have h1 := flatMap_quoteB_length (s.data.toList.take k)
        have h2 := HLEN.out
        have h3 : (s.data.toList.take k).length ≤ k := by rw [List.length_take]; omega
        simp only [List.length_append, List.length_cons, List.length_nil]
        omega
      refine (bldWriteByte_any hV.at_ 39 (by omega)).mono ?_
      rintro e w' ⟨rfl, v', hW⟩
      have hV' := hV.wrote hW
      go_wp2_with fail
      refine (bldString_any hV'.at_ (by rw [List.length_append, List.length_singleton]; omega)).mono ?_
      rintro e w'' ⟨rfl, hC⟩
      go_wp2
      go_ret
      refine ⟨?_, ?_⟩
      · rw [List.take_of_length_le (by simp)]
        rfl
      · exact hV'.bel.trans ⟨hC.os, hC.tape, hC.output, hC.size, fun j hj => hC.block j (Nat.lt_of_lt_of_le hj hV'.bel.size) (by
          simp only [bldρ, Bool.or_eq_false_iff, beq_eq_false_iff_ne]
          exact ⟨by omega, fun e => by have := hV'.from_ j e; omega⟩)⟩

end Go.Proofs.YtjhfjllgjgnmeaaGreat

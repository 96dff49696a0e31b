/- Package operate: the teller's row. -/
import Derived.Test.YtjhfjllgjgnmeaaGreatTell
namespace Go.Proofs.YtjhfjllgjgnmeaaGreat
open Go.RowKit Go.Maps
attribute [local go_sem] World.cell?_alloc_some

def rowTo (part : Nat → St → St) : Nat → St → St
  | 0, st => st
  | k + 1, st => if (rowTo part k st).name ≠ ByteArray.empty then rowTo part k st else part k (if 0 < k then sayS (rowTo part k st) [44, 32] else rowTo part k st)

theorem rowTo_stuck (part : Nat → St → St) (st : St) (k : Nat) (h : (rowTo part k st).name ≠ ByteArray.empty) : ∀ j, rowTo part (k + j) st = rowTo part k st
  | 0 => rfl
  | j + 1 => by
    show (if (rowTo part (k + j) st).name ≠ ByteArray.empty then rowTo part (k + j) st else _) = _
    rw [rowTo_stuck part st k h j, if_pos h]

def rowS (signs : ByteArray) (n : Nat) (part : Nat → St → St) (st : St) : St :=
  sayS (rowTo part n (sayS st (signs.extract 0 1).data.toList)) (signs.extract 1 signs.size).data.toList

set_option maxRecDepth 100000 in
set_option maxHeartbeats 1600000 in
theorem rowT_any {w : World} {tb hb : Nat} {v : Value} {st : St} (h : TellAt w tb hb v st) (signs : ByteArray) (hs1 : 1 ≤ signs.size) (hs2 : signs.size ≤ 9) (n : Nat) (hn : n ≤ 1073741824) (f : FuncId) (hf : ∀ args w, (callFunc f args).run Tryz.prog w = .ok (.enter f args) w) (bd : Array Value) (part : Nat → St → St)
    (hpart : ∀ (i : Nat) (wr : World) (v' : Value) (st' : St), i < n → Told w wr tb v v' → TellAt wr tb hb v' st' → Calls Tryz.prog f (#[.int .i64 i] ++ bd) wr fun e w' => e = .returned (.tuple #[]) ∧ ∃ v'', TellAt w' tb hb v'' (part i st') ∧ Told wr w' tb v' v'') :
    Calls Tryz.prog 221 #[.pointer (some ⟨tb, 0, none⟩), .string signs, .int .i64 n, .func (.func f) #[] bd] w fun e w' => e = .returned (.tuple #[]) ∧ ∃ v', TellAt w' tb hb v' (rowS signs n part st) ∧ Told w w' tb v v' := by
  have HN := Lib.hid hn
  have HP := Lib.hid hpart
  clear hn hpart
  go_enter Tryz.func221, Tryz.ntmps221
  go_wp2_with fail
  refine (say_any h (signs.extract 0 1) (by rw [ByteArray.size_extract]; omega)).mono ?_
  rintro e w1 ⟨rfl, v1, hT1, hD1⟩
  generalize hst1 : sayS st (signs.extract 0 1).data.toList = st1 at hT1
  clear h
  go_wp2
  go_loopw [8, 14] (fun _ i wr => ∃ (k : Nat) (v' : Value), k ≤ n ∧ i = .int .i64 k ∧ TellAt wr tb hb v' (rowTo part k st1) ∧ Told w wr tb v v') (fun _ i _ => n - (intOf i).toNat)
  case atStart => exact ⟨0, v1, Nat.zero_le _, rfl, hT1, hD1⟩
  case round =>
    obtain ⟨k, v', hk, rfl, hT, hD⟩ := hrel
    clear hT1 hD1
    by_cases hlt : k < n
    · obtain ⟨p, hp⟩ := hT.at_
      have c3 := (cells_of_block hp.blk).1 3
      simp [tcells] at c3
      clear hp
      have he := nameE (rowTo part k st1).name
      by_cases hn : (rowTo part k st1).name = ByteArray.empty
      · rw [decide_eq_true hn] at he
        by_cases hk0 : 0 < k
        · have hnext : rowTo part (k + 1) st1 = part k (sayS (rowTo part k st1) [44, 32]) := by
            show (if (rowTo part k st1).name ≠ ByteArray.empty then _ else _) = _
            rw [if_neg (by simpa using hn), if_pos hk0]
          have HX := Lib.hid hnext
          clear hnext
          go_wp2_with fail
          refine (say_any hT ⟨#[44, 32]⟩ (by decide)).mono ?_
          rintro e w2 ⟨rfl, v2, hT2, hD2⟩
          go_wp2_with fail
          refine (HP.out k w2 v2 _ hlt (hD.trans hD2) hT2).mono ?_
          rintro e w3 ⟨rfl, v3, hT3, hD3⟩
          have hD' := (hD.trans hD2).trans hD3
          have hkn := HN.out
          clear hT hD hT2 hD2 hD3 c3
          go_wp2
          go_roundw
          case rel => exact ⟨k + 1, v3, hlt, by go_num, by rw [HX.out]; exact hT3, hD'⟩
          case measure => simp [intOf]; omega
        · have hnext : rowTo part (k + 1) st1 = part k (rowTo part k st1) := by
            show (if (rowTo part k st1).name ≠ ByteArray.empty then _ else _) = _
            rw [if_neg (by simpa using hn), if_neg hk0]
          have HX := Lib.hid hnext
          clear hnext
          go_wp2_with fail
          refine (HP.out k wr v' _ hlt hD hT).mono ?_
          rintro e w3 ⟨rfl, v3, hT3, hD3⟩
          have hD' := hD.trans hD3
          have hkn := HN.out
          clear hT hD hD3 c3
          go_wp2
          go_roundw
          case rel => exact ⟨k + 1, v3, hlt, by go_num, by rw [HX.out]; exact hT3, hD'⟩
          case measure => simp [intOf]; omega
      · rw [decide_eq_false hn] at he
        have hfin : rowS signs n part st = rowTo part k st1 := by
          have h1 := rowTo_stuck part st1 k hn (n - k)
          rw [show k + (n - k) = n by omega] at h1
          rw [rowS, hst1, h1, sayS, if_pos hn]
        go_wp2
        refine bodyPost_ret (results_none rfl _ _ _) rfl ?_
        exact ⟨rfl, v', by rw [hfin]; exact hT, hD⟩
    · have hke : k = n := by omega
      have hfin : rowS signs n part st = sayS (rowTo part k st1) (signs.extract 1 signs.size).data.toList := by rw [rowS, hst1, hke]
      clear hst1
      go_wp2_with fail
      refine (say_any hT (signs.extract 1 signs.size) (by rw [ByteArray.size_extract]; omega)).mono ?_
      rintro e w2 ⟨rfl, v2, hT2, hD2⟩
      have hD' := hD.trans hD2
      clear hT hD hD2
      go_wp2
      go_end0
      exact ⟨rfl, v2, by rw [hfin]; exact hT2, hD'⟩

end Go.Proofs.YtjhfjllgjgnmeaaGreat

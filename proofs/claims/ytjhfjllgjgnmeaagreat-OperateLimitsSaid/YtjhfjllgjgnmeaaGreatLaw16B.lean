/- Package kraitlaw16: plain, rows; kraitref12.Same. -/
import Derived.Test.YtjhfjllgjgnmeaaGreatMul
import Derived.Test.YtjhfjllgjgnmeaaGreatShown
import Derived.OpenShut
namespace Go.Proofs.YtjhfjllgjgnmeaaGreat
open Go.RowKit Go.Maps
attribute [local go_sem] World.cell?_alloc_some

/-- '!=' of two api.Values. -/
theorem neV (W : World) (a b : V) : (binOp .neq 24 (.agg #[.int .i64 a.k, .int .i64 a.n, .string a.s]) (.agg #[.int .i64 b.k, .int .i64 b.n, .string b.s])).run Tryz.prog W = .ok (.bool (!decide (a = b))) W := by
  by_cases h1 : a.k = b.k
  · by_cases h2 : a.n = b.n
    · by_cases h3 : a.s = b.s
      · have : a = b := V.ext' h1 h2 h3
        subst this
        go_simp
      · have h3' : ¬ a.s.toList = b.s.toList := by
          rw [Lib.toList_data, Lib.toList_data]
          intro e
          exact h3 (by cases ha : a.s; cases hb : b.s; rw [ha, hb] at e; simp at e; rw [e])
        have : decide (a = b) = false := by simp; intro e; exact h3 (by rw [e])
        go_simp
    · have : decide (a = b) = false := by simp; intro e; exact h2 (by rw [e])
      go_simp
  · have : decide (a = b) = false := by simp; intro e; exact h1 (by rw [e])
    go_simp
attribute [local go_sem high] eqV neV

theorem RowV.at {w : World} {v : Value} {l : List V} (h : RowV w v l) (hne : 0 < l.length) : ∃ b off cap, v = .slice (some ⟨b, off, Option.none⟩) l.length cap ∧ (∀ i x, l[i]? = some x → w.cell? ⟨b, off + i * 3, Option.none⟩ = some (.int .i64 x.k) ∧ w.cell? ⟨b, off + i * 3 + 1, Option.none⟩ = some (.int .i64 x.n) ∧ w.cell? ⟨b, off + i * 3 + 2, Option.none⟩ = some (.string x.s)) ∧ b < w.heap.size := by
  rcases h with ⟨rfl, _⟩ | ⟨b, off, cap, rfl, hc⟩
  · simp at hne
  · refine ⟨b, off, cap, rfl, hc, ?_⟩
    obtain ⟨c0, _⟩ := hc 0 l[0] (by simp [hne])
    exact lt_of_cell c0

set_option maxHeartbeats 1600000 in
theorem r12Same_any {w : World} {va vb : Value} {l m : List V} (ha : RowV w va l) (hb : RowV w vb m) (hl : l.length ≤ 1073741824) :
    Calls Tryz.prog 91 #[va, vb] w fun e w' => e = .returned (.bool (decide (l = m))) ∧ Below w.heap.size w w' := by
  by_cases hlen : l.length = m.length
  · by_cases h0 : 0 < l.length
    · obtain ⟨b1, o1, c1, rfl, f1, z1⟩ := ha.at h0
      obtain ⟨b2, o2, c2, rfl, f2, z2⟩ := hb.at (by omega)
      have HLN := Lib.hid hlen
      have e0 : ((l.length : Int) != (m.length : Int)) = false := by simp [hlen]
      clear hlen ha hb
      go_enter Tryz.func91, Tryz.ntmps91
      go_wp2
      go_loopw [5] (fun i wr => ∃ k : Nat, k ≤ l.length ∧ i = .int .i64 k ∧ Hid (l.take k = m.take k) ∧ Below w.heap.size w wr) (fun i _ => l.length - (intOf i).toNat)
      case atStart => exact ⟨0, Nat.zero_le _, rfl, Lib.hid rfl, b0 _⟩
      case round =>
        obtain ⟨k, hk, rfl, HT, hB⟩ := hrel
        by_cases hlt : k < l.length
        · have hlt2 : k < m.length := by have := HLN.out; omega
          obtain ⟨d0, d1, d2⟩ := f1 k l[k] (by simp [hlt])
          obtain ⟨g0, g1, g2⟩ := f2 k m[k] (by simp [hlt2])
          replace d0 := (hB.cell z1).trans d0
          replace d1 := (hB.cell z1).trans d1
          replace d2 := (hB.cell z1).trans d2
          replace g0 := (hB.cell z2).trans g0
          replace g1 := (hB.cell z2).trans g1
          replace g2 := (hB.cell z2).trans g2
          have y1 := Nat.lt_of_lt_of_le z1 hB.size
          have y2 := Nat.lt_of_lt_of_le z2 hB.size
          clear f1 f2
          by_cases he : l[k] = m[k]
          · have hd : decide (l[k] = m[k]) = true := decide_eq_true he
            have HE := Lib.hid he
            clear he
            go_wp2_with fail
            refine wp_region_M 9 [(0, true), (1, true), (2, true), (3, true), (4, true), (5, true), (6, true), (7, true), (8, true)] [] [] (fun _ => false) (by kernel_rfl) (by kernel_rfl) (by simp) (fun _ _ => rfl) ?_
            have hR := undrewR wr
            repeat
              first
              | refine M_skip rfl (by rfl) (fun _ _ _ h => h) ?_
              | refine M_pass rfl (by rfl) (fun _ _ => rfl) fun W hBW => ?_
                replace hR := btr hR hBW
                clear hBW
              | refine M_free rfl (by rfl) ?_
                apply Exists.intro
                refine ⟨fun W hW => ?_, fun _ _ _ h => h, ?_⟩
                focus
                  have hq := hW.allF
                  first | (go_simp; done) | (go_simp; with_reducible rfl)
              simp only [Act.put, List.setIfInBounds_toArray, List.set_cons_zero, List.set_cons_succ]
            refine M_end0 fun W hBW hSW => ?_
            replace hR := btr hR hBW
            clear hBW
            simp only [List.drop_succ_cons, List.drop_zero]
            replace hB := btr hB hR
            go_wp2
            go_roundw
            case rel =>
              refine ⟨k + 1, by omega, by go_num, Lib.hid ?_, hB⟩
              rw [List.take_succ_eq_append_getElem hlt, List.take_succ_eq_append_getElem hlt2, HT.out, HE.out]
            case measure => simp [intOf]; omega
          · have hd : decide (l[k] = m[k]) = false := decide_eq_false he
            have hne : decide (l = m) = false := decide_eq_false (fun e => he (by subst e; rfl))
            clear he
            go_wp2_with fail
            refine wp_region_M 9 [(0, true), (1, true), (2, true), (3, true), (4, true), (5, true), (6, true), (7, true), (8, true)] [] [] (fun _ => false) (by kernel_rfl) (by kernel_rfl) (by simp) (fun _ _ => rfl) ?_
            have hR := undrewR wr
            repeat
              first
              | refine M_skip rfl (by rfl) (fun _ _ _ h => h) ?_
              | refine M_pass rfl (by rfl) (fun _ _ => rfl) fun W hBW => ?_
                replace hR := btr hR hBW
                clear hBW
              | refine M_free rfl (by rfl) ?_
                apply Exists.intro
                refine ⟨fun W hW => ?_, fun _ _ _ h => h, ?_⟩
                focus
                  have hq := hW.allF
                  first | (go_simp; done) | (go_simp; with_reducible rfl)
              simp only [Act.put, List.setIfInBounds_toArray, List.set_cons_zero, List.set_cons_succ]
            refine M_end0 fun W hBW hSW => ?_
            replace hR := btr hR hBW
            clear hBW
            simp only [List.drop_succ_cons, List.drop_zero]
            replace hB := btr hB hR
            go_wp2
            go_ret
            exact ⟨by first | rfl | (rw [hne]; rfl), hB⟩
        · have hk2 : k = l.length := by omega
          have hLM : l = m := by
            have h1 := HT.out
            rw [hk2, List.take_length] at h1
            rw [h1, HLN.out, List.take_length]
          subst hLM
          have hd : decide (l = l) = true := decide_eq_true rfl
          have HK := Lib.hid hk2
          clear hk2
          go_wp2
          go_ret
          exact ⟨by rfl, hB⟩
    · have hm0 : ¬ 0 < m.length := by omega
      obtain rfl : l = [] := List.length_eq_zero_iff.1 (by omega)
      obtain rfl : m = [] := List.length_eq_zero_iff.1 (by simpa using hm0)
      obtain ⟨a1, c1, rfl⟩ := ha.slice
      obtain ⟨a2, c2, rfl⟩ := hb.slice
      clear ha hb hm0 h0 hlen hl
      go_enter Tryz.func91, Tryz.ntmps91
      go_wp2
      go_loopw [5] (fun i wr => i = .int .i64 0 ∧ Below w.heap.size w wr) (fun _ _ => 0)
      case atStart => exact ⟨rfl, b0 _⟩
      case round =>
        obtain ⟨rfl, hB⟩ := hrel
        go_wp2
        go_ret
        exact ⟨rfl, hB⟩
  · obtain ⟨a1, c1, rfl⟩ := ha.slice
    obtain ⟨a2, c2, rfl⟩ := hb.slice
    have hne : decide (l = m) = false := decide_eq_false (fun e => hlen (by rw [e]))
    have e0 : ((l.length : Int) != (m.length : Int)) = true := by simp; omega
    clear ha hb hlen hl
    go_enter Tryz.func91, Tryz.ntmps91
    go_wp2
    go_ret
    exact ⟨by first | rfl | (rw [hne]; rfl), b0 _⟩

theorem extract_size (s : ByteArray) (n : Nat) : (s.extract 0 n).size ≤ s.size := by
  rw [ByteArray.size_extract]; omega

/-- kraitlaw16.plain. -/
def plainV (v : V) : V := ⟨v.k, if v.k = 4 then bits .and .i64 v.n 15 else v.n, v.s.extract 0 (min v.s.size 8), v.hk, by split; exact wf_bits _ _ _ _; exact v.hn, Nat.le_trans (extract_size _ _) v.hs⟩

theorem plainV_s (v : V) : (plainV v).s.size ≤ 8 := by
  show (v.s.extract 0 (min v.s.size 8)).size ≤ 8
  rw [ByteArray.size_extract]; omega

set_option maxHeartbeats 800000 in
theorem plainL_any (w : World) (v : V) : Calls Tryz.prog 16 #[v.val] w fun e w' => e = .returned (plainV v).val ∧ Below w.heap.size w w' := by
  have hs := v.hs
  unfold maxLen at hs
  have hm : (min (v.s.size : Int) 8).toNat = min v.s.size 8 := by omega
  have HM := Lib.hid hm
  clear hm
  by_cases h4 : v.k = 4
  · have h4' : (v.k == 4) = true := by simpa using h4
    have hv : (plainV v).val = .agg #[.int .i64 v.k, .int .i64 (bits BinOp.and IntKind.i64 v.n 15), .string (v.s.extract 0 (min v.s.size 8))] := by simp [plainV, h4]
    clear h4
    go_enter Tryz.func16, Tryz.ntmps16
    go_wp2
    rw [HM.out]
    refine ret_V rfl rfl (two_new w _ _ _ _ (b0 _)).2.1 rfl ⟨by rw [hv], (two_new w _ _ _ _ (b0 _)).2.2.1⟩
  · have h4' : (v.k == 4) = false := by simpa using h4
    have hv : (plainV v).val = .agg #[.int .i64 v.k, .int .i64 v.n, .string (v.s.extract 0 (min v.s.size 8))] := by simp [plainV, h4]
    clear h4
    go_enter Tryz.func16, Tryz.ntmps16
    go_wp2
    rw [HM.out]
    refine ret_V rfl rfl (two_new w _ _ _ _ (b0 _)).2.1 rfl ⟨by rw [hv], (two_new w _ _ _ _ (b0 _)).2.2.1⟩

/-- A return of an api.Value in a variable and of a temporary. -/
theorem ret_Vt {fn : Func} {R : Ending → World → Prop} {a : Act} {w : World} {p u : Tmp} {g : Nat} (hres : fn.results = #[.cell p 24, .tmp u]) {v : Value} {cs : Array Value} (hs : cs.size = 3) (hu : a.tmps.getD u undef = v) (hp : a.tmps.getD p undef = .pointer (some ⟨g, 0, Option.none⟩))
    (hg : Has w g cs 24) (hd : a.defers = []) (hR : R (.returned (.tuple #[.agg cs, v])) w) : bodyPost Tryz.prog fn R .ret a w := by
  refine bodyPost_ret (v := .tuple #[.agg cs, v]) ?_ hd hR
  have hu' : a.tmps[u]?.getD undef = v := by simpa using hu
  have hp' : a.tmps[p]?.getD undef = .pointer (some ⟨g, 0, Option.none⟩) := by simpa using hp
  simp [results, hres, hu', hp', asAddr, loadV hg hs, Result.andThen]

/-- kraitlaw16.rows: eight at most. -/
def rowsV (l : List V) : List V := (l.take 8).map plainV

theorem rowsV_length (l : List V) : (rowsV l).length ≤ 8 := by simp [rowsV]; omega

set_option maxRecDepth 100000 in
set_option maxHeartbeats 1600000 in
theorem rows_any {w : World} {τ : Tag} {hb : Nat} {H : PH} (h : HeapAt w τ hb H) (t : Bool) {lv : Value} {l : List V} (hl : RowV w lv l) (hbig : H.room) :
    Calls Tryz.prog 153 #[.pointer (some ⟨hb, 0, Option.none⟩), .bool t, lv] w fun e w' => e = .returned (.tuple #[.agg #[.int .i64 4, .int .i64 (H.last + 1), .string ByteArray.empty], .int .i64 (rowsV l).length]) ∧ ∃ τ', HeapAt w' τ' hb (H.made (bif t then 2 else 1) ByteArray.empty 0 (rowsV l)) ∧ Chg (own τ) w w' ∧ TagOn w τ τ' := by
  have x6 := Has.new w #[.int .i64 0, .int .i64 0, .string ⟨#[]⟩] 24
  obtain ⟨la, lc, rfl⟩ := hl.slice
  have hlw := hl
  go_enter Tryz.func153, Tryz.ntmps153
  go_wp2
  have hB0 := bal (b0 w) (.cells #[.int .i64 0, .int .i64 0, .string ⟨#[]⟩] 24)
  have hz : (w.alloc (.cells #[.int .i64 0, .int .i64 0, .string ⟨#[]⟩] 24)).heap.size = w.heap.size + 1 := by simp
  have q6 := own_new h w.heap.size (Nat.le_refl _)
  have hrow0 := World.ownsRow_lit (base := w.heap.size + 1) (size := 3) (e := 24) (w.alloc (.cells #[.int .i64 0, .int .i64 0, .string ⟨#[]⟩] 24)) #[] 0 (by simp) (by simp) rfl
  rw [hz] at hrow0
  generalize w.alloc (.cells #[.int .i64 0, .int .i64 0, .string ⟨#[]⟩] 24) = w1 at *
  have h1 := h.below hB0
  have hl1 := hl.chg (ρ := fun _ => false) (Chg.of_below hB0) (fun _ _ => rfl)
  have HZ := Lib.hid hz
  clear hz hl
  go_loopw [8, 9] (fun o i wr => ∃ (k : Nat) (L : List V), Hid (L = (l.take k).map plainV) ∧ k ≤ l.length ∧ k ≤ 8 ∧ i = .int .i64 k ∧ wr.ownsRow (w.heap.size + 1) 24 3 o L.length (flat L) ∧ Below w1.heap.size w1 wr) (fun _ i _ => l.length - (intOf i).toNat)
  case atStart => exact ⟨0, [], Lib.hid rfl, Nat.zero_le _, Nat.zero_le _, rfl, hrow0, bal (b0 _) _⟩
  case round =>
    obtain ⟨k, L, HL, hk, hk8, rfl, ho, hBr⟩ := hrel
    have hLb : L.length ≤ 8 := by rw [HL.out]; simp; omega
    obtain ⟨ao, co, rfl⟩ := ownsRow_slice ho
    by_cases hgo : k < l.length ∧ k < 8
    · obtain ⟨hlt, hlt8⟩ := hgo
      obtain ⟨b1, o1, c1, e1, f1, z1⟩ := hl1.at (by omega)
      obtain ⟨rfl, rfl⟩ : la = some ⟨b1, o1, Option.none⟩ ∧ lc = c1 := by cases e1; exact ⟨rfl, rfl⟩
      obtain ⟨d0, d1, d2⟩ := f1 k l[k] (by simp [hlt])
      replace d0 := (hBr.cell z1).trans d0
      replace d1 := (hBr.cell z1).trans d1
      replace d2 := (hBr.cell z1).trans d2
      have z2 := Nat.lt_of_lt_of_le z1 hBr.size
      clear e1 f1 hrow0
      go_wp2_with fail
      refine (plainL_any _ l[k]).mono ?_
      rintro e w4 ⟨rfl, hB⟩
      have hB4 := btr hBr hB
      have ho4 : (w4.alloc (.cells #[.int .i64 (plainV l[k]).k, .int .i64 (plainV l[k]).n, .string (plainV l[k]).s] 24)).ownsRow (w.heap.size + 1) 24 3 (.slice ao L.length co) L.length (flat L) := (ownsRow_same ho (fun b' hb' => hB.block b' (owns_lt ho hb'))).alloc _
      have hx4 : RowV (w4.alloc (.cells #[.int .i64 (plainV l[k]).k, .int .i64 (plainV l[k]).n, .string (plainV l[k]).s] 24)) (.slice (some ⟨w4.heap.size, 0, Option.none⟩) 1 1) [plainV l[k]] := by
        have y := Has.new w4 #[.int .i64 (plainV l[k]).k, .int .i64 (plainV l[k]).n, .string (plainV l[k]).s] 24
        obtain ⟨hc, _, _⟩ := y.facts
        refine .inr ⟨w4.heap.size, 0, 1, rfl, fun i x hx => ?_⟩
        match i, hx with
        | 0, hx => cases hx; exact ⟨hc 0, hc 1, hc 2⟩
      have s4 := hB4.size
      have s5 := HZ.out
      clear d0 d1 d2 hB
      have HS5 := Lib.hid s5
      clear s5
      go_wp2_with (at_builtin; refine wpList_app rfl _ _ rfl rfl ho4 rfl hx4 (by simp; omega) (by simp only [World.size_alloc]; have := HS5.out; omega) ?_; intro v' w5 ho5 hg5)
      go_roundw
      case rel =>
        refine ⟨k + 1, L ++ [plainV l[k]], Lib.hid ?_, by omega, by omega, by go_num, ho5, (hB4.alloc s4 _).grown hg5 (by simp only [World.size_alloc]; omega) (fun j hj => by have := owns_base ho hj; have := HS5.out; omega)⟩
        rw [HL.out, List.take_succ_eq_append_getElem hlt, List.map_append]
        rfl
      case measure => simp [intOf]; omega
    · have hLR : L = rowsV l := by
        rw [HL.out, rowsV]
        by_cases e : k = 8
        · rw [e]
        · rw [List.take_of_length_le (by omega), List.take_of_length_le (by omega)]
      obtain rfl := hLR
      have hB2 := btr hB0 hBr
      have x6r := x6.bel hBr
      have h2 := h.below hB2
      have hor := RowV.of_owns (ownsRow_base ho (fun _ _ => Nat.zero_le _))
      have hcase : (¬ k < l.length) ∨ (k < l.length ∧ ¬ k < 8) := by omega
      have hlb := rowsV_length l
      have s2 := hB2.size
      clear hgo h1 hl1 hlw ho hBr x6 hrow0
      rcases hcase with p1 | ⟨p1, p2⟩
      all_goals
        cases t
        all_goals
          go_wp2_with fail
          refine (Make_any h2 _ ByteArray.empty 0 _ (rowsV l) (by decide) hor (by omega) hbig).mono ?_
          rintro e w6 ⟨rfl, τ', hH', hC', hT'⟩
          have x7 := x6r.chg hC' q6
          have l6 := x6r.lt
          have hT2 : TagOn w τ τ' := fun b' hb' => hT' b' (by omega)
          have hC2 := (Chg.of_below (ρ := own τ) hB2).trans hC' (fun _ _ h => h)
          have p6 : own τ' w.heap.size = false := by rw [own, hT' _ l6]; exact q6
          clear x6r hor h2 h hB2 hB0
          obtain ⟨⟨x7c0, x7c1, x7c2⟩, ⟨x7f0, x7f1, x7f2⟩, x7l⟩ := factsV x7
          go_wp2
          obtain ⟨y7, c7⟩ := stVc x7 (.int .i64 4) (.int .i64 (H.last + 1)) (.string ByteArray.empty)
          refine ret_Vt rfl rfl rfl rfl y7 rfl ⟨rfl, τ', heapSt hH' c7 p6, ?_, hT2⟩
          exact hC2.trans (c7.mono (ρ' := fun b => b == w.heap.size) (fun _ _ h => h)) (fun b hb' h => by simp at h; omega)

end Go.Proofs.YtjhfjllgjgnmeaaGreat

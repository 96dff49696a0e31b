/- Package heap: Replace. -/
import Derived.Test.YtjhfjllgjgnmeaaGreatHeapA
import Derived.Test.YtjhfjllgjgnmeaaGreatSlices
import Derived.Test.YtjhfjllgjgnmeaaGreatHold
import Derived.Test.YtjhfjllgjgnmeaaGreatRepB
import Derived.Test.YtjhfjllgjgnmeaaGreatPi
namespace Go.Proofs.YtjhfjllgjgnmeaaGreat
open Go.RowKit Go.Maps
attribute [local go_sem] World.cell?_alloc_some
attribute [-go_sem] sliced

/-- Items turned: those of a to b are left out, l stands there. -/
def cut (l0 : List V) (a b : Int) (l : List V) : List V := l0.take a.toNat ++ l ++ l0.drop b.toNat

theorem cut_length (l0 : List V) (a b : Int) (l : List V) : (cut l0 a b l).length ≤ l0.length + l0.length + l.length := by
  simp only [cut, List.length_append, List.length_take, List.length_drop]; omega

/-- May it be? -/
def PH.fits (H : PH) (v : V) (a b : Int) : Bool := match H.of v with | some o => decide (0 ≤ a ∧ a ≤ b ∧ b ≤ o.items.length) | none => false

def PH.replace (H : PH) (v : V) (a b : Int) (l : List V) : PH :=
  match H.of v with
  | some o => if 0 ≤ a ∧ a ≤ b ∧ b ≤ o.items.length then ⟨H.last, upd H.obj v.n (some { o with items := cut o.items a b l })⟩ else H
  | none => H

/-- A part of a row. -/
theorem RowV.sliced {w : World} {base : Nat} {a0 : Option Addr} {cap : Nat} {l : List V} (h : w.ownsRow base 24 3 (.slice a0 l.length cap) l.length (flat l)) (lo hi mx : Nat) (h1 : lo ≤ hi) (h2 : hi ≤ mx) (h3 : hi ≤ l.length) (h4 : mx ≤ cap) :
    RowV w (_root_.Go.sliced a0 lo hi mx 3) ((l.drop lo).take (hi - lo)) := by
  show RowV w (.slice (if mx = lo then a0 else a0.map (·.add (lo * 3))) (hi - lo) (mx - lo)) _
  have hn : ((l.drop lo).take (hi - lo)).length = hi - lo := by simp; omega
  by_cases e : hi = lo
  · have hnil : (l.drop lo).take (hi - lo) = [] := List.length_eq_zero_iff.1 (by omega)
    refine .inl ⟨hnil, ?_⟩
    rw [show hi - lo = 0 by omega]
    rcases a0 with _ | a0
    · have : cap = 0 := by
        obtain ⟨_, ⟨e, _⟩ | ⟨g, c, cur, e, _⟩⟩ := h
        · simp at e; exact e.2
        · simp at e
      exact .inl (by simp [show mx - lo = 0 by omega])
    · right
      split
      · exact ⟨_, _, rfl⟩
      · exact ⟨_, _, rfl⟩
  · have hr := RowV.of_owns h
    obtain ⟨_, ⟨e0, e1⟩ | ⟨g, c, cur, e0, _⟩⟩ := h
    · omega
    · cases e0
      rw [if_neg (by omega)]
      rcases hr with ⟨rfl, _⟩ | ⟨b, off, c', e0, hc⟩
      · simp at h3; omega
      · cases e0
        refine .inr ⟨g, 0 + lo * 3, mx - lo, by rw [hn]; simp only [Option.map_some, Addr.add]; split <;> simp_all, fun i y hy => ?_⟩
        have hlt : i < hi - lo := by
          have := (List.getElem?_eq_some_iff.1 hy).1
          omega
        have hy' : l[lo + i]? = some y := by
          rw [List.getElem?_take, if_pos hlt, List.getElem?_drop] at hy
          exact hy
        have := hc _ y hy'
        rw [show 0 + lo * 3 + i * 3 = 0 + (lo + i) * 3 by omega]
        exact this

theorem owns_cap {w : World} {base : Nat} {e : TypeId} {size : Nat} {a0 : Option Addr} {n cap : Nat} {xs : List Value} (h : w.ownsRow base e size (.slice a0 n cap) n xs) : n ≤ cap ∧ cap ≤ maxLen := by
  obtain ⟨_, ⟨e, rfl⟩ | ⟨g, c, cur, e, _, _, h1, h2, _⟩⟩ := h
  · cases e; simp
  · cases e; exact ⟨h1, h2⟩

theorem owns_lt {w : World} {base : Nat} {e : TypeId} {size : Nat} {v : Value} {n : Nat} {xs : List Value} (h : w.ownsRow base e size v n xs) {b : Nat} (hb : v.ownBlock = some b) : b < w.heap.size := by
  obtain ⟨_, ⟨rfl, _⟩ | ⟨g, c, cur, rfl, _, hh, _⟩⟩ := h
  · cases hb
  · cases hb; exact (Array.getElem?_eq_some_iff.1 hh).1

theorem owns_base {w : World} {base : Nat} {e : TypeId} {size : Nat} {v : Value} {n : Nat} {xs : List Value} (h : w.ownsRow base e size v n xs) {b : Nat} (hb : v.ownBlock = some b) : base ≤ b := by
  obtain ⟨_, ⟨rfl, _⟩ | ⟨g, c, cur, rfl, h1, _⟩⟩ := h
  · cases hb
  · cases hb; exact h1

/-- A row, when the counts change. -/
theorem RowV.refs {w w' : World} {v : Value} {l : List V} {mr : Nat} (h : RowV w v l) (hR : RefsAt w mr) (hC : Chg (fun b => b == mr) w w') : RowV w' v l := by
  by_cases hne : l = []
  · subst hne
    rcases h with h | ⟨b, off, cap, rfl, _⟩
    · exact .inl h
    · exact .inl ⟨rfl, .inr ⟨_, _, rfl⟩⟩
  · refine h.same (fun b e => hC.block b (h.lt hne b e) ?_)
    rcases h with ⟨rfl, _⟩ | ⟨b', off, cap, rfl, hc⟩
    · exact absurd rfl hne
    · cases e
      cases l with
      | nil => exact absurd rfl hne
      | cons x r => simpa using hR.ne_cell (hc 0 x rfl).1

set_option maxRecDepth 100000 in
set_option maxHeartbeats 800000 in
theorem Replace_any {w : World} {τ : Tag} {hb : Nat} {H : PH} (h : HeapAt w τ hb H) (v : V) (a b : Int) (iv : Value) (l : List V) (hi : RowV w iv l) (hl : l.length ≤ 268435456) (ho : ∀ o, H.of v = some o → o.items.length ≤ 268435456) :
    Calls Tryz.prog 51 #[.pointer (some ⟨hb, 0, none⟩), v.val, .int .i64 a, .int .i64 b, iv] w fun e w' => e = .returned (.bool (H.fits v a b)) ∧ ∃ τ', HeapAt w' τ' hb (H.replace v a b l) ∧ Chg (own τ) w w' ∧ TagOn w τ τ' := by
  obtain ⟨ma, mr, pb, h⟩ := h
  have HL := Lib.hid hl
  have HO := Lib.hid ho
  clear hl ho
  go_enter Tryz.func51, Tryz.ntmps51
  go_wp2_with fail
  refine (of_any (h.below (bal (b0 _) _)) v).mono ?_
  rintro e w1 ⟨rfl, hB⟩
  have hB1 := btr (bal (b0 _) _) hB
  have h1 := h.below hB1
  cases ho : H.of v with
  | none =>
    have hk : H.fits v a b = false := by simp [PH.fits, ho]
    have hH : H.replace v a b l = H := by simp [PH.replace, ho]
    rw [PH.ptr_none ho]
    have hfin : ∃ τ', HeapAt w1 τ' hb (H.replace v a b l) ∧ Chg (own τ) w w1 ∧ TagOn w τ τ' := ⟨τ, by rw [hH]; exact ⟨ma, mr, pb, h1⟩, Chg.of_below hB1, TagOn.refl _ _⟩
    clear hB h ho h1 hH hi HL HO
    go_wp2
    go_ret
    exact ⟨by rw [hk]; rfl, hfin⟩
  | some o =>
    rw [PH.ptr_some ho]
    obtain ⟨hob, iv0, db, hO⟩ := h1.of ho
    obtain ⟨c0, c1, c2, c3, c4⟩ := hO.cells
    have hs := hO.row
    by_cases hok : 0 ≤ a ∧ a ≤ b ∧ b ≤ o.items.length
    · have hk : H.fits v a b = true := by simp [PH.fits, ho, hok]
      have hH : H.replace v a b l = ⟨H.last, upd H.obj v.n (some { o with items := cut o.items a b l })⟩ := by simp [PH.replace, ho, hok]
      obtain ⟨ha, hab, hbn⟩ := hok
      obtain ⟨a0, cap0, rfl⟩ := ownsRow_slice hs
      obtain ⟨hcap, hcap2⟩ := owns_cap hs
      clear hB h
      obtain ⟨na, rfl⟩ := Int.eq_ofNat_of_zero_le ha
      obtain ⟨nb, rfl⟩ := Int.eq_ofNat_of_zero_le (Int.le_trans ha hab)
      have hab' : na ≤ nb := by omega
      have hbn' : nb ≤ o.items.length := by omega
      have hHb := (cells_of_block h1.blk).1 1
      simp at hHb
      have hiw : RowV w1 iv l := hi.chg (ρ := fun _ => false) (Chg.of_below hB1) (fun _ _ => rfl)
      go_wp2_with fail
      refine (hold_any hb mr 1 iv l w1 hHb h1.refs hiw (by have := HL.out; omega)).mono ?_
      rintro e w2 ⟨rfl, hR2, hC2⟩
      have h2 := h1.refsChg hR2 hC2
      have hk2 := h1.refsBlk hC2
      have c3' : w2.cell? ⟨pb v.n, 3, none⟩ = some (Value.slice a0 o.items.length cap0) := (World.cell?_of_block (a := ⟨_, _, none⟩) (hk2 _ _ hO.tob (by simp))).trans c3
      go_wp2_with fail
      have hs2 : w2.ownsRow 0 24 3 (Value.slice a0 o.items.length cap0) o.items.length (flat o.items) := ownsRow_same hs (fun b hb' => hk2 b _ (hO.trow b hb') (by simp only [ne_eq, Prod.mk.injEq, not_and]; omega))
      have hHb2 := (cells_of_block h2.blk).1 1
      simp at hHb2
      have hp2 := RowV.sliced hs2 na nb nb hab' (Nat.le_refl _) hbn' (by omega)
      refine (hold_any hb mr (-1) _ _ w2 hHb2 hR2 hp2 (by have := HO.out o ho; simp only [List.length_take, List.length_drop]; omega)).mono ?_
      rintro e w3 ⟨rfl, hR3, hC3⟩
      have h3 := h2.refsChg hR3 hC3
      have hk3 := h2.refsBlk hC3
      have hs3 : w3.ownsRow 0 24 3 (Value.slice a0 o.items.length cap0) o.items.length (flat o.items) := ownsRow_same hs2 (fun b hb' => hk3 b _ (hO.trow b hb') (by simp only [ne_eq, Prod.mk.injEq, not_and]; omega))
      have c3'' : w3.cell? ⟨pb v.n, 3, none⟩ = some (Value.slice a0 o.items.length cap0) := (World.cell?_of_block (a := ⟨_, _, none⟩) (hk3 _ _ hO.tob (by simp))).trans c3'
      have q1 := RowV.sliced hs3 0 na na (Nat.zero_le _) (Nat.le_refl _) (by omega) (by omega)
      rw [Nat.sub_zero, List.drop_zero] at q1
      have q3 := RowV.sliced hs3 nb o.items.length cap0 hbn' hcap (Nat.le_refl _) (Nat.le_refl _)
      rw [List.take_of_length_le (by simp)] at q3
      have L1 : (o.items.take na).length = na := by rw [List.length_take]; omega
      have L3 : (o.items.drop nb).length = o.items.length - nb := by rw [List.length_drop]
      have q2 : RowV w3 iv l := (hiw.refs h1.refs hC2).refs hR2 hC3
      have hcap3 : na ≤ cap0 := by omega
      have hlt3 := lt_of_cell c3''
      have d3 : ∀ W, Chg (fun _ => false) w3.drew W → W.cell? ⟨pb v.n, 3, none⟩ = some (Value.slice a0 o.items.length cap0) := fun W hW => (hW.cell hlt3 rfl).trans c3''
      clear c0 c1 c2 c3 c3' c4 hHb hHb2
      go_wp2_with fail
      refine wp_region_M 17 [(0, true), (1, true), (2, true), (3, true), (4, true), (5, true), (6, true), (7, true), (8, true), (9, true), (10, true), (11, true), (12, true), (13, true), (14, true), (15, false), (16, false)] [] [] (fun _ => false) (by kernel_rfl) (by kernel_rfl) (by simp) (fun _ _ => rfl) ?_
      iterate 15
        refine M_free rfl (by rfl) ?_
        apply Exists.intro
        refine ⟨fun W hW => ?_, ?_, ?_⟩
        · first | (go_simp; done) | (go_simp; with_reducible rfl) | (go_simp; rw [if_pos hcap3]; with_reducible rfl)
        · exact fun _ _ _ h => h
        simp only [Act.put, List.setIfInBounds_toArray, List.set_cons_zero, List.set_cons_succ]
      obtain ⟨x1, n1, e1⟩ := q1.slice
      obtain ⟨x2, n2, rfl⟩ := q2.slice
      obtain ⟨x3, n3, e3⟩ := q3.slice
      rw [L1] at e1
      rw [L3] at e3
      rw [e1] at q1
      rw [e3] at q3
      rw [e1, e3]
      refine M_val rfl (by rfl) (fun _ _ => rfl) fun W hBW hSW => ?_
      apply Exists.intro
      apply Exists.intro
      refine ⟨by go_simp; exact ⟨rfl, rfl⟩, bal (b0 _) _, ?_⟩
      simp only [Act.put, List.setIfInBounds_toArray, List.set_cons_zero, List.set_cons_succ]
      refine M_call rfl (by rfl) (fun _ _ => rfl) fun W4 hB4 hS4 => ?_
      have hRows : RowsV W4 (.slice (some ⟨W.heap.size, 0, none⟩) 3 3) [.slice x1 na n1, .slice x2 l.length n2, .slice x3 (o.items.length - nb) n3] [o.items.take na, l, o.items.drop nb] := by
        have hz : ∀ b, b < w3.heap.size → W4.heap[b]? = w3.heap[b]? := fun b hb' => (hS4.block b hb' rfl).trans rfl
        have hblk : W4.heap[W.heap.size]? = some (.cells #[.slice x1 na n1, .slice x2 l.length n2, .slice x3 (o.items.length - nb) n3] 59 (0, 0)) := (hB4.block _ (by simp)).trans (MapKept.heap_alloc W _).1
        have hch : ∀ (v : Value) (l : List V), RowV w3 v l → RowV W4 v l := fun v l h => RowV.chg (h.same (w' := w3.drew) (fun _ _ => rfl)) hS4 (fun _ _ => rfl)
        refine ⟨⟨W.heap.size, 0, 3, rfl, fun i x hx => ?_⟩, rfl, fun i x l hx hl => ?_⟩
        · rw [(cells_of_block hblk).1]
          simpa using hx
        · match i, hx, hl with
          | 0, hx, hl => cases hx; cases hl; exact hch _ _ q1
          | 1, hx, hl => cases hx; cases hl; exact hch _ _ q2
          | 2, hx, hl => cases hx; cases hl; exact hch _ _ q3
      refine ⟨_, _, _, by go_simp, Concat_any hRows ?_ (by simp), ?_⟩
      · have := HL.out
        have := HO.out o ho
        simp only [List.flatten_cons, List.flatten_nil, List.append_nil, List.length_append, L1, L3]
        omega
      rintro e w5 ⟨v', rfl, hO5, hB5⟩
      have hcut : [o.items.take na, l, o.items.drop nb].flatten = cut o.items na nb l := by simp [cut]
      rw [hcut] at hO5
      obtain ⟨x5, n5, e5⟩ := ownsRow_slice hO5
      obtain ⟨k5, hk5⟩ : ∃ k, k = (cut o.items na nb l).length := ⟨_, rfl⟩
      rw [← hk5] at e5
      subst e5
      clear hk5
      refine ⟨_, rfl, hB5, ?_⟩
      simp only [Act.put, List.setIfInBounds_toArray, List.set_cons_zero, List.set_cons_succ]
      refine M_end0 fun W6 hB6 hS6 => ?_
      have h6 : HeapIs W6 τ hb H ma mr pb := h3.same hS6.size (fun b hb' => (hS6.block b (h3.lt b hb') rfl).trans rfl)
      obtain ⟨iv6, db6, hO6⟩ := h6.obj _ _ hob
      obtain ⟨hc6, hf6, hlt6⟩ := cells_of_block hO6.blk
      have c6 := hc6 3
      have f6 := hf6 3
      simp at c6
      have hfresh : ∀ b, (Value.slice x5 k5 n5).ownBlock = some b → τ b = none := fun b hb' => by
        cases ht : τ b with
        | none => rfl
        | some t =>
          have h7 := h3.lt b (by rw [ht]; rfl)
          have h8 := owns_base hO5 hb'
          have h11 : w3.heap.size ≤ W4.heap.size := hS4.size
          omega
      simp only [List.drop_succ_cons, List.drop_zero]
      go_wp2
      go_ret
      refine ⟨by rw [hk]; rfl, τ.add (.slice x5 k5 n5) (v.n, 1), ?_, ?_, ?_⟩
      · rw [hH]
        have hown : W6.ownsRow 0 24 3 (.slice x5 k5 n5) (cut o.items na nb l).length (flat (cut o.items na nb l)) := ownsRow_base (ownsRow_same hO5 (fun b hb' => hB6.block b (owns_lt hO5 hb'))) (fun _ _ => Nat.zero_le _)
        refine ⟨ma, mr, pb, h6.setItems hob hown (fun b hb' => hfresh b hb') ?_⟩
        have := HL.out
        have := HO.out o ho
        have := cut_length o.items na nb l
        omega
      · refine Chg.setCell ?_ (fun _ => by simp [own, hO6.tob]) _
        refine (Chg.trans (Chg.of_below (ρ := own τ) hB1) (hC2.mono (ρ' := own τ) ?_) (fun _ _ h => h)).trans ((hC3.mono (ρ' := own τ) ?_).trans (Chg.mono (ρ' := own τ) ((Chg.refl _ _).drew.trans hS6 (fun _ _ h => h)) (fun _ _ h => by cases h)) (fun _ _ h => h)) (fun _ _ h => h)
        · intro b _ hb'
          simp only [beq_iff_eq] at hb'
          subst hb'
          simp [own, h1.tmr]
        · intro b _ hb'
          simp only [beq_iff_eq] at hb'
          subst hb'
          simp [own, h1.tmr]
      · intro b hb'
        unfold Tag.add
        rw [if_neg]
        intro e
        have h7 := owns_base hO5 e
        have h8 := hB1.size
        have h9 := hC2.size
        have h10 := hC3.size
        have h11 : w3.heap.size ≤ W4.heap.size := hS4.size
        omega
    · have hk : H.fits v a b = false := by simp [PH.fits, ho, hok]
      have hH : H.replace v a b l = H := by simp [PH.replace, ho, hok]
      have hfin : ∃ τ', HeapAt w1 τ' hb (H.replace v a b l) ∧ Chg (own τ) w w1 ∧ TagOn w τ τ' := ⟨τ, by rw [hH]; exact ⟨ma, mr, pb, h1⟩, Chg.of_below hB1, TagOn.refl _ _⟩
      obtain ⟨a0, cap0, rfl⟩ := ownsRow_slice hs
      clear hB h ho h1 hH hi HL HO hO hs
      have hok' : ¬ (0 ≤ a ∧ a ≤ b ∧ b ≤ (o.items.length : Int)) := hok
      by_cases e1 : a < 0
      · go_wp2
        go_ret
        exact ⟨by rw [hk]; rfl, hfin⟩
      · by_cases e2 : b < a
        · go_wp2
          go_ret
          exact ⟨by rw [hk]; rfl, hfin⟩
        · have e3 : (o.items.length : Int) < b := by omega
          go_wp2
          go_ret
          exact ⟨by rw [hk]; rfl, hfin⟩
end Go.Proofs.YtjhfjllgjgnmeaaGreat

/- 'x, e := f(..)' in a region that draws its order: two new variables, stored at its end. -/
import Derived.Test.YtjhfjllgjgnmeaaGreatSt
namespace Go.Proofs.YtjhfjllgjgnmeaaGreat
open Go.RowKit Go.Maps
attribute [local go_sem] World.cell?_alloc_some

/-- The relation of the worlds. -/
def two (g1 g2 : Nat) (b : Nat) : Bool := b == g1 || b == g2

section
variable {w W W' : World} {τ : Tag} {hb : Nat} {H : PH} {g g1 g2 : Nat} {cs : Array Value} {T : TypeId}
theorem stt_two (s : Stt w W τ hb H) (hC : Chg (two g1 g2) W W') (l1 : w.heap.size ≤ g1) (l2 : w.heap.size ≤ g2) (f1 : own τ g1 = false) (f2 : own τ g2 = false) : Stt w W' τ hb H := by
  refine ⟨belChg s.bl hC (fun b hb' => ?_), s.heap.chg hC (fun b hb' => ?_), s.own⟩
  · simp only [two, Bool.or_eq_true, beq_iff_eq] at hb'
    rcases hb' with rfl | rfl
    · exact l1
    · exact l2
  · have e1 : b ≠ g1 := fun e => by rw [e, f1] at hb'; cases hb'
    have e2 : b ≠ g2 := fun e => by rw [e, f2] at hb'; cases hb'
    simp [two, e1, e2]
theorem lv_two (x : Lv w W τ g cs T) (hC : Chg (two g1 g2) W W') {B : Nat} (hg : g < B) (l1 : B ≤ g1) (l2 : B ≤ g2) : Lv w W' τ g cs T :=
  ⟨x.has.chg hC (by simp only [two, Bool.or_eq_false_iff, beq_eq_false_iff_ne]; omega), x.free, x.ge⟩
end

theorem put_get (a : Act) (d : Tmp) (v : Value) (h : d < a.tmps.size) : (a.put (some d) v).tmps[d]?.getD undef = v := by simp [Act.put, h]
theorem put_other (a : Act) (d e : Tmp) (v : Value) (h : d ≠ e) : (a.put (some d) v).tmps[e]?.getD undef = a.tmps[e]?.getD undef := by
  simp [Act.put, Array.getElem?_setIfInBounds, h]
theorem put_size (a : Act) (d : Tmp) (v : Value) : (a.put (some d) v).tmps.size = a.tmps.size := by simp [Act.put]

theorem storeV {W : World} {g : Nat} {o0 o1 o2 : Value} (h : Has W g #[o0, o1, o2] 24) (k n : Int) (s : ByteArray) (a : Act) (o : Oper) (p q : Tmp) (ho : o.op = .store 24 (.tmp p) (.tmp q)) (hp : a.tmps[p]?.getD undef = .pointer (some ⟨g, 0, Option.none⟩)) (hq : a.tmps[q]?.getD undef = .agg #[.int .i64 k, .int .i64 n, .string s]) :
    (execOp a.eval o).run Tryz.prog W = .ok .skip (((W.setCell ⟨g, 0, Option.none⟩ (.int .i64 k)).setCell ⟨g, 1, Option.none⟩ (.int .i64 n)).setCell ⟨g, 2, Option.none⟩ (.string s)) := by
  obtain ⟨⟨c0, c1, c2⟩, ⟨f0, f1, f2⟩, l⟩ := factsV h
  obtain ⟨dst, op, type, pos, after, guard⟩ := o
  simp only at ho
  subst ho
  go_simp

theorem storeE {W : World} {g : Nat} {o0 o1 o2 o3 o4 : Value} (h : Has W g #[o0, o1, o2, o3, o4] 33) (m : ByteArray) (k n : Int) (s : ByteArray) (y : Bool) (a : Act) (o : Oper) (p q : Tmp) (ho : o.op = .store 33 (.tmp p) (.tmp q)) (hp : a.tmps[p]?.getD undef = .pointer (some ⟨g, 0, Option.none⟩)) (hq : a.tmps[q]?.getD undef = .agg #[.string m, .int .i64 k, .int .i64 n, .string s, .bool y]) :
    (execOp a.eval o).run Tryz.prog W = .ok .skip (((((W.setCell ⟨g, 0, Option.none⟩ (.string m)).setCell ⟨g, 1, Option.none⟩ (.int .i64 k)).setCell ⟨g, 2, Option.none⟩ (.int .i64 n)).setCell ⟨g, 3, Option.none⟩ (.string s)).setCell ⟨g, 4, Option.none⟩ (.bool y)) := by
  obtain ⟨⟨c0, c1, c2, c3, c4⟩, ⟨f0, f1, f2, f3, f4⟩, l⟩ := factsE h
  obtain ⟨dst, op, type, pos, after, guard⟩ := o
  simp only at ho
  subst ho
  go_simp

abbrev zV : Array Value := #[.int .i64 0, .int .i64 0, .string ⟨#[]⟩]
abbrev zE : Array Value := #[.string ⟨#[]⟩, .int .i64 0, .int .i64 0, .string ⟨#[]⟩, .bool false]

/-- The end of such a region. -/
theorem M_end2 {Q : Exit → Act → World → Prop} {w w0 W1 : World} {τ0 τ : Tag} {hb : Nat} {H : PH} {l : List Oper} {n k i1 i2 d1 d2 s1 s2 : Nat} {oa ob : Oper} {a : Act} {x0 x1 y1 y2 : Int} {x2 y0 y3 : ByteArray} {y4 : Bool} (s : Stt w W1 τ hb H) (hz0 : w.heap.size ≤ w0.heap.size)
    (ha : nth l k = some oa) (hoa : oa.op = .store 24 (.tmp d1) (.tmp s1)) (hga : oa.guard = Option.none) (hda : oa.dst = Option.none)
    (hb' : l.drop n = [ob]) (hob : ob.op = .store 33 (.tmp d2) (.tmp s2)) (hgb : ob.guard = Option.none) (hdb : ob.dst = Option.none)
    (e1 : a.tmps[s1]?.getD undef = .agg #[.int .i64 x0, .int .i64 x1, .string x2]) (e2 : a.tmps[s2]?.getD undef = .agg #[.string y0, .int .i64 y1, .int .i64 y2, .string y3, .bool y4]) (z : d1 < a.tmps.size) (z' : d2 < a.tmps.size) (n12 : d1 ≠ d2) (ns : d1 ≠ s1 ∧ d2 ≠ s1 ∧ d1 ≠ s2 ∧ d2 ≠ s2)
    (h : ∀ W g1 g2, Stt w W τ hb H → Chg (two g1 g2) W1 W → w0.heap.size ≤ g1 → w0.heap.size ≤ g2 → Lv w W τ g1 #[.int .i64 x0, .int .i64 x1, .string x2] 24 → Lv w W τ g2 #[.string y0, .int .i64 y1, .int .i64 y2, .string y3, .bool y4] 33 →
      Q .normal ((a.put (some d1) (.pointer (some ⟨g1, 0, Option.none⟩))).put (some d2) (.pointer (some ⟨g2, 0, Option.none⟩))) W) :
    wpM Tryz.prog l.toArray Q n (Chg (own τ0) w0.drew) [⟨i1, d1, 24, zV⟩, ⟨i2, d2, 33, zE⟩] w0.heap.size [(k, false)] [] (own τ) W1 a := by
  refine M_end fun W val hBW hSW hval hpw => ?_
  simp only [List.forall_mem_cons, List.not_mem_nil, false_imp_iff, implies_true, and_true] at hval
  obtain ⟨⟨v1, f1, l1⟩, ⟨v2, f2, l2⟩⟩ := hval
  have hne := (List.pairwise_cons.1 hpw).1 _ (List.mem_singleton.2 rfl)
  simp only [] at hne
  simp only [laid, cond_true]
  generalize val i1 = g1 at *
  generalize val i2 = g2 at *
  obtain ⟨p1, c1⟩ := stVc v1 (.int .i64 x0) (.int .i64 x1) (.string x2)
  have hs1 := (s.bel hBW)
  obtain ⟨n1, n2, n3, n4⟩ := ns
  refine pi_step ha (by simp [Region.wanted, hga]) fun K hK => ?_
  have hr1 := storeV v1 x0 x1 x2 ((a.put (some d1) (.pointer (some ⟨g1, 0, Option.none⟩))).put (some d2) (.pointer (some ⟨g2, 0, Option.none⟩))) oa d1 s1 hoa (by rw [put_other _ _ _ _ (Ne.symm n12), put_get _ _ _ z]) (by rw [put_other _ _ _ _ n2, put_other _ _ _ _ n1]; exact e1)
  unfold Oper.wp
  rw [hr1]
  show K (Act.put _ oa.dst undef) _
  rw [hda]
  refine hK _ _ (Chg.trans hSW c1 (fun b hb h => by simp only [beq_iff_eq] at h; rw [h] at hb; exact absurd (show g1 < w0.heap.size from hb) (Nat.not_lt.2 l1))) ?_
  refine pi_end ?_
  rw [hb']
  have v2' := Has.st v2 c1 (Ne.symm hne)
  obtain ⟨p2, c2⟩ := stEc v2' (.string y0) (.int .i64 y1) (.int .i64 y2) (.string y3) (.bool y4)
  refine wpList_plain hgb fun K2 hK2 => ?_
  have hr2 := storeE v2' y0 y1 y2 y3 y4 ((a.put (some d1) (.pointer (some ⟨g1, 0, Option.none⟩))).put (some d2) (.pointer (some ⟨g2, 0, Option.none⟩))) ob d2 s2 hob (by rw [put_get _ _ _ (by rw [put_size]; exact z')]) (by rw [put_other _ _ _ _ n4, put_other _ _ _ _ n3]; exact e2)
  unfold Oper.wp
  rw [show (Act.put ((a.put (some d1) (Value.pointer (some ⟨g1, 0, Option.none⟩))).put (some d2) (Value.pointer (some ⟨g2, 0, Option.none⟩))) Option.none undef) = ((a.put (some d1) (Value.pointer (some ⟨g1, 0, Option.none⟩))).put (some d2) (Value.pointer (some ⟨g2, 0, Option.none⟩))) from rfl, hr2]
  show K2 (Act.put _ ob.dst undef) _
  rw [hdb]
  refine hK2 _ _ ?_
  have hC : Chg (two g1 g2) W1 _ := ((Chg.of_below hBW).trans (c1.mono (ρ' := two g1 g2) (fun b _ h => by simp only [beq_iff_eq] at h; simp [two, h])) (fun _ _ h => h)).trans (c2.mono (ρ' := two g1 g2) (fun b _ h => by simp only [beq_iff_eq] at h; simp [two, h])) (fun _ _ h => h)
  have k1 := Nat.le_trans hz0 l1
  have k2 := Nat.le_trans hz0 l2
  exact h _ g1 g2 (stt_two s hC k1 k2 f1 f2) hC l1 l2 ⟨p1.st c2 hne, f1, k1⟩ ⟨p2, f2, k2⟩

end Go.Proofs.YtjhfjllgjgnmeaaGreat

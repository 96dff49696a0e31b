/- What a law's function holds as it goes on: a heap of its own, and variables in blocks of its own. -/
import Derived.Test.YtjhfjllgjgnmeaaGreatLaw16B
namespace Go.Proofs.YtjhfjllgjgnmeaaGreat
open Go.RowKit Go.Maps

/-- The walk stands in W: what was there ahead of the call lies as it lay; the call's own heap is H. -/
structure Stt (w W : World) (τ : Tag) (hb : Nat) (H : PH) : Prop where
  bl : Below w.heap.size w W
  heap : HeapAt W τ hb H
  own : ∀ b, own τ b = true → w.heap.size ≤ b

/-- Block g of W, one of the call's own and none of its heap's, holds these cells. -/
structure Lv (w W : World) (τ : Tag) (g : Nat) (cs : Array Value) (T : TypeId) : Prop where
  has : Has W g cs T
  free : Go.Proofs.YtjhfjllgjgnmeaaGreat.own τ g = false
  ge : w.heap.size ≤ g

section
variable {w W W' : World} {τ τ' : Tag} {hb : Nat} {H H' : PH} {g : Nat} {cs : Array Value} {T : TypeId}
theorem Stt.bel (s : Stt w W τ hb H) (hB : Below W.heap.size W W') : Stt w W' τ hb H := ⟨btr s.bl hB, s.heap.below hB, s.own⟩
theorem Stt.wr (s : Stt w W τ hb H) (hH : HeapAt W' τ' hb H') (hC : Chg (Go.Proofs.YtjhfjllgjgnmeaaGreat.own τ) W W') (hT : TagOn W τ τ') : Stt w W' τ' hb H' := ⟨belChg s.bl hC s.own, hH, ownOn s.bl.size hT s.own⟩
theorem Stt.alloc (s : Stt w W τ hb H) (o : Obj) : Stt w (W.alloc o) τ hb H := s.bel (bal (b0 _) _)
theorem Lv.bel (x : Lv w W τ g cs T) (hB : Below W.heap.size W W') : Lv w W' τ g cs T := ⟨x.has.bel hB, x.free, x.ge⟩
theorem Lv.wr (x : Lv w W τ g cs T) (hC : Chg (Go.Proofs.YtjhfjllgjgnmeaaGreat.own τ) W W') (hT : TagOn W τ τ') : Lv w W' τ' g cs T := ⟨x.has.chg hC x.free, by rw [Go.Proofs.YtjhfjllgjgnmeaaGreat.own, hT g x.has.lt]; exact x.free, x.ge⟩
theorem Lv.alloc (x : Lv w W τ g cs T) (o : Obj) : Lv w (W.alloc o) τ g cs T := x.bel (bal (b0 _) _)
theorem Lv.new (s : Stt w W τ hb H) (cs : Array Value) (T : TypeId) : Lv w (W.alloc (.cells cs T)) τ W.heap.size cs T := ⟨Has.new W cs T, own_new s.heap _ (Nat.le_refl _), s.bl.size⟩
/-- A variable of the call's own is written. -/
theorem Stt.st (s : Stt w W τ hb H) {j : Nat} (hC : Chg (fun b => b == j) W W') (x : Lv w W τ j cs T) : Stt w W' τ hb H := ⟨belChg s.bl hC (fun b hb' => by simp at hb'; subst hb'; exact x.ge), heapSt s.heap hC x.free, s.own⟩
theorem Lv.st (x : Lv w W τ g cs T) {j : Nat} (hC : Chg (fun b => b == j) W W') (hne : g ≠ j) : Lv w W' τ g cs T := ⟨x.has.st hC hne, x.free, x.ge⟩
theorem Lv.ne {cs' : Array Value} {T' : TypeId} {g' : Nat} (x : Lv w W τ g cs T) (y : Lv w W τ g' cs' T') (h : W.heap[g]? ≠ W.heap[g']?) : g ≠ g' := fun e => h (by rw [e])
end

/-- Two new variables. -/
theorem Lv.two {w W : World} {τ : Tag} {hb : Nat} {H : PH} (s : Stt w W τ hb H) (cs ds : Array Value) (T T' : TypeId) : Lv w ((W.alloc (.cells cs T)).alloc (.cells ds T')) τ W.heap.size cs T ∧ Lv w ((W.alloc (.cells cs T)).alloc (.cells ds T')) τ (W.heap.size + 1) ds T' ∧ Below W.heap.size W ((W.alloc (.cells cs T)).alloc (.cells ds T')) :=
  ⟨(Lv.new s cs T).alloc _, by simpa using Lv.new (s.alloc (.cells cs T)) ds T', bal (bal (b0 _) _) _⟩

/-! ### Objects of a heap -/
theorem room_of {H : PH} (n : Int) (h : H.last = n) (hn : n < 1099511627776) : H.room := by unfold PH.room; rw [h]; exact hn
theorem of_ref {H : PH} {n : Int} {h : (Lit.int .i64 n).wf = true} : H.of (V.ref n h) = H.obj n := by simp [PH.of, V.ref]
theorem kind_obj {H : PH} {n : Int} {h : (Lit.int .i64 n).wf = true} {o : O} (ho : H.obj n = some o) : H.kind (V.ref n h) = o.kind := by simp [PH.kind, of_ref, ho]
theorem items_obj {H : PH} {n : Int} {h : (Lit.int .i64 n).wf = true} {o : O} (ho : H.obj n = some o) : H.items (V.ref n h) = o.items := by simp [PH.items, of_ref, ho]
theorem made_new (H : PH) (kind : Int) (name : ByteArray) (num : Int) (l : List V) : (H.made kind name num l).obj (H.last + 1) = some ⟨kind, name, num, l, []⟩ := by simp [PH.made, upd_same]
theorem made_old (H : PH) (kind : Int) (name : ByteArray) (num : Int) (l : List V) {n : Int} (h : n ≤ H.last) : (H.made kind name num l).obj n = H.obj n := by
  show upd H.obj (H.last + 1) _ n = _
  exact upd_other _ _ (by omega)
theorem made_last (H : PH) (kind : Int) (name : ByteArray) (num : Int) (l : List V) : (H.made kind name num l).last = H.last + 1 := rfl
/-- A heap that goes on: no object that there was has turned. -/
def Ext (H H' : PH) : Prop := H.last ≤ H'.last ∧ ∀ n, n ≤ H.last → H'.obj n = H.obj n
theorem Ext.refl (H : PH) : Ext H H := ⟨Int.le_refl _, fun _ _ => rfl⟩
theorem Ext.trans {A B C : PH} (h : Ext A B) (k : Ext B C) : Ext A C := ⟨Int.le_trans h.1 k.1, fun n hn => (k.2 n (Int.le_trans hn h.1)).trans (h.2 n hn)⟩
theorem Ext.made (H : PH) (kind : Int) (name : ByteArray) (num : Int) (l : List V) : Ext H (H.made kind name num l) := ⟨by rw [made_last]; omega, fun _ hn => made_old _ _ _ _ _ hn⟩
theorem row_obj {H : PH} {n : Int} {h : (Lit.int .i64 n).wf = true} {o : O} (ho : H.obj n = some o) (hk : o.kind = 1 ∨ o.kind = 2) : H.row (V.ref n h) = true := by
  rw [PH.row, kind_obj ho]; rcases hk with hk | hk <;> rw [hk] <;> rfl

def o1 : V := V.ref 1 (by decide)
def o2 : V := V.ref 2 (by decide)
def o3 : V := V.ref 3 (by decide)
def o4 : V := V.ref 4 (by decide)
def o5 : V := V.ref 5 (by decide)
def o6 : V := V.ref 6 (by decide)

def vnum (m : Int) (h : (Lit.int .i64 m).wf = true) : V := ⟨2, m, ByteArray.empty, by decide, h, by simp⟩

end Go.Proofs.YtjhfjllgjgnmeaaGreat

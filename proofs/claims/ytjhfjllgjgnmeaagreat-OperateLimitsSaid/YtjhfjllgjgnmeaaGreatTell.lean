/- Package operate: the teller: say, plain. -/
import Derived.Test.YtjhfjllgjgnmeaaGreatHeapC
import Derived.Test.YtjhfjllgjgnmeaaGreatQuote
import Derived.Test.YtjhfjllgjgnmeaaGreatText
namespace Go.Proofs.YtjhfjllgjgnmeaaGreat
open Go.RowKit Go.Maps
attribute [local go_sem] World.cell?_alloc_some

/-- What a teller has said, and what is raised. -/
structure St where
  l : List UInt8
  name : ByteArray

def memErr : ByteArray := ⟨#[77, 101, 109, 111, 114, 121, 69, 114, 114, 111, 114]⟩
def recErr : ByteArray := ⟨#[82, 101, 99, 117, 114, 115, 105, 111, 110, 69, 114, 114, 111, 114]⟩

def sayS (st : St) (s : List UInt8) : St :=
  if st.name ≠ ByteArray.empty then st else if 65536 < st.l.length + s.length then { st with name := memErr } else { st with l := st.l ++ s }

theorem sayS_len {st : St} (h : st.l.length ≤ 65536) (s : List UInt8) : (sayS st s).l.length ≤ 65536 := by
  unfold sayS
  split
  · exact h
  · split
    · exact h
    · simp only [List.length_append]; omega

def tcells (hb : Nat) (p v : Value) (name : ByteArray) : Array Value := #[.pointer (some ⟨hb, 0, none⟩), p, v, .string name]

/-- A teller: block tb; v is its builder's buffer. -/
structure TellAt (w : World) (tb hb : Nat) (v : Value) (st : St) : Prop where
  at_ : ∃ p, BldAt w tb 1 185 (tcells hb p v st.name) v st.l
  len : st.l.length ≤ 65536

theorem TellAt.same {w w' : World} {tb hb : Nat} {v : Value} {st : St} (h : TellAt w tb hb v st) (hb' : w'.heap[tb]? = w.heap[tb]?) (hv : ∀ k, v.ownBlock = some k → w'.heap[k]? = w.heap[k]?) : TellAt w' tb hb v st := by
  obtain ⟨p, hp⟩ := h.at_
  exact ⟨⟨p, hp.same hb' hv⟩, h.len⟩

theorem TellAt.lt {w : World} {tb hb : Nat} {v : Value} {st : St} (h : TellAt w tb hb v st) : tb < w.heap.size ∧ ∀ k, v.ownBlock = some k → k < w.heap.size := by
  obtain ⟨p, hp⟩ := h.at_
  exact ⟨(Array.getElem?_eq_some_iff.1 hp.blk).1, fun k hk => owns_lt' hp.row hk⟩

theorem TellAt.below {w w' : World} {tb hb : Nat} {v : Value} {st : St} (h : TellAt w tb hb v st) (hB : Below w.heap.size w w') : TellAt w' tb hb v st :=
  h.same (hB.block _ h.lt.1) (fun k hk => hB.block k (h.lt.2 k hk))

/-- What a teller's call turns. -/
structure Told (w w' : World) (tb : Nat) (v v' : Value) : Prop where
  chg : Chg (bldρ tb v) w w'
  new : v'.ownBlock = v.ownBlock ∨ ∃ k, v'.ownBlock = some k ∧ w.heap.size ≤ k

theorem Told.refl (w : World) (tb : Nat) (v : Value) : Told w w tb v v := ⟨Chg.refl _ _, .inl rfl⟩
theorem Told.of_below {w w' : World} {tb : Nat} {v : Value} (h : Below w.heap.size w w') : Told w w' tb v v := ⟨Chg.of_below h, .inl rfl⟩
theorem Told.trans {w w' w'' : World} {tb : Nat} {v v' v'' : Value} (h : Told w w' tb v v') (k : Told w' w'' tb v' v'') : Told w w'' tb v v'' := by
  refine ⟨h.chg.trans k.chg (fun b hb hr => ?_), ?_⟩
  · simp only [bldρ, Bool.or_eq_true, beq_iff_eq] at hr ⊢
    rcases hr with e | e
    · exact .inl e
    · rcases h.new with e2 | ⟨j, e2, hj⟩
      · exact .inr (e2 ▸ e)
      · rw [e2] at e; have := Option.some.inj e; omega
  · rcases k.new with e | ⟨j, e, hj⟩
    · rcases h.new with e2 | ⟨i, e2, hi⟩
      · exact .inl (e.trans e2)
      · exact .inr ⟨i, e.trans e2, hi⟩
    · exact .inr ⟨j, e, Nat.le_trans h.chg.size hj⟩

theorem tput (hb tb : Nat) (p v v' : Value) (name : ByteArray) : bldPut (tcells hb p v name) tb 1 v' = tcells hb (.pointer (some ⟨tb, 1, none⟩)) v' name := rfl

theorem nameE (s : ByteArray) : s.toList.isEmpty = decide (s = ByteArray.empty) := by
  rw [Lib.toList_data]
  by_cases h : s = ByteArray.empty
  · subst h; rfl
  · rw [decide_eq_false h]
    cases he : s.data.toList with
    | nil => exact absurd (by cases s with | mk d => simp at he; subst he; rfl) h
    | cons x r => rfl

set_option maxRecDepth 100000 in
set_option maxHeartbeats 800000 in
theorem say_any {w : World} {tb hb : Nat} {v : Value} {st : St} (h : TellAt w tb hb v st) (s : ByteArray) (hs : s.size ≤ 1073741824) :
    Calls Tryz.prog 218 #[.pointer (some ⟨tb, 0, none⟩), .string s] w fun e w' => e = .returned (.tuple #[]) ∧ ∃ v', TellAt w' tb hb v' (sayS st s.data.toList) ∧ Told w w' tb v v' := by
  have hlen := h.len
  obtain ⟨p, hp⟩ := h.at_
  obtain ⟨hc, hf, hlt⟩ := cells_of_block hp.blk
  have c3 := hc 3
  have f3 := hf 3
  simp [tcells] at c3
  clear hc hf
  have he := nameE st.name
  have hsz : s.data.toList.length = s.size := by simp
  by_cases hn : st.name = ByteArray.empty
  · rw [decide_eq_true hn] at he
    by_cases hbig : 65536 < st.l.length + s.size
    · have hS : sayS st s.data.toList = { st with name := memErr } := by rw [sayS, if_neg (by simpa using hn), if_pos (by rw [hsz]; exact hbig)]
      go_enter Tryz.func218, Tryz.ntmps218
      go_wp2_with fail
      refine (bldLen_any hp).mono ?_
      rintro e w1 ⟨rfl, hw1⟩
      obtain rfl := hw1.symm
      have hk := (tput hb tb p v v st.name)
      have hset := heap_setCell_same (o := 3) (u := .string memErr) hp.blk
      have hT : TellAt (w.setCell ⟨tb, 3, none⟩ (.string memErr)) tb hb v { st with name := memErr } := by
        refine ⟨⟨p, { blk := hset.trans rfl, c0 := hp.c0, c1 := hp.c1, row := ownsRow_same hp.row (fun k hk => Below.heap_setCell _ _ _ _ (fun e => hp.ne (by rw [hk]; exact congrArg some e))), ne := hp.ne, nz := hp.nz, lies := hp.lies }⟩, hlen⟩
      have hC : Told w (w.setCell ⟨tb, 3, none⟩ (.string memErr)) tb v v := ⟨(Chg.refl _ _).setCell (fun _ => by simp [bldρ]) _, .inl rfl⟩
      clear hp h hset
      go_wp2
      go_end0
      exact ⟨rfl, v, by rw [hS]; exact hT, hC⟩
    · have hS : sayS st s.data.toList = { st with l := st.l ++ s.data.toList } := by rw [sayS, if_neg (by simpa using hn), if_neg (by rw [hsz]; exact hbig)]
      go_enter Tryz.func218, Tryz.ntmps218
      go_wp2_with fail
      refine (bldLen_any hp).mono ?_
      rintro e w1 ⟨rfl, hw1⟩
      obtain rfl := hw1.symm
      go_wp2_with fail
      refine (bldWriteString_any hp s (by omega)).mono ?_
      rintro e w2 ⟨rfl, v', hW⟩
      have hT : TellAt w2 tb hb v' { st with l := st.l ++ s.data.toList } := by
        refine ⟨⟨_, hW.at_⟩, ?_⟩
        show (st.l ++ s.data.toList).length ≤ 65536
        rw [List.length_append, hsz]; omega
      have hC : Told _ w2 tb v v' := ⟨hW.chg, hW.new⟩
      clear hp h hW
      go_wp2
      go_end0
      exact ⟨rfl, v', by rw [hS]; exact hT, hC⟩
  · rw [decide_eq_false hn] at he
    have hS : sayS st s.data.toList = st := by rw [sayS, if_pos hn]
    clear hp
    go_enter Tryz.func218, Tryz.ntmps218
    go_wp2
    go_end0
    exact ⟨rfl, v, by rw [hS]; exact h, Told.refl _ _ _⟩

end Go.Proofs.YtjhfjllgjgnmeaaGreat

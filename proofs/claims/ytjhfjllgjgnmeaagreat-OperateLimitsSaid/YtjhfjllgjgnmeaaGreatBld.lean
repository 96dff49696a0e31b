/- strings.Builder wherever it lies (a variable, or a field): copyCheck, Len, WriteString, WriteByte, String. -/
import Derived.Test.YtjhfjllgjgnmeaaGreatRepB
import Derived.Shelf.Strings.Builder1
namespace Go.Proofs.YtjhfjllgjgnmeaaGreat
open Go.RowKit Go.Maps

theorem infoU8 : (Tryz.prog.info? 5).map (fun i => (i.zero, i.size, i.bytes)) = some (some (.int .u8 0), 1, 1) := by kernel_rfl

/-- A builder: its two cells are o and o + 1 of block b; v is its buffer, l what it holds. -/
structure BldAt (w : World) (b o : Nat) (T : TypeId) (cs : Array Value) (v : Value) (l : List UInt8) : Prop where
  blk : w.heap[b]? = some (.cells cs T (0, 0))
  c0 : cs[o]? = some (.pointer none) ∨ cs[o]? = some (.pointer (some ⟨b, o, none⟩))
  c1 : cs[o + 1]? = some v
  row : w.ownsRow 0 5 1 v l.length (Lib.byteCells l)
  ne : v.ownBlock ≠ some b
  nz : l = [] → v = .slice none 0 0
  lies : liesAt Tryz.prog Tryz.prog.depth T (cs.size / Tryz.prog.cellsOf T) o 183 1 = true

theorem BldAt.same {w w' : World} {b o : Nat} {T : TypeId} {cs : Array Value} {v : Value} {l : List UInt8} (h : BldAt w b o T cs v l) (hb : w'.heap[b]? = w.heap[b]?) (hv : ∀ k, v.ownBlock = some k → w'.heap[k]? = w.heap[k]?) : BldAt w' b o T cs v l :=
  { h with
    blk := hb.trans h.blk
    row := by
      obtain ⟨h1, h2⟩ := h.row
      refine ⟨h1, ?_⟩
      rcases h2 with h2 | ⟨g, cap, cur, e, hg, hh, r⟩
      · exact Or.inl h2
      · exact Or.inr ⟨g, cap, cur, e, hg, (hv g (by rw [e]; rfl)).trans hh, r⟩ }

/-- What a builder's block may turn: the block, and the buffer's. -/
def bldρ (b : Nat) (v : Value) : Nat → Bool := fun k => k == b || v.ownBlock == some k

theorem ownNone {e : TypeId} {size : Nat} {w : World} {v : Value} {n : Nat} {xs : List Value} {base : Nat} (h : w.ownsRow base e size v n xs) : v = .slice none 0 0 ∨ ∃ g cap, v = .slice (some ⟨g, 0, none⟩) n cap := by
  obtain ⟨_, ⟨rfl, _⟩ | ⟨g, cap, cur, rfl, _⟩⟩ := h
  · exact .inl rfl
  · exact .inr ⟨g, cap, rfl⟩

theorem owns_lt' {w : World} {base : Nat} {e : TypeId} {size : Nat} {v : Value} {n : Nat} {xs : List Value} (h : w.ownsRow base e size v n xs) {b : Nat} (hb : v.ownBlock = some b) : b < w.heap.size := by
  obtain ⟨_, ⟨rfl, _⟩ | ⟨g, c, cur, rfl, _, hh, _⟩⟩ := h
  · cases hb
  · cases hb; exact (Array.getElem?_eq_some_iff.1 hh).1

/-- 'append(buf, s...)': the buffer's own block, or a new one. -/
theorem app_str {w : World} {v : Value} {n : Nat} {xs : List Value} (ty : TypeId) (hown : w.ownsRow 0 5 1 v n xs) (s : ByteArray) (hlen : n + s.size ≤ 300000) :
    ∃ v' w', (Builtin.append_ #[75, 9] ty #[v, .string s]).run Tryz.prog w = .ok v' w' ∧ w'.ownsRow 0 5 1 v' (n + s.size) (xs ++ Lib.strCells s) ∧ w.grownBy w' v.ownBlock ∧ (v'.ownBlock = v.ownBlock ∨ v'.ownBlock = some w.heap.size) ∧ (v = .slice none 0 0 → s.size = 0 → v' = .slice none 0 0) := by
  obtain ⟨i0, hi, hz0, hz1, hz2⟩ := info_parts infoU8
  obtain ⟨v', w', hr, h2, h3, h4⟩ := Lib.run_append_own_string (P := Tryz.prog) w 0 75 9 ty 5 i0 Tryz.underlying75 Tryz.underlying9 hi hz0 hz1 hz2 v n xs hown s (by unfold maxLen; omega) (by omega) (Nat.zero_le _)
  refine ⟨v', w', hr, h2, h3, ?_, fun e1 e2 => h4.2 ⟨e1, e2⟩⟩
  rcases hown.2 with ⟨rfl, rfl⟩ | ⟨g, cap, cur, rfl, hbg, hg, hnc, hcm, hcs, htake⟩
  · by_cases hm : s.size = 0
    · rw [h4.2 ⟨rfl, hm⟩]; exact .inl rfl
    · have hr2 := run_append_nil_string (P := Tryz.prog) w 75 9 ty 5 i0 (.int .u8 0) Tryz.underlying75 Tryz.underlying9 hi hz0 s (by omega) (by omega) (by rw [hz2]; omega)
      rw [hr2] at hr
      cases hr
      exact .inr rfl
  · by_cases hroom : n + s.size ≤ cap
    · have hr2 := Lib.run_append_room_string (P := Tryz.prog) w 75 9 ty 5 i0 Tryz.underlying75 Tryz.underlying9 hi hz1 g n cap cur hg s hroom (by omega)
      rw [hr2] at hr
      cases hr
      exact .inl rfl
    · have holds : ∀ j u, xs[j]? = some u → w.cell? ((⟨g, 0, none⟩ : Addr).add j) = some u := hown.cells (g := g) rfl
      have hr2 := Lib.run_append_grow_string (P := Tryz.prog) w 75 9 ty 5 i0 (.int .u8 0) Tryz.underlying75 Tryz.underlying9 hi hz0 ⟨g, 0, none⟩ n cap xs (by rw [hz1]; simpa using hown.1) holds s (by omega) (by omega) (by rw [hz2]; exact growslice_fits (by omega) (by omega))
      rw [hr2] at hr
      cases hr
      exact .inr rfl

theorem wpList_app_str {ops : Array Oper} {rest : List Oper} {o : Oper} {a : Act} {Q : Exit → Act → World → Prop} {w : World} (hgd : o.guard = none) (sl x : Operand)
    (ho : o.op = .call { callee := .builtin .append, args := #[sl, x], argTypes := #[75, 9] }) {v : Value} {n : Nat} {xs : List Value} (hs : a.eval sl = v) (hown : w.ownsRow 0 5 1 v n xs) (s : ByteArray) (hx : a.eval x = .string s) (hlen : n + s.size ≤ 300000)
    (h : ∀ v' w', w'.ownsRow 0 5 1 v' (n + s.size) (xs ++ Lib.strCells s) → w.grownBy w' v.ownBlock → (v'.ownBlock = v.ownBlock ∨ v'.ownBlock = some w.heap.size) → (v = .slice none 0 0 → s.size = 0 → v' = .slice none 0 0) → wpList Tryz.prog ops Q rest (a.put o.dst v') w') : wpList Tryz.prog ops Q (o :: rest) a w := by
  refine wpList_plain hgd fun K hK => ?_
  obtain ⟨v', w', hr, h2, h3, h4, h5⟩ := app_str o.type hown s hlen
  unfold Oper.wp execOp
  simp only [ho, resolve, invoke, builtin, Sem.run_bind, Sem.run_pure, Result.andThen_ok, List.map_toArray, List.map_cons, List.map_nil, hs, hx, hr]
  exact hK _ _ (h v' w' h2 h3 h4 h5)

/-- 'append(buf, x...)', x one byte: the buffer's own block, or a new one. -/
theorem app_one {w : World} {v : Value} {n : Nat} {xs : List Value} (ty : TypeId) (hown : w.ownsRow 0 5 1 v n xs) (a : Addr) (c : Nat) (u : Value) (hu : w.cell? a = some u) (h1 : u.oneCell' = true) (hlen : n + 1 ≤ 300001) :
    ∃ v' w', (Builtin.append_ #[75, 75] ty #[v, .slice (some a) 1 c]).run Tryz.prog w = .ok v' w' ∧ w'.ownsRow 0 5 1 v' (n + 1) (xs ++ [u]) ∧ w.grownBy w' v.ownBlock ∧ (v'.ownBlock = v.ownBlock ∨ v'.ownBlock = some w.heap.size) := by
  obtain ⟨i0, hi, hz0, hz1, hz2⟩ := info_parts infoU8
  have hnews : ∀ j x, [u][j]? = some x → w.cell? (a.add j) = some x := by
    intro j x hj
    match j, hj with
    | 0, hj => cases hj; have : a.add 0 = a := by cases a; simp [Addr.add]
               rw [this]; exact hu
  have h1' : ∀ x ∈ [u], x.oneCell' = true := by simpa using h1
  obtain ⟨v', w', hr, h2, h3, h4⟩ := run_append_own (P := Tryz.prog) w 0 75 ty 5 i0 (.int .u8 0) 1 1 Tryz.underlying75 hi hz0 hz1 hz2 rfl (by decide) v n xs hown a 1 c [u] rfl hnews h1' (by unfold maxLen; omega) (by omega) (Nat.zero_le _)
  refine ⟨v', w', hr, h2, h3, ?_⟩
  rcases hown.2 with ⟨rfl, rfl⟩ | ⟨g, cap, cur, rfl, hbg, hg, hnc, hcm, hcs, htake⟩
  · have hr2 := run_append_nil (P := Tryz.prog) w 75 ty 5 i0 (.int .u8 0) Tryz.underlying75 hi hz0 a 1 c [u] (by rw [hz1]; rfl) hnews (by omega) (by omega) (by rw [hz2]; omega)
    rw [hr2] at hr
    cases hr
    exact .inr rfl
  · by_cases hroom : n + 1 ≤ cap
    · have hr2 := run_append_room (P := Tryz.prog) w 75 ty 5 i0 Tryz.underlying75 hi g n cap cur hg a 1 c [u] (by rw [hz1]; rfl) hnews h1' hroom (by rw [hz1]; simp; omega)
      rw [hr2] at hr
      cases hr
      exact .inl rfl
    · have holds : ∀ j u, xs[j]? = some u → w.cell? ((⟨g, 0, none⟩ : Addr).add j) = some u := hown.cells (g := g) rfl
      have hr2 := run_append_grow (P := Tryz.prog) w 75 ty 5 i0 (.int .u8 0) Tryz.underlying75 hi hz0 ⟨g, 0, none⟩ n cap xs (by rw [hz1]; simpa using hown.1) holds a 1 c [u] (by rw [hz1]; rfl) hnews (by omega) (by omega) (by rw [hz2]; exact growslice_fits (by omega) (by omega))
      rw [hr2] at hr
      cases hr
      exact .inr rfl

theorem wpList_app_one {ops : Array Oper} {rest : List Oper} {o : Oper} {a : Act} {Q : Exit → Act → World → Prop} {w : World} (hgd : o.guard = none) (sl x : Operand)
    (ho : o.op = .call { callee := .builtin .append, args := #[sl, x], argTypes := #[75, 75] }) {v : Value} {n : Nat} {xs : List Value} (hs : a.eval sl = v) (hown : w.ownsRow 0 5 1 v n xs) (ad : Addr) (c : Nat) (u : Value) (hu : w.cell? ad = some u) (h1 : u.oneCell' = true)
    (hx : a.eval x = .slice (some ad) 1 c) (hlen : n + 1 ≤ 300001)
    (h : ∀ v' w', w'.ownsRow 0 5 1 v' (n + 1) (xs ++ [u]) → w.grownBy w' v.ownBlock → (v'.ownBlock = v.ownBlock ∨ v'.ownBlock = some w.heap.size) → wpList Tryz.prog ops Q rest (a.put o.dst v') w') : wpList Tryz.prog ops Q (o :: rest) a w := by
  refine wpList_plain hgd fun K hK => ?_
  obtain ⟨v', w', hr, h2, h3, h4⟩ := app_one o.type hown ad c u hu h1 hlen
  unfold Oper.wp execOp
  simp only [ho, resolve, invoke, builtin, Sem.run_bind, Sem.run_pure, Result.andThen_ok, List.map_toArray, List.map_cons, List.map_nil, hs, hx, hr]
  exact hK _ _ (h v' w' h2 h3 h4)

theorem sizeBld : (Tryz.prog.info? 183).map (·.size) = some 2 := by kernel_rfl

set_option maxRecDepth 100000 in
theorem copyCheck_any {w : World} {b o : Nat} {T : TypeId} {cs : Array Value} {v : Value} {l : List UInt8} (h : BldAt w b o T cs v l) :
    Calls Tryz.prog 291 #[.pointer (some ⟨b, o, none⟩)] w fun e w' => e = .returned (.tuple #[]) ∧ (w' = w ∧ cs[o]? = some (.pointer (some ⟨b, o, none⟩)) ∨ w' = w.setCell ⟨b, o, none⟩ (.pointer (some ⟨b, o, none⟩))) := by
  obtain ⟨hc, hf, hlt⟩ := cells_of_block h.blk
  have f0 := hf o
  rcases h.c0 with h0 | h0
  · have c0 : w.cell? ⟨b, o, none⟩ = some (.pointer none) := (hc o).trans h0
    obtain ⟨j, hj, hjs⟩ := Option.map_eq_some_iff.1 sizeBld
    have hsh : w.shape? b = some (T, cs.size) := by simp [World.shape?, h.blk]
    have hoff : o < cs.size := by have := (Array.getElem?_eq_some_iff.1 h.c1).1; omega
    have hlies := h.lies
    clear h hc hf
    go_enter Tryz.func291, Tryz.ntmps291
    go_wp2
    rw [Lib.run_to_unsafe w ⟨b, o, none⟩ Tryz.underlying181 Tryz.underlying319 hj (by rw [hjs]; decide) hsh hoff]
    simp only [Result.andThen]
    rw [Oper.upon_value]
    go_wp2
    rw [run_callFunc_extern Tryz.func310 (by kernel_rfl) (by kernel_rfl) (by kernel_rfl) (e := Extern.AbiNoEscape.same) (by kernel_rfl)]
    rw [Lib.run_noEscape]
    simp only [Result.andThen]
    rw [Oper.upon_value]
    go_wp2
    rw [Lib.run_from_unsafe w ⟨b, o, none⟩ Tryz.underlying319 Tryz.underlying181 hj hsh hlies]
    simp only [Result.andThen]
    rw [Oper.upon_value]
    go_wp2
    go_end0
    exact ⟨rfl, .inr rfl⟩
  · have c0 : w.cell? ⟨b, o, none⟩ = some (.pointer (some ⟨b, o, none⟩)) := (hc o).trans h0
    clear h hc hf
    go_enter Tryz.func291, Tryz.ntmps291
    go_wp2
    obtain ⟨j, hj, _⟩ := Option.map_eq_some_iff.1 sizeBld
    rw [Lib.run_neq_ptr_same w _ Tryz.underlying181 hj]
    go_wp2
    go_end0
    exact ⟨rfl, .inl ⟨rfl, h0⟩⟩

theorem bldLen_any {w : World} {b o : Nat} {T : TypeId} {cs : Array Value} {v : Value} {l : List UInt8} (h : BldAt w b o T cs v l) :
    Calls Tryz.prog 256 #[.pointer (some ⟨b, o, none⟩)] w fun e w' => e = .returned (.int .i64 l.length) ∧ w' = w := by
  obtain ⟨hc, _, _⟩ := cells_of_block h.blk
  have c1 := (hc (o + 1)).trans h.c1
  obtain ⟨a, cap, rfl⟩ := ownsRow_slice h.row
  clear h hc
  go_enter Tryz.func256, Tryz.ntmps256
  go_wp2
  go_ret
  exact ⟨rfl, rfl⟩

/-- The cells of a builder that was written. -/
def bldPut (cs : Array Value) (b o : Nat) (v : Value) : Array Value := (cs.setIfInBounds o (.pointer (some ⟨b, o, none⟩))).setIfInBounds (o + 1) v

theorem bldPut_size (cs : Array Value) (b o : Nat) (v : Value) : (bldPut cs b o v).size = cs.size := by simp [bldPut]
theorem bldPut_other (cs : Array Value) (b o : Nat) (v : Value) {j : Nat} (h1 : j ≠ o) (h2 : j ≠ o + 1) : (bldPut cs b o v)[j]? = cs[j]? := by
  unfold bldPut
  rw [Array.getElem?_setIfInBounds_ne (by omega), Array.getElem?_setIfInBounds_ne (by omega)]

/-- What a write leaves. -/
structure Wrote (w w' : World) (b o : Nat) (T : TypeId) (cs : Array Value) (v v' : Value) (l : List UInt8) : Prop where
  at_ : BldAt w' b o T (bldPut cs b o v') v' l
  chg : Chg (bldρ b v) w w'
  new : v'.ownBlock = v.ownBlock ∨ ∃ k, v'.ownBlock = some k ∧ w.heap.size ≤ k

theorem setIf_same {cs : Array Value} {o : Nat} {u : Value} (h : cs[o]? = some u) : cs.setIfInBounds o u = cs := by
  apply Array.ext_getElem?
  intro i
  by_cases e : i = o
  · subst e
    have hlt := (Array.getElem?_eq_some_iff.1 h).1
    rw [Array.getElem?_setIfInBounds_self_of_lt hlt, h]
  · rw [Array.getElem?_setIfInBounds_ne (by omega)]

theorem Wrote.of {w w1 w2 : World} {b o : Nat} {T : TypeId} {cs : Array Value} {v v' : Value} {l l' : List UInt8} (h : BldAt w b o T cs v l) (hb1 : w1.heap[b]? = some (.cells (cs.setIfInBounds o (.pointer (some ⟨b, o, none⟩))) T (0, 0))) (hC1 : Chg (fun k => k == b) w w1)
    {n : Nat} {xs : List Value} (hown : w2.ownsRow 0 5 1 v' n xs) (hn : n = l'.length) (hx : xs = Lib.byteCells l') (hg : w1.grownBy w2 v.ownBlock) (hnew : v'.ownBlock = v.ownBlock ∨ v'.ownBlock = some w1.heap.size) (hnz : l' = [] → v' = .slice none 0 0) : Wrote w (w2.setCell ⟨b, o + 1, none⟩ v') b o T cs v v' l' := by
  subst hn hx
  have hlt : b < w1.heap.size := (Array.getElem?_eq_some_iff.1 hb1).1
  have hoff : o + 1 < cs.size := (Array.getElem?_eq_some_iff.1 h.c1).1
  have hne : v'.ownBlock ≠ some b := by
    rcases hnew with e | e
    · rw [e]; exact h.ne
    · rw [e]; intro e2; have := Option.some.inj e2; omega
  have hb2 := (hg.block b hlt (fun e => h.ne e.symm)).trans hb1
  refine ⟨{ blk := heap_setCell_same hb2, c0 := .inr ?_, c1 := ?_, row := ownsRow_same hown (fun k hk => Below.heap_setCell _ _ _ _ (fun e => hne (by rw [hk]; exact congrArg some e))), ne := hne, nz := hnz, lies := by rw [bldPut_size]; exact h.lies }, ?_, ?_⟩
  · show (bldPut cs b o v')[o]? = _
    unfold bldPut
    rw [Array.getElem?_setIfInBounds_ne (by omega), Array.getElem?_setIfInBounds_self_of_lt (by omega)]
  · show (bldPut cs b o v')[o + 1]? = _
    unfold bldPut
    rw [Array.getElem?_setIfInBounds_self_of_lt (by simp; omega)]
  · exact ((hC1.mono (ρ' := bldρ b v) (fun k _ hk => by simp [bldρ] at hk ⊢; exact .inl hk)).grown hg (fun k hk _ => by simp [bldρ, hk])).setCell (fun _ => by simp [bldρ]) _
  · rcases hnew with e | e
    · exact .inl e
    · exact .inr ⟨_, e, hC1.size⟩

set_option maxRecDepth 100000 in
set_option maxHeartbeats 800000 in
theorem bldWriteString_any {w : World} {b o : Nat} {T : TypeId} {cs : Array Value} {v : Value} {l : List UInt8} (h : BldAt w b o T cs v l) (s : ByteArray) (hlen : l.length + s.size ≤ 300000) :
    Calls Tryz.prog 257 #[.pointer (some ⟨b, o, none⟩), .string s] w fun e w' => e = .returned (.tuple #[.int .i64 s.size, .nilIface]) ∧ ∃ v', Wrote w w' b o T cs v v' (l ++ s.data.toList) := by
  have HL := Lib.hid hlen
  clear hlen
  go_enter Tryz.func257, Tryz.ntmps257
  go_wp2_with fail
  refine (copyCheck_any h).mono ?_
  rintro e w1 ⟨rfl, hw1⟩
  have hb1 : w1.heap[b]? = some (.cells (cs.setIfInBounds o (.pointer (some ⟨b, o, none⟩))) T (0, 0)) := by
    rcases hw1 with ⟨rfl, h0⟩ | rfl
    · rw [setIf_same h0]; exact h.blk
    · exact heap_setCell_same h.blk
  have hC1 : Chg (fun k => k == b) w w1 := by
    rcases hw1 with ⟨rfl, _⟩ | rfl
    · exact Chg.refl _ _
    · exact (Chg.refl _ _).setCell (fun _ => by simp) _
  have hrow1 : w1.ownsRow 0 5 1 v l.length (Lib.byteCells l) := ownsRow_same h.row (fun k hk => by
    rcases hw1 with ⟨rfl, _⟩ | rfl
    · rfl
    · exact Below.heap_setCell _ _ _ _ (fun e => h.ne (by rw [hk]; exact congrArg some e)))
  clear hw1
  obtain ⟨hc, hf, hlt⟩ := cells_of_block hb1
  have c1 : w1.cell? ⟨b, o + 1, none⟩ = some v := (hc (o + 1)).trans (by rw [Array.getElem?_setIfInBounds_ne (by omega)]; exact h.c1)
  have f1 := hf (o + 1)
  have hoff := (Array.getElem?_eq_some_iff.1 h.c1).1
  clear hc hf
  go_wp2_with (at_builtin; refine wpList_app_str rfl _ _ rfl rfl hrow1 s rfl HL.out ?_)
  intro v' w2 hown2 hg2 hnew hnz
  obtain ⟨a2, m2, cap2, rfl⟩ : ∃ a m cap, v' = .slice a m cap := by
    obtain ⟨a, cap, e⟩ := ownsRow_slice hown2
    exact ⟨_, _, _, e⟩
  have hb2 := (hg2.block b hlt (fun e => h.ne e.symm)).trans hb1
  obtain ⟨hc2, hf2, _⟩ := cells_of_block hb2
  have c2 : w2.cell? ⟨b, o + 1, none⟩ = some v := (hc2 (o + 1)).trans (by rw [Array.getElem?_setIfInBounds_ne (by omega)]; exact h.c1)
  have f2 := hf2 (o + 1)
  have hW := Wrote.of (l' := l ++ s.data.toList) h hb1 hC1 hown2 (by simp) (by rw [Lib.byteCells_append]; rfl) hg2 hnew (fun e => by
    have e2 := List.append_eq_nil_iff.1 e
    exact hnz (h.nz e2.1) (by have := congrArg List.length e2.2; simpa using this))
  clear hc2 hf2 hown2 hnew hg2 hb1 hb2 hrow1 c1 f1 h hC1 HL
  go_wp2
  go_ret2
  exact ⟨rfl, _, hW⟩

set_option maxRecDepth 100000 in
set_option maxHeartbeats 800000 in
theorem bldWriteByte_any {w : World} {b o : Nat} {T : TypeId} {cs : Array Value} {v : Value} {l : List UInt8} (h : BldAt w b o T cs v l) (c : UInt8) (hlen : l.length ≤ 300000) :
    Calls Tryz.prog 293 #[.pointer (some ⟨b, o, none⟩), .int .u8 c.toNat] w fun e w' => e = .returned .nilIface ∧ ∃ v', Wrote w w' b o T cs v v' (l ++ [c]) := by
  have HL := Lib.hid hlen
  clear hlen
  go_enter Tryz.func293, Tryz.ntmps293
  go_wp2_with fail
  refine (copyCheck_any h).mono ?_
  rintro e w1 ⟨rfl, hw1⟩
  have hb1 : w1.heap[b]? = some (.cells (cs.setIfInBounds o (.pointer (some ⟨b, o, none⟩))) T (0, 0)) := by
    rcases hw1 with ⟨rfl, h0⟩ | rfl
    · rw [setIf_same h0]; exact h.blk
    · exact heap_setCell_same h.blk
  have hC1 : Chg (fun k => k == b) w w1 := by
    rcases hw1 with ⟨rfl, _⟩ | rfl
    · exact Chg.refl _ _
    · exact (Chg.refl _ _).setCell (fun _ => by simp) _
  have hrow1 : w1.ownsRow 0 5 1 v l.length (Lib.byteCells l) := ownsRow_same h.row (fun k hk => by
    rcases hw1 with ⟨rfl, _⟩ | rfl
    · rfl
    · exact Below.heap_setCell _ _ _ _ (fun e => h.ne (by rw [hk]; exact congrArg some e)))
  clear hw1
  obtain ⟨hc, hf, hlt⟩ := cells_of_block hb1
  have c1 : w1.cell? ⟨b, o + 1, none⟩ = some v := (hc (o + 1)).trans (by rw [Array.getElem?_setIfInBounds_ne (by omega)]; exact h.c1)
  have f1 := hf (o + 1)
  have hoff := (Array.getElem?_eq_some_iff.1 h.c1).1
  clear hc hf
  have hrow1' : (w1.alloc (.cells #[.int .u8 c.toNat] 5)).ownsRow 0 5 1 v l.length (Lib.byteCells l) := ownsRow_same hrow1 (fun k hk => Below.heap_alloc _ _ _ (owns_lt' hrow1 hk))
  have hb1' : (w1.alloc (.cells #[.int .u8 c.toNat] 5)).heap[b]? = some (.cells (cs.setIfInBounds o (.pointer (some ⟨b, o, none⟩))) T (0, 0)) := (Below.heap_alloc _ _ _ hlt).trans hb1
  have hu := (cells_of_block (MapKept.heap_alloc w1 (.cells #[.int .u8 c.toNat] 5)).1).1 0
  go_wp2_with (at_builtin; refine wpList_app_one rfl _ _ rfl rfl hrow1' ⟨w1.heap.size, 0, none⟩ 1 _ hu rfl rfl (by have := HL.out; omega) ?_)
  intro v' w2 hown2 hg2 hnew
  obtain ⟨a2, m2, cap2, rfl⟩ : ∃ a m cap, v' = .slice a m cap := by
    obtain ⟨a, cap, e⟩ := ownsRow_slice hown2
    exact ⟨_, _, _, e⟩
  have hb2 := (hg2.block b (by simp; omega) (fun e => h.ne e.symm)).trans hb1'
  obtain ⟨hc2, hf2, _⟩ := cells_of_block hb2
  have c2 : w2.cell? ⟨b, o + 1, none⟩ = some v := (hc2 (o + 1)).trans (by rw [Array.getElem?_setIfInBounds_ne (by omega)]; exact h.c1)
  have f2 := hf2 (o + 1)
  have hW := Wrote.of (l' := l ++ [c]) h hb1' (hC1.alloc _) hown2 (by simp) (by rw [Lib.byteCells_append]; rfl) hg2 (by simpa using hnew) (fun e => by simp at e)
  clear hc2 hf2 hown2 hnew hg2 hb1 hb2 hrow1 c1 f1 h hC1 HL hrow1' hb1' hu
  go_wp2
  go_ret
  exact ⟨rfl, _, hW⟩

set_option maxRecDepth 100000 in
set_option maxHeartbeats 800000 in
/-- String: what was written (the bytes freeze; of the world no more is said than of the blocks besides). -/
theorem bldString_any {w : World} {b o : Nat} {T : TypeId} {cs : Array Value} {v : Value} {l : List UInt8} (h : BldAt w b o T cs v l) (hlen : l.length ≤ 300000) :
    Calls Tryz.prog 157 #[.pointer (some ⟨b, o, none⟩)] w fun e w' => e = .returned (.string ⟨l.toArray⟩) ∧ Chg (bldρ b v) w w' := by
  obtain ⟨hc, _, _⟩ := cells_of_block h.blk
  have c1 := (hc (o + 1)).trans h.c1
  have hown := h.row
  obtain ⟨i0, hi, hz0, hz1, hz2⟩ := info_parts infoU8
  by_cases h0 : l = []
  · subst h0
    have hv := h.nz rfl
    subst hv
    have mixed : Tryz.prog.follows .mixedOrders = true := by kernel_rfl
    have hSD : (Builtin.unsafeSliceData_ #[75] 242 #[.slice none 0 0]).run Tryz.prog w.drew = .ok (.pointer none) w.drew := rfl
    have hUS : (Builtin.unsafeString_ #[242, 3] 9 #[.pointer none, .int .i64 0]).run Tryz.prog w.drew = .ok (.string ⟨#[]⟩) w.drew := by kernel_rfl
    clear h hc hown
    go_enter Tryz.func157, Tryz.ntmps157
    go_wp2
    go_region_o
    all_goals (go_wp2; go_ret; exact ⟨rfl, (Chg.refl _ _).drew⟩)
  · have hl0 : l.length ≠ 0 := by simpa using h0
    obtain ⟨g, cap, cur, rfl, hbg, hg, hnc, hcm, hcs, htake⟩ : ∃ g cap cur, v = .slice (some ⟨g, 0, none⟩) l.length cap ∧ 0 ≤ g ∧ w.heap[g]? = some (.cells cur 5 (0, 0)) ∧ l.length ≤ cap ∧ cap ≤ maxLen ∧ cur.size = cap * 1 ∧ cur.toList.take (l.length * 1) = Lib.byteCells l := by
      rcases hown.2 with ⟨_, hz⟩ | r
      · exact absurd hz hl0
      · exact r
    have hSD : ∀ W, (Builtin.unsafeSliceData_ #[75] 242 #[.slice (some ⟨g, 0, none⟩) l.length cap]).run Tryz.prog W = .ok (.pointer (some ⟨g, 0, none⟩)) W := fun W => Lib.run_unsafeSliceData_row _ _ _ _ _ _ (by omega)
    have hUS : (Builtin.unsafeString_ #[242, 3] 9 #[.pointer (some ⟨g, 0, none⟩), .int .i64 l.length]).run Tryz.prog w.drew = .ok (.string ⟨l.toArray⟩) (w.drew.freeze ⟨g, 0, none⟩ l.length) := by
      refine Lib.run_unsafeString_row w.drew 242 3 9 5 Tryz.underlying242 (by kernel_rfl) g cur.size (by have hg' : w.drew.heap[g]? = some (.cells cur 5 (0, 0)) := hg; simp [World.shape?, hg']) l h0 (by omega) (by omega) ?_
      intro j x hx
      have := hown.cells (g := g) rfl j (.int .u8 x.toNat) (by simp [Lib.byteCells, hx])
      exact this
    have hfz : Chg (bldρ b (.slice (some ⟨g, 0, none⟩) l.length cap)) w (w.drew.freeze ⟨g, 0, none⟩ l.length) := by
      have hb : ∀ k, k ≠ g → (w.drew.freeze ⟨g, 0, none⟩ l.length).heap[k]? = w.heap[k]? := fun k hk => by
        unfold World.freeze
        rw [if_neg hl0]
        simp only [World.drew, Array.getElem?_modify]
        rw [if_neg (fun e => hk e.symm)]
      have hz : (w.drew.freeze ⟨g, 0, none⟩ l.length).heap.size = w.heap.size ∧ (w.drew.freeze ⟨g, 0, none⟩ l.length).os = w.os ∧ (w.drew.freeze ⟨g, 0, none⟩ l.length).tape = w.tape ∧ (w.drew.freeze ⟨g, 0, none⟩ l.length).output = w.output := by
        unfold World.freeze
        rw [if_neg hl0]
        exact ⟨by simp, rfl, rfl, rfl⟩
      exact ⟨hz.2.1, hz.2.2.1, hz.2.2.2, Nat.le_of_eq hz.1.symm, fun k _ hk => hb k (fun e => by subst e; simp [bldρ, Value.ownBlock] at hk)⟩
    have mixed : Tryz.prog.follows .mixedOrders = true := by kernel_rfl
    clear h hc hown hlen
    go_enter Tryz.func157, Tryz.ntmps157
    go_wp2
    go_region_o
    all_goals (go_wp2; go_ret; exact ⟨rfl, hfz⟩)

end Go.Proofs.YtjhfjllgjgnmeaaGreat

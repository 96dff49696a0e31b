/- Maps as functions from keys to values: what lookup, store and delete do to them, over any program and any key type that is 'Keyed'. -/
import Derived.Maps.Own
import Derived.Maps.OwnOps
import Derived.Maps.OwnSet
import Derived.WalkKit
namespace Go.Proofs.YtjhfjllgjgnmeaaGreat
open Go.RowKit Go.Maps

noncomputable def findV (es : List MapEntry) (x : Value) : Option Value :=
  (es.find? (fun e => @decide (e.key = x) (Classical.propDecidable _))).map (·.val)

theorem findV_none {es : List MapEntry} {x : Value} (h : ∀ e ∈ es, e.key ≠ x) : findV es x = none := by
  unfold findV
  rw [Option.map_eq_none_iff, List.find?_eq_none]
  intro e he
  simpa using h e he

theorem findV_some {es : List MapEntry} {x : Value} (hp : es.Pairwise (fun a b => a.key ≠ b.key)) {e : MapEntry} (he : e ∈ es) (hk : e.key = x) : findV es x = some e.val := by
  induction es with
  | nil => cases he
  | cons y r ih =>
    obtain ⟨h1, h2⟩ := List.pairwise_cons.1 hp
    unfold findV at *
    rcases List.mem_cons.1 he with rfl | he
    · rw [List.find?_cons_of_pos (by simpa using hk)]; rfl
    · have : y.key ≠ x := fun e1 => h1 e he (e1.trans hk.symm)
      rw [List.find?_cons_of_neg (by simpa using this)]
      exact ih h2 he

theorem findV_eq_some {es : List MapEntry} {x v : Value} (h : findV es x = some v) : ∃ e ∈ es, e.key = x ∧ e.val = v := by
  unfold findV at h
  rw [Option.map_eq_some_iff] at h
  obtain ⟨e, he, hv⟩ := h
  exact ⟨e, List.mem_of_find?_eq_some he, by simpa using List.find?_some he, hv⟩

theorem findV_eq_none {es : List MapEntry} {x : Value} (h : findV es x = none) : ∀ e ∈ es, e.key ≠ x := by
  unfold findV at h
  rw [Option.map_eq_none_iff, List.find?_eq_none] at h
  intro e he
  simpa using h e he

/-- Block r of w is a map whose keys are keys of type k; its entries lie as Go lays them. -/
def MapAt (P : Program) (k : TypeId) (w : World) (r : Nat) (m : Value → Option Value) (c : Nat) : Prop :=
  ∃ es clock, w.heap[r]? = some (.map es clock) ∧ MapKept.Stamped es clock ∧ (∀ x ∈ es.toList, ∃ l, keyOf P k x.key = some l) ∧ (∀ x, m x = findV es.toList x) ∧ es.size = c

theorem MapAt.lt {P : Program} {k : TypeId} {w : World} {r : Nat} {m : Value → Option Value} {c : Nat} (h : MapAt P k w r m c) : r < w.heap.size := by
  obtain ⟨es, clock, hb, _⟩ := h
  exact (Array.getElem?_eq_some_iff.1 hb).1

theorem MapAt.block_some {P : Program} {k : TypeId} {w : World} {r : Nat} {m : Value → Option Value} {c : Nat} (h : MapAt P k w r m c) : ∃ o, w.heap[r]? = some o := by
  obtain ⟨es, clock, hb, _⟩ := h
  exact ⟨_, hb⟩

theorem MapAt.same {P : Program} {k : TypeId} {w w' : World} {r : Nat} {m : Value → Option Value} {c : Nat} (h : MapAt P k w r m c) (he : w'.heap[r]? = w.heap[r]?) : MapAt P k w' r m c := by
  obtain ⟨es, clock, hb, h1, h2, h3⟩ := h
  exact ⟨es, clock, he.trans hb, h1, h2, h3⟩

theorem MapAt.new (P : Program) (k : TypeId) (w : World) : MapAt P k (w.alloc (.map #[] 0)) w.heap.size (fun _ => none) 0 :=
  ⟨#[], 0, (MapKept.heap_alloc w _).1, MapKept.stamped_empty 0, by simp, fun x => (findV_none (by simp)).symm, rfl⟩

theorem MapAt.congr {P : Program} {k : TypeId} {w : World} {r : Nat} {m m' : Value → Option Value} {c : Nat} (h : MapAt P k w r m c) (he : ∀ x, m' x = m x) : MapAt P k w r m' c := by
  obtain ⟨es, clock, hb, h1, h2, h3, h4⟩ := h
  exact ⟨es, clock, hb, h1, h2, fun x => (he x).trans (h3 x), h4⟩

section
variable {P : Program} {k e t : TypeId} {w : World} {r : Nat} {m : Value → Option Value} {n : Nat}

/-- 'm[x]' and 'v, ok := m[x]'. -/
theorem MapAt.lookup (h : MapAt P k w r m n) (c : Bool) (K : Keyed P k) (ht : P.underlying t = some (.map k e)) {z : Value} (hz : (zeroValue e).run P w = .ok z w) {x : Value} {l : Lit} (hx : keyOf P k x = some l) :
    (Instr.lookup t (.map (some r)) x c).run P w = .ok (if c then .tuple #[(m x).getD z, .bool (m x).isSome] else (m x).getD z) w := by
  obtain ⟨es, clock, hb, hs, hk, hm, hc⟩ := h
  have hp := ((MapKept.stamped_iff es clock).1 hs).2.2
  rcases K.find w hx es.toList hk with ⟨h1, h2⟩ | ⟨j, e0, h1, h2, h3⟩
  · rw [hm, findV_none h2]
    cases c <;> simp [Instr.lookup, run_underlying ht, MapKept.run_getObj_map hb, K.check w _ hx, h1, hz, Result.andThen]
  · rw [hm, findV_some hp (List.mem_of_getElem? h2) h3]
    cases c <;> simp [Instr.lookup, run_underlying ht, MapKept.run_getObj_map hb, K.check w _ hx, h1, Result.andThen]

open Classical in
/-- 'm[x] = v'. -/
theorem MapAt.update (h : MapAt P k w r m n) (K : Keyed P k) (ht : P.underlying t = some (.map k e)) {x v : Value} {l : Lit} (hx : keyOf P k x = some l) :
    ∃ es clock, (Instr.mapUpdate t (.map (some r)) x v).run P w = .ok () (ChangeMaps.setBlock w r (.map es clock)) ∧ MapAt P k (ChangeMaps.setBlock w r (.map es clock)) r (fun y => if y = x then some v else m y) (if (m x).isSome then n else n + 1) := by
  obtain ⟨es, clock, hb, hs, hk, hm, hc⟩ := h
  have hp := ((MapKept.stamped_iff es clock).1 hs).2.2
  have hlt : r < w.heap.size := (Array.getElem?_eq_some_iff.1 hb).1
  rcases K.find w hx es.toList hk with ⟨h1, h2⟩ | ⟨j, e0, h1, h2, h3⟩
  · refine ⟨es.push ⟨x, v, clock⟩, clock + 1, ?_, es.push ⟨x, v, clock⟩, clock + 1, ChangeMaps.heap_setBlock_same hb _, MapKept.stamped_push hs h2, ?_, ?_, by rw [hm, findV_none h2]; simp [hc]⟩
    · simp [Instr.mapUpdate, run_underlying ht, MapKept.run_getObj_map hb, K.check w false hx, h1, MapKept.run_setObj_map _ hb, Result.andThen, ChangeMaps.setBlock]
    · intro y hy
      simp only [Array.toList_push, List.mem_append, List.mem_singleton] at hy
      rcases hy with hy | rfl
      · exact hk y hy
      · exact ⟨l, hx⟩
    · intro y
      have hp' := ((MapKept.stamped_iff _ _).1 (MapKept.stamped_push hs h2 (val := v))).2.2
      dsimp only
      split
      · rename_i e1
        subst e1
        exact (findV_some hp' (e := ⟨y, v, clock⟩) (by simp) rfl).symm
      · rename_i hne
        rw [hm]
        cases hf : findV es.toList y with
        | none =>
          refine (findV_none fun z hz => ?_).symm
          simp only [Array.toList_push, List.mem_append, List.mem_singleton] at hz
          rcases hz with hz | rfl
          · exact findV_eq_none hf z hz
          · exact fun e1 => hne e1.symm
        | some u =>
          obtain ⟨z, hz, hzk, rfl⟩ := findV_eq_some hf
          exact (findV_some hp' (by simp [hz]) hzk).symm
  · have hj : es[j]? = some e0 := by simpa using h2
    have hjl : j < es.toList.length := (List.getElem?_eq_some_iff.1 h2).1
    have hkeyf : ∀ e', es[j]? = some e' → ({ e' with key := x, val := v } : MapEntry).key = e'.key := fun e' he' => by rw [hj] at he'; cases he'; exact h3.symm
    have hlist : (es.modify j (fun e' => { e' with key := x, val := v })).toList = es.toList.set j { e0 with key := x, val := v } := by rw [Array.toList_modify, ChangeMaps.modify_eq_set _ _ _ _ h2]
    have hst := MapKept.stamped_modify hs j (fun e' => { e' with key := x, val := v }) (fun _ _ => rfl) (fun e' _ he' => hkeyf e' he')
    refine ⟨es.modify j (fun e' => { e' with key := x, val := v }), clock, ?_, _, clock, ChangeMaps.heap_setBlock_same hb _, hst, ?_, ?_, by rw [hm, findV_some hp (List.mem_of_getElem? h2) h3]; simp [hc]⟩
    · simp [Instr.mapUpdate, run_underlying ht, MapKept.run_getObj_map hb, K.check w false hx, h1, hj, h3, K.stays w hx, MapKept.run_setObj_map _ hb, Result.andThen, ChangeMaps.setBlock]
    · intro y hy
      rw [hlist] at hy
      rcases List.mem_or_eq_of_mem_set hy with hy | rfl
      · exact hk y hy
      · exact ⟨l, hx⟩
    · intro y
      have hp' := ((MapKept.stamped_iff _ _).1 hst).2.2
      rw [hlist] at hp' ⊢
      dsimp only
      split
      · rename_i e1
        subst e1
        exact (findV_some hp' (e := { e0 with key := y, val := v }) (List.mem_iff_getElem.2 ⟨j, by simpa using hjl, by simp⟩) rfl).symm
      · rename_i hne
        rw [hm]
        have hset : ∀ z, z ∈ es.toList → z.key = y → z ∈ es.toList.set j { e0 with key := x, val := v } := by
          intro z hz hzk
          obtain ⟨i, hi, ez⟩ := List.getElem_of_mem hz
          have hij : j ≠ i := by
            rintro rfl
            have e0z : e0 = z := by
              have := List.getElem?_eq_getElem hi
              rw [h2] at this
              exact (Option.some.inj this).trans ez
            subst e0z
            exact hne (hzk.symm.trans h3)
          exact List.mem_iff_getElem.2 ⟨i, by simpa using hi, by rw [List.getElem_set_ne hij]; exact ez⟩
        cases hf : findV es.toList y with
        | none =>
          refine (findV_none fun z hz => ?_).symm
          rcases List.mem_or_eq_of_mem_set hz with hz | rfl
          · exact findV_eq_none hf z hz
          · exact fun e1 => hne e1.symm
        | some u =>
          obtain ⟨z, hz, hzk, rfl⟩ := findV_eq_some hf
          exact (findV_some hp' (hset z hz hzk) hzk).symm

open Classical in
/-- 'delete(m, x)'. -/
theorem MapAt.delete {ty : TypeId} (h : MapAt P k w r m n) (K : Keyed P k) (ht : P.underlying t = some (.map k e)) {x : Value} {l : Lit} (hx : keyOf P k x = some l) :
    ∃ es clock, (Builtin.delete_ #[t, k] ty #[.map (some r), x]).run P w = .ok (.tuple #[]) (ChangeMaps.setBlock w r (.map es clock)) ∧ MapAt P k (ChangeMaps.setBlock w r (.map es clock)) r (fun y => if y = x then none else m y) (if (m x).isSome then n - 1 else n) := by
  obtain ⟨es, clock, hb, hs, hk, hm, hc⟩ := h
  have hp := ((MapKept.stamped_iff es clock).1 hs).2.2
  rcases K.find w hx es.toList hk with ⟨h1, h2⟩ | ⟨j, e0, h1, h2, h3⟩
  · refine ⟨es, clock, ?_, es, clock, ChangeMaps.heap_setBlock_same hb _, hs, hk, fun y => ?_, by rw [hm, findV_none h2]; simpa using hc⟩
    · simp [Builtin.delete_, run_underlying ht, MapKept.run_getObj_map hb, K.check w _ hx, h1, MapKept.run_setObj_map _ hb, Result.andThen, ChangeMaps.setBlock]
    · dsimp only
      split
      · rename_i e1; subst e1; exact (findV_none h2).symm
      · exact hm y
  · have hjl : j < es.toList.length := (List.getElem?_eq_some_iff.1 h2).1
    have hjs : j < es.size := by simpa using hjl
    have hsub : (es.eraseIdxIfInBounds j).toList = es.toList.eraseIdx j := by
      unfold Array.eraseIdxIfInBounds
      rw [dif_pos hjs]
      simp
    have hst := MapKept.stamped_erase hs j
    refine ⟨es.eraseIdxIfInBounds j, clock, ?_, _, clock, ChangeMaps.heap_setBlock_same hb _, hst, ?_, fun y => ?_, by rw [hm, findV_some hp (List.mem_of_getElem? h2) h3]; simp [← hc, Array.eraseIdxIfInBounds, hjs]⟩
    · simp [Builtin.delete_, run_underlying ht, MapKept.run_getObj_map hb, K.check w _ hx, h1, MapKept.run_setObj_map _ hb, Result.andThen, ChangeMaps.setBlock]
    · intro y hy
      rw [hsub] at hy
      exact hk y ((List.eraseIdx_sublist _ _).subset hy)
    · have hp' := ((MapKept.stamped_iff _ _).1 hst).2.2
      rw [hsub] at hp' ⊢
      have e0j : es.toList[j]'hjl = e0 := by
        have := List.getElem?_eq_getElem hjl
        rw [h2] at this
        exact (Option.some.inj this).symm
      dsimp only
      split
      · rename_i e1
        subst e1
        refine (findV_none fun z hz => ?_).symm
        obtain ⟨i, hne, hi⟩ := List.mem_eraseIdx_iff_getElem?.1 hz
        intro hzk
        have hil : i < es.toList.length := (List.getElem?_eq_some_iff.1 hi).1
        have hiz : es.toList[i]'hil = z := (List.getElem?_eq_some_iff.1 hi).2
        rcases Nat.lt_or_gt_of_ne hne with hlt | hlt
        · exact List.pairwise_iff_getElem.1 hp i j hil hjl hlt (by rw [hiz, e0j, hzk, h3])
        · exact List.pairwise_iff_getElem.1 hp j i hjl hil hlt (by rw [hiz, e0j, hzk, h3])
      · rename_i hne
        rw [hm]
        cases hf : findV es.toList y with
        | none => exact (findV_none fun z hz => findV_eq_none hf z ((List.eraseIdx_sublist _ _).subset hz)).symm
        | some u =>
          obtain ⟨z, hz, hzk, rfl⟩ := findV_eq_some hf
          refine (findV_some hp' ?_ hzk).symm
          obtain ⟨i, hi, ez⟩ := List.getElem_of_mem hz
          refine List.mem_eraseIdx_iff_getElem?.2 ⟨i, ?_, by rw [List.getElem?_eq_getElem hi, ez]⟩
          rintro rfl
          exact hne (by rw [← hzk, ← ez, e0j, h3])

/-- 'len(m)'. -/
theorem MapAt.len (h : MapAt P k w r m n) {ty : TypeId} (ht : P.underlying t = some (.map k e)) :
    (Builtin.len_ #[t] ty #[.map (some r)]).run P w = .ok (.int .i64 n) w := by
  obtain ⟨es, clock, hb, hs, hk, hm, hc⟩ := h
  simp [Builtin.len_, run_underlying ht, MapKept.run_getObj_map hb, Result.andThen, hc]
  rfl

end

open Classical in
/-- 'm[x] = v' at the operation. -/
theorem wpList_update_at {P : Program} (w : World) {ops : Array Oper} {rest : List Oper} {o : Oper} {a : Act} {Q : Exit → Act → World → Prop}
    (hg : o.guard = none) (mo xo vo : Operand) (t : TypeId) (hop : o.op = Op.mapUpdate t mo xo vo)
    (k e : TypeId) (K : Keyed P k) (ht : P.underlying t = some (.map k e)) (b : Nat) (m : Value → Option Value) (n : Nat)
    (hm : a.eval mo = .map (some b)) (hat : MapAt P k w b m n) (x v : Value) (l : Lit) (hx : a.eval xo = x) (hv : a.eval vo = v) (hkey : keyOf P k x = some l)
    (hK : ∀ w', MapAt P k w' b (fun y => if y = x then some v else m y) (if (m x).isSome then n else n + 1) → w.grownBy w' (some b) → wpList P ops Q rest (a.put o.dst undef) w') :
    wpList P ops Q (o :: rest) a w := by
  refine wpList_plain hg fun K' hK' => ?_
  obtain ⟨es, clock, hrun, r1⟩ := hat.update K ht hkey (v := v)
  obtain ⟨es0, clock0, hb0, _⟩ := hat
  unfold Oper.wp
  simp [execOp, hop, hm, hx, hv, hrun, Result.andThen]
  exact hK' _ _ (hK _ r1 ⟨rfl, rfl, rfl, by simp [ChangeMaps.setBlock], fun i _ hi => ChangeMaps.heap_setBlock_other hb0 _ (fun e => hi (by rw [e]))⟩)

end Go.Proofs.YtjhfjllgjgnmeaaGreat

/- Regions that draw their order, walked in one order of the prover's own: operations that yield in every world of S are taken as soon as they may come up; the others come up alone, and S is shown anew behind them; a tail that waits for all of them goes by the walk's own list. -/
import Derived.Test.YtjhfjllgjgnmeaaGreatBase
namespace Go.Proofs.YtjhfjllgjgnmeaaGreat
open Go.RowKit

/-- The i-th operation, by looking. -/
def nth : List Oper → Nat → Option Oper
  | [], _ => none
  | x :: _, 0 => some x
  | _ :: r, i + 1 => nth r i
theorem nth_eq : ∀ (l : List Oper) (i : Nat), l[i]? = nth l i
  | [], _ => by simp [nth]
  | x :: r, 0 => rfl
  | x :: r, i + 1 => by simpa [nth] using nth_eq r i
theorem nth_ops {l : List Oper} {i : Nat} {o : Oper} (h : nth l i = some o) : l.toArray[i]? = some o := by
  rw [← h, ← nth_eq]
  simp

section
variable {P : Program} {ops : Array Oper} {Q : Exit → Act → World → Prop} {md : Region.Mode} {S : World → Prop} {n : Nat}

/-- Whatever order is picked from here on, till only the tail is left. -/
def wpAnyT (P : Program) (md : Region.Mode) (ops : Array Oper) (Q : Exit → Act → World → Prop) (S : World → Prop) (n : Nat) : Nat → Array Bool → Act → World → Prop
  | 0, listed, a, w => Region.seqB md ops (ops.size - n) n listed = true ∧ wpList P ops Q (ops.toList.drop n) a w
  | fuel + 1, listed, a, w =>
    (∀ i ∈ Region.ready md ops listed, i < n) ∧ Region.ready md ops listed ≠ [] ∧
    ∀ i ∈ Region.ready md ops listed, wpOp P ops Q i (fun a' w' => S w' ∧ wpAnyT P md ops Q S n fuel (listed.setIfInBounds i true) a' w') a w

theorem wpAny_of_T : ∀ (fuel : Nat) (listed : Array Bool) (a : Act) (w : World), wpAnyT P md ops Q S n fuel listed a w → wpAny P md ops Q (fuel + (ops.size - n)) listed a w
  | 0, listed, a, w, h => by
    have := wpAny_of_seq (md := md) (Q' := Q) (P := P) (ops := ops) (ops.toList.drop n) n listed a w (fun j => by simp [List.getElem?_drop]) (by simpa using h.1) h.2
    simpa using this
  | fuel + 1, listed, a, w, h => by
    rw [show fuel + 1 + (ops.size - n) = (fuel + (ops.size - n)) + 1 by omega]
    exact ⟨fun h0 => absurd h0 h.2.1, fun i hi => wpOp_mono (fun a' w' h' => wpAny_of_T fuel _ a' w' h'.2) (h.2.2 i hi)⟩

/-- Every operation of the tail waits for every one ahead of it. -/
def sinks (md : Region.Mode) (ops : Array Oper) (n : Nat) : Bool :=
  (List.range ops.size).all fun j => decide (j < n) || (List.range n).all fun i => match ops[j]? with | some o => o.after.any (fun e => Region.binds md e && e.on == i) | none => true

theorem sinks_spec (h : sinks md ops n = true) {i j : Nat} (hi : i < n) (hj : n ≤ j) {listed : Array Bool} (hr : j ∈ Region.ready md ops listed) : listed.getD i false = true := by
  obtain ⟨_, o, ho, hall⟩ := mem_ready.1 hr
  have hjs : j < ops.size := (Array.getElem?_eq_some_iff.1 ho).1
  simp only [sinks, List.all_eq_true, List.mem_range, Bool.or_eq_true, decide_eq_true_eq] at h
  rcases h j hjs with h1 | h1
  · omega
  · have h2 := h1 i hi
    rw [ho] at h2
    obtain ⟨e, he, hb⟩ := Array.any_eq_true'.1 h2
    simp only [Bool.and_eq_true, beq_iff_eq] at hb
    rw [← hb.2]
    exact hall e he hb.1

theorem wpAnyT_first {i : Nat} {oi : Oper} {v : Value} (hi : ops[i]? = some oi) (hin : i < n) (hsel : ∀ (j : Nat) (o : Oper) cs b, ops[j]? = some o → o.op ≠ .select cs b) (hsink : sinks md ops n = true)
    (hQ : ∀ c a w, Q (.panic c) (a.put oi.dst v) w → Q (.panic c) a w) :
    ∀ (fuel : Nat) (listed : Array Bool) (a : Act) (w : World),
      (∀ j oj, ops[j]? = some oj → j ≠ i → listed.getD j true = false → (∀ e ∈ oj.after, Region.binds md e = true → e.on ≠ i) → oi.apart ops oj = true) →
      i ∈ Region.ready md ops listed → YieldsIf P ops S oi v a → S w →
      wpAnyT P md ops Q S n fuel (listed.setIfInBounds i true) (a.put oi.dst v) w → wpAnyT P md ops Q S n (fuel + 1) listed a w := by
  have unl : ∀ listed : Array Bool, i ∈ Region.ready md ops listed → listed.getD i false = false := fun listed hr => by
    have h0 := (mem_ready.1 hr).1
    rcases Nat.lt_or_ge i listed.size with h' | h'
    · simpa [h'] using h0
    · simp [Array.getElem?_eq_none h']
  have low : ∀ listed : Array Bool, i ∈ Region.ready md ops listed → ∀ j ∈ Region.ready md ops listed, j < n := fun listed hr j hj => by
    rcases Nat.lt_or_ge j n with h | h
    · exact h
    · have h1 := sinks_spec hsink hin h hj
      rw [unl listed hr] at h1
      cases h1
  intro fuel
  induction fuel with
  | zero =>
    intro listed a w _ hr hy hS H
    refine ⟨low listed hr, fun h => (by rw [h] at hr; cases hr), fun j hj => ?_⟩
    by_cases hji : j = i
    · subst hji; exact hy.wpOp hi hS ⟨hS, H⟩
    · have h1 := seqB_ready H.1 j (ready_mono hj hji)
      have h2 := low listed hr j hj
      omega
  | succ fuel ih =>
    intro listed a w hfree hr hy hS H
    refine ⟨low listed hr, fun h => (by rw [h] at hr; cases hr), fun j hj => ?_⟩
    by_cases hji : j = i
    · subst hji; exact hy.wpOp hi hS ⟨hS, H⟩
    · have h1 := H.2.2 j (ready_mono hj hji)
      obtain ⟨hjun, oj, hoj, hall⟩ := mem_ready.1 hj
      have hnot : ∀ e ∈ oj.after, Region.binds md e = true → e.on ≠ i := fun e he hb heq => by
        have h1 := hall e he hb
        rw [heq, unl listed hr] at h1
        cases h1
      have h2 := wpOp_putIf hoj (hfree j oj hoj hji hjun hnot) (fun cs b => hsel i oi cs b hi) (fun cs b => hsel j oj cs b hoj) hQ hy h1
      have hfree' : ∀ k ok, ops[k]? = some ok → k ≠ i → (listed.setIfInBounds j true).getD k true = false →
          (∀ e ∈ ok.after, Region.binds md e = true → e.on ≠ i) → oi.apart ops ok = true := fun k ok hk hki hun hno => by
        refine hfree k ok hk hki ?_ hno
        by_cases hjk : j = k
        · subst hjk; exact hjun
        · rw [getD_set_ne true hjk] at hun; exact hun
      refine wpOp_mono (fun a' w' h3 => ⟨h3.2.1, ih (listed.setIfInBounds j true) a' w' hfree' (ready_mono hr (Ne.symm hji)) h3.1 h3.2.1 ?_⟩) h2
      rw [Array.setIfInBounds_comm _ _ hji]
      exact h3.2.2

/-- The order: number, and whether it yields in every world of S. -/
def okPi (md : Region.Mode) (ops : Array Oper) (n : Nat) : List (Nat × Bool) → Array Bool → Bool
  | [], listed => Region.seqB md ops (ops.size - n) n listed
  | (i, fr) :: r, listed => decide (i < n) && (if fr then (Region.ready md ops listed).contains i && Region.free md ops listed i else decide (Region.ready md ops listed = [i])) && okPi md ops n r (listed.setIfInBounds i true)

/-- The walk in that order. -/
def wpPi (P : Program) (ops : Array Oper) (Q : Exit → Act → World → Prop) (S : World → Prop) (n : Nat) : List (Nat × Bool) → Act → World → Prop
  | [], a, w => wpList P ops Q (ops.toList.drop n) a w
  | (i, true) :: r, a, w => ∃ o v, ops[i]? = some o ∧ YieldsIf P ops S o v a ∧ (∀ c a w, Q (.panic c) (a.put o.dst v) w → Q (.panic c) a w) ∧ wpPi P ops Q S n r (a.put o.dst v) w
  | (i, false) :: r, a, w => wpOp P ops Q i (fun a' w' => S w' ∧ wpPi P ops Q S n r a' w') a w

theorem wpAnyT_of_pi (hsel : Region.noSelect ops = true) (hsink : sinks md ops n = true) : ∀ (π : List (Nat × Bool)) (listed : Array Bool) (a : Act) (w : World), okPi md ops n π listed = true → S w → wpPi P ops Q S n π a w → wpAnyT P md ops Q S n π.length listed a w
  | [], listed, a, w, hB, _, h => ⟨hB, h⟩
  | (i, true) :: r, listed, a, w, hB, hS, h => by
    obtain ⟨o, v, hi, hy, hQ, h⟩ := h
    simp only [okPi, Bool.and_eq_true, decide_eq_true_eq, if_true] at hB
    exact wpAnyT_first hi hB.1.1 (Region.noSelect_spec hsel) hsink hQ r.length listed a w (Region.free_spec hi hB.1.2.2) (by simpa using hB.1.2.1) hy hS (wpAnyT_of_pi hsel hsink r _ _ w hB.2 hS h)
  | (i, false) :: r, listed, a, w, hB, hS, h => by
    simp only [okPi, Bool.and_eq_true, decide_eq_true_eq, Bool.false_eq_true, if_false] at hB
    refine ⟨fun j hj => ?_, fun h0 => (by rw [hB.1.2] at h0; cases h0), fun j hj => ?_⟩
    · rw [hB.1.2] at hj
      have : j = i := by simpa using hj
      omega
    · rw [hB.1.2] at hj
      have : j = i := by simpa using hj
      subst this
      exact wpOp_mono (fun a' w' h' => ⟨h'.1, wpAnyT_of_pi hsel hsink r _ a' w' hB.2 h'.1 h'.2⟩) h

theorem wp_region_pi {id : Nat} {l : List Oper} {a : Act} {w : World} (S : World → Prop) (n : Nat) (π : List (Nat × Bool)) (hm : P.follows .mixedOrders = true)
    (hB : (Region.noSelect l.toArray && sinks .any l.toArray n && okPi .any l.toArray n π (Array.replicate l.length false) && decide (π.length + (l.length - n) = l.length)) = true)
    (hS : S w.drew) (h : S w.drew → wpPi P l.toArray Q S n π a w.drew) : (Code.region id l.toArray true).wp P Q a w := by
  simp only [Bool.and_eq_true, decide_eq_true_eq] at hB
  obtain ⟨⟨⟨h1, h2⟩, h3⟩, h4⟩ := hB
  refine wp_region_any hm ?_
  have := wpAny_of_T _ _ _ _ (wpAnyT_of_pi (md := .any) h1 h2 π (Array.replicate l.length false) a w.drew h3 hS (h hS))
  have e : π.length + (l.toArray.size - n) = l.toArray.size := by simpa using h4
  rw [e] at this
  simpa using this

theorem pi_free {i : Nat} {o : Oper} {r : List (Nat × Bool)} {a : Act} {w : World} {l : List Oper} (hi : nth l i = some o) (hw : Region.wanted o (yielded l.toArray a.tmps) = true)
    (h : ∃ v, (∀ w, S w → (execOp a.eval o).run P w = .ok (.value v) w) ∧ (∀ c a w, Q (.panic c) (a.put o.dst v) w → Q (.panic c) a w) ∧ wpPi P l.toArray Q S n r (a.put o.dst v) w) : wpPi P l.toArray Q S n ((i, true) :: r) a w :=
  let ⟨v, hr, hQ, h⟩ := h
  ⟨o, v, nth_ops hi, .inl ⟨hw, hr⟩, hQ, h⟩
theorem pi_skip {i : Nat} {o : Oper} {r : List (Nat × Bool)} {a : Act} {w : World} {l : List Oper} (hi : nth l i = some o) (hw : Region.wanted o (yielded l.toArray a.tmps) = false) (hQ : ∀ c a w, Q (.panic c) (a.put o.dst undef) w → Q (.panic c) a w)
    (h : wpPi P l.toArray Q S n r (a.put o.dst undef) w) : wpPi P l.toArray Q S n ((i, true) :: r) a w :=
  ⟨o, undef, nth_ops hi, .inr ⟨hw, rfl⟩, hQ, h⟩
theorem pi_skip' {i : Nat} {o : Oper} {r : List (Nat × Bool)} {a : Act} {w : World} {l : List Oper} (hi : nth l i = some o) (hw : Region.wanted o (yielded l.toArray a.tmps) = false) (hS : S w)
    (h : wpPi P l.toArray Q S n r (a.put o.dst undef) w) : wpPi P l.toArray Q S n ((i, false) :: r) a w := by
  unfold wpPi wpOp
  simp only [nth_ops hi, hw, Bool.false_eq_true, if_false]
  exact ⟨hS, h⟩
theorem pi_step {i : Nat} {o : Oper} {r : List (Nat × Bool)} {a : Act} {w : World} {l : List Oper} (hi : nth l i = some o) (hw : Region.wanted o (yielded l.toArray a.tmps) = true)
    (h : ∀ K : Act → World → Prop, (∀ a' w', S w' → wpPi P l.toArray Q S n r a' w' → K a' w') → o.wp P a w K Q) : wpPi P l.toArray Q S n ((i, false) :: r) a w := by
  unfold wpPi wpOp
  simp only [nth_ops hi, hw, if_true]
  exact .inl (h _ (fun _ _ h1 h2 => ⟨h1, h2⟩))

end

/-! ### New variables of the region's own, made at any time -/

/-- An operation 'alloc': its number, its temporary, its type, what its cells hold. -/
structure Al where
  i : Nat
  d : Tmp
  t : TypeId
  z : Array Value

/-- The frame, the variables of those that have come up laid in. -/
def laid : List Al → (Nat → Bool) → (Nat → Nat) → Act → Act
  | [], _, _, a => a
  | x :: r, c, val, a => laid r c val (bif c x.i then a.put (some x.d) (.pointer (some ⟨val x.i, 0, none⟩)) else a)

theorem laid_put (c : Nat → Bool) (val : Nat → Nat) (d : Option Tmp) (v : Value) : ∀ (al : List Al) (a : Act), (∀ x ∈ al, d ≠ some x.d) → laid al c val (a.put d v) = (laid al c val a).put d v
  | [], _, _ => rfl
  | x :: r, a, hd => by
    unfold laid
    have hr := fun a => laid_put c val d v r a (fun y hy => hd y (by simp [hy]))
    cases c x.i
    · exact hr a
    · simp only [cond_true]
      rw [Act.put_comm a v _ (fun e he h2 => hd x (by simp) (he.trans h2.symm))]
      exact hr _

theorem laid_congr (c c' : Nat → Bool) (val val' : Nat → Nat) : ∀ (al : List Al) (a : Act), (∀ x ∈ al, c x.i = c' x.i ∧ val x.i = val' x.i) → laid al c val a = laid al c' val' a
  | [], _, _ => rfl
  | x :: r, a, h => by
    obtain ⟨h1, h2⟩ := h x (by simp)
    unfold laid
    rw [h1, h2]
    exact laid_congr c c' val val' r _ (fun y hy => h y (by simp [hy]))

theorem laid_more (c : Nat → Bool) (val : Nat → Nat) (x : Al) (hn : c x.i = false) (b : Nat) : ∀ (al : List Al) (a : Act), x ∈ al → al.Pairwise (fun x y => x.i ≠ y.i) → al.Pairwise (fun x y => x.d ≠ y.d) →
    laid al (fun j => if j = x.i then true else c j) (fun j => if j = x.i then b else val j) a = (laid al c val a).put (some x.d) (.pointer (some ⟨b, 0, none⟩))
  | [], _, hx, _, _ => by cases hx
  | y :: r, a, hx, hi, hd => by
    obtain ⟨hi1, hi2⟩ := List.pairwise_cons.1 hi
    obtain ⟨hd1, hd2⟩ := List.pairwise_cons.1 hd
    rcases List.mem_cons.1 hx with rfl | hx
    · unfold laid
      simp only [if_true, hn, cond_true, cond_false]
      rw [laid_congr _ c _ val r _ (fun y hy => by simp [(hi1 y hy).symm])]
      exact laid_put c val _ _ r a (fun y hy h => hd1 y hy (Option.some.inj h))
    · have hne : y.i ≠ x.i := hi1 x hx
      unfold laid
      simp only [hne, if_false]
      exact laid_more c val x hn b r _ hx hi2 hd2

section
variable {P : Program} {ops : Array Oper} {Q : Exit → Act → World → Prop} {md : Region.Mode} {n : Nat}

/-- The walk in an order of the prover's own: the others' worlds are any that come of W1 by new blocks. -/
def wpM (P : Program) (ops : Array Oper) (Q : Exit → Act → World → Prop) (n : Nat) (S : World → Prop) (al : List Al) (B : Nat) (π2 : List (Nat × Bool)) : List (Nat × Bool) → (Nat → Bool) → World → Act → Prop
  | [], ρ, W1, a => ∀ W val, Below W1.heap.size W1 W → S W → (∀ x ∈ al, W.heap[val x.i]? = some (.cells x.z x.t (0, 0)) ∧ ρ (val x.i) = false ∧ B ≤ val x.i) → al.Pairwise (fun x y => val x.i ≠ val y.i) →
    wpPi P ops Q S n π2 (laid al (fun _ => true) val a) W
  | (i, true) :: r, ρ, W1, a => ∃ o v, ops[i]? = some o ∧ YieldsIf P ops S o v a ∧ (∀ c a w, Q (.panic c) (a.put o.dst v) w → Q (.panic c) a w) ∧ wpM P ops Q n S al B π2 r ρ W1 (a.put o.dst v)
  | (i, false) :: r, ρ, W1, a => ∀ W, Below W1.heap.size W1 W → S W → wpOp P ops (NoPanic Q) i (fun a' W' => ∃ ρ', Chg ρ W W' ∧ (∀ b, b < W.heap.size → ρ' b = ρ b) ∧ (∀ b, W'.heap.size ≤ b → ρ' b = false) ∧ wpM P ops Q n S al B π2 r ρ' W' a') a W

/-- All that has not come up waits for every variable. -/
def okJoin (md : Region.Mode) (ops : Array Oper) (al : List Al) (ls : Array Bool) : Bool :=
  (List.range ops.size).all fun j => ls.getD j true || al.any (fun x => x.i == j) || al.all (fun x => match ops[j]? with | some o => o.after.any (fun e => Region.binds md e && e.on == x.i) | none => false)

/-- What is asked of the order, by program. -/
def okM (md : Region.Mode) (ops : Array Oper) (n : Nat) (al : List Al) (π2 : List (Nat × Bool)) : List (Nat × Bool) → Array Bool → Bool
  | [], ls => okJoin md ops al ls && okPi md ops n π2 (al.foldl (fun l x => l.setIfInBounds x.i true) ls)
  | (i, fr) :: r, ls => decide (i < n) && !al.any (fun x => x.i == i) && (Region.ready md ops ls).contains i &&
      (if fr then Region.free md ops ls i else (Region.ready md ops (al.foldl (fun l x => l.setIfInBounds x.i true) ls)).all fun j => j == i || al.any (fun x => x.i == j)) &&
      (al.all fun x => match ops[i]? with | some oi => !(oi.looksAt ops).contains x.d && oi.dst != some x.d | none => false) && okM md ops n al π2 r (ls.setIfInBounds i true)

/-- The operations that make variables: as they are told, below n, waiting for nothing. -/
def okAl (ops : Array Oper) (n : Nat) (al : List Al) : Bool :=
  al.all fun x => decide (x.i < n) && (match ops[x.i]? with | some o => o.dst == some x.d && o.guard.isNone && o.after.isEmpty && (match o.op with | .alloc t => t == x.t | _ => false) | none => false)

theorem okAl_spec {al : List Al} (h : okAl ops n al = true) {x : Al} (hx : x ∈ al) :
    x.i < n ∧ (∃ o, ops[x.i]? = some o ∧ o.dst = some x.d ∧ o.guard = none ∧ o.after = #[] ∧ o.op = .alloc x.t) := by
  simp only [okAl, List.all_eq_true, Bool.and_eq_true, decide_eq_true_eq] at h
  obtain ⟨h1, h2⟩ := h x hx
  refine ⟨h1, ?_⟩
  split at h2
  · rename_i o ho
    simp only [Bool.and_eq_true, beq_iff_eq, Option.isNone_iff_eq_none, Array.isEmpty_iff] at h2
    refine ⟨o, ho, h2.1.1.1, h2.1.1.2, h2.1.2, ?_⟩
    have h4 := h2.2
    split at h4
    · rename_i t ht
      rw [ht, beq_iff_eq.1 h4]
    · cases h4
  · cases h2

/-- What an operation of the order is told apart from the variables by. -/
theorem okApart {al : List Al} {i : Nat} (h : (al.all fun x => match ops[i]? with | some oi => !(oi.looksAt ops).contains x.d && oi.dst != some x.d | none => false) = true) {o : Oper} (hi : ops[i]? = some o) : ∀ x ∈ al, x.d ∉ o.looksAt ops ∧ o.dst ≠ some x.d := fun x hx => by
  have h4 := List.all_eq_true.1 h x hx
  rw [hi] at h4
  simp only [Bool.and_eq_true, Bool.not_eq_true', bne_iff_ne, ne_eq] at h4
  refine ⟨fun hm => ?_, h4.2⟩
  have := h4.1
  simp [hm] at this

/-- An operation that does not look at a temporary, and does not write it, is carried out likewise whatever is there. -/
theorem wpOp_over {j : Nat} {oj : Oper} {d : Tmp} {v : Value} (hj : ops[j]? = some oj) (h1 : d ∉ oj.looksAt ops) (h2 : oj.dst ≠ some d) (hsj : ∀ cs b, oj.op ≠ .select cs b) {K : Act → World → Prop} {a : Act} {w : World}
    (h : wpOp P ops (NoPanic Q) j K a w) : wpOp P ops (NoPanic Q) j (fun a' w' => ∃ a'', a' = a''.put (some d) v ∧ K a'' w') (a.put (some d) v) w := by
  have hd : ∀ e, some d = some e → e ∉ oj.looksAt ops := fun e he => by cases he; exact h1
  have hc : ∀ e, some d = some e → oj.dst ≠ some e := fun e he => by cases he; exact h2
  unfold wpOp at *
  simp only [hj] at *
  rw [wanted_put oj a (some d) v hd]
  split
  · rename_i hw
    simp only [hw, if_true] at h
    rcases h with h | ⟨hasks, hlets⟩
    case inr => exact .inr ⟨by unfold Oper.asks at *; rw [execOp_put oj hsj a (some d) v hd]; exact hasks, hlets⟩
    refine .inl ?_
    unfold Oper.wp at *
    rw [execOp_put oj hsj a (some d) v hd]
    generalize (execOp a.eval oj).run P w = r at *
    cases r with
    | ok n w' =>
      cases n <;> simp only [Oper.upon] at h ⊢
      case value u => exact ⟨_, Act.put_comm a v u hc, h⟩
      case skip => exact ⟨_, Act.put_comm a v undef hc, h⟩
      case defer dd =>
        refine ⟨_, ?_, h⟩
        rw [Act.put_defers]
        exact Act.put_comm _ v undef hc
      case enter f args =>
        refine Calls.mono h fun e w'' he => ?_
        cases e with
        | returned u => exact ⟨_, Act.put_comm a v u hc, he⟩
        | panicked c => exact he
        | outgrown => exact he
      case row row args => exact Rows.mono h fun u w'' he => ⟨_, Act.put_comm a v u hc, he⟩
    | halt x w' =>
      cases x <;> simp only [Oper.upon] at h ⊢
      case panic u => exact h
  · rename_i hw
    simp only [hw] at h
    exact ⟨_, Act.put_comm a v undef hc, h⟩

theorem wpOp_noPanic {j : Nat} {K : Act → World → Prop} {a : Act} {w : World} (h : wpOp P ops (NoPanic Q) j K a w) : wpOp P ops Q j K a w := by
  have out : LetsOut (NoPanic Q) → LetsOut Q := fun ⟨a, w, h⟩ => ⟨a, w, h⟩
  unfold wpOp at *
  split
  · rename_i hj; simpa only [hj] using h
  · rename_i oj hj
    simp only [hj] at h
    split
    · rename_i hw
      simp only [hw, if_true] at h
      rcases h with h | ⟨hasks, hlets⟩
      case inr => exact .inr ⟨hasks, out hlets⟩
      refine .inl ?_
      unfold Oper.wp at *
      generalize (execOp a.eval oj).run P w = r at *
      cases r with
      | ok n w' =>
        cases n <;> simp only [Oper.upon] at h ⊢
        case value u => exact h
        case skip => exact h
        case defer dd => exact h
        case enter f args =>
          refine Calls.mono h fun e w'' he => ?_
          cases e with
          | returned u => exact he
          | panicked c => exact (he : False).elim
          | outgrown => exact out he
        case row row args => exact h
      | halt x w' =>
        cases x <;> simp only [Oper.upon] at h ⊢
        case panic u => exact (h : False).elim
    · rename_i hw
      simp only [hw] at h
      exact h

theorem wpOp_laid {j : Nat} {oj : Oper} (hj : ops[j]? = some oj) (hsj : ∀ cs b, oj.op ≠ .select cs b) (c : Nat → Bool) (val : Nat → Nat) : ∀ (al : List Al) (K : Act → World → Prop) (a : Act) (w : World), (∀ x ∈ al, x.d ∉ oj.looksAt ops ∧ oj.dst ≠ some x.d) →
    wpOp P ops (NoPanic Q) j K a w → wpOp P ops (NoPanic Q) j (fun a' w' => ∃ a'', a' = laid al c val a'' ∧ K a'' w') (laid al c val a) w
  | [], K, a, w, _, h => wpOp_mono (fun a' w' h' => ⟨a', rfl, h'⟩) h
  | x :: r, K, a, w, hx, h => by
    obtain ⟨h1, h2⟩ := hx x (by simp)
    unfold laid
    cases c x.i
    · exact wpOp_laid hj hsj c val r K a w (fun y hy => hx y (by simp [hy])) h
    · exact wpOp_mono (fun a' w' ⟨a'', e, a3, e3, hK⟩ => ⟨a3, by rw [e, e3]; rfl, hK⟩) (wpOp_laid hj hsj c val r _ _ w (fun y hy => hx y (by simp [hy])) (wpOp_over hj h1 h2 hsj h))

theorem exec_laid {oj : Oper} (hsj : ∀ cs b, oj.op ≠ .select cs b) (c : Nat → Bool) (val : Nat → Nat) : ∀ (al : List Al) (a : Act), (∀ x ∈ al, x.d ∉ oj.looksAt ops) →
    execOp (laid al c val a).eval oj = execOp a.eval oj ∧ Region.wanted oj (yielded ops (laid al c val a).tmps) = Region.wanted oj (yielded ops a.tmps)
  | [], _, _ => ⟨rfl, rfl⟩
  | x :: r, a, hx => by
    have h1 := hx x (by simp)
    have hd : ∀ e, some x.d = some e → e ∉ oj.looksAt ops := fun e he => by cases he; exact h1
    unfold laid
    cases c x.i
    · exact exec_laid hsj c val r a (fun y hy => hx y (by simp [hy]))
    · obtain ⟨e1, e2⟩ := exec_laid hsj c val r (a.put (some x.d) (.pointer (some ⟨val x.i, 0, none⟩))) (fun y hy => hx y (by simp [hy]))
      exact ⟨e1.trans (execOp_put oj hsj a _ _ hd), e2.trans (wanted_put oj a _ _ hd)⟩

/-- Where we are: 'ls' is the order's own account, 'c' which variables have been made. -/
structure At (ops : Array Oper) (al : List Al) (listed ls : Array Bool) (c : Nat → Bool) : Prop where
  size : listed.size = ops.size
  size' : ls.size = ops.size
  both : ∀ j, j < ops.size → listed.getD j true = (ls.getD j true || c j)
  mine : ∀ j, c j = true → ∃ x ∈ al, x.i = j
  none : ∀ x ∈ al, ls.getD x.i true = false

theorem getD_in' {ls : Array Bool} {j : Nat} (h : j < ls.size) : ls.getD j true = ls.getD j false := by simp [h]

theorem mem_ready' {j : Nat} {listed : Array Bool} (hs : listed.size = ops.size) : j ∈ Region.ready md ops listed ↔ listed.getD j true = false ∧ ∃ o, ops[j]? = some o ∧ ∀ e ∈ o.after, Region.binds md e = true → e.on < ops.size ∧ listed.getD e.on true = true := by
  rw [mem_ready]
  constructor
  · rintro ⟨h0, o, ho, h⟩
    refine ⟨h0, o, ho, fun e he hb => ?_⟩
    have h1 := h e he hb
    rcases Nat.lt_or_ge e.on listed.size with h2 | h2
    · exact ⟨hs ▸ h2, by rw [getD_in' h2]; exact h1⟩
    · simp [Array.getElem?_eq_none h2] at h1
  · rintro ⟨h0, o, ho, h⟩
    refine ⟨h0, o, ho, fun e he hb => ?_⟩
    obtain ⟨h1, h2⟩ := h e he hb
    rw [← getD_in' (hs ▸ h1)]
    exact h2

theorem set_size (ls : Array Bool) (i : Nat) : (ls.setIfInBounds i true).size = ls.size := by simp
theorem getD_set (ls : Array Bool) (i j : Nat) (h : i < ls.size) : (ls.setIfInBounds i true).getD j true = (if j = i then true else ls.getD j true) := by
  by_cases hij : j = i
  · subst hij; simp [h]
  · rw [getD_set_ne true (Ne.symm hij), if_neg hij]

theorem fold_al : ∀ (r : List Al) (l : Array Bool) (j : Nat), l.size = ops.size → (∀ x ∈ r, x.i < ops.size) → (r.foldl (fun l x => l.setIfInBounds x.i true) l).size = ops.size ∧ (r.foldl (fun l x => l.setIfInBounds x.i true) l).getD j true = (l.getD j true || r.any (fun x => x.i == j)) := by
  intro r
  induction r with
  | nil => intro l j hs _; exact ⟨hs, by simp⟩
  | cons x r ih =>
    intro l j hs hx
    obtain ⟨h1, h2⟩ := ih (l.setIfInBounds x.i true) j (by simpa using hs) (fun y hy => hx y (by simp [hy]))
    refine ⟨h1, ?_⟩
    rw [List.foldl_cons, h2, getD_set _ _ _ (hs ▸ hx x (by simp)), List.any_cons]
    by_cases hj : j = x.i
    · simp [hj]
    · rw [if_neg hj, show (x.i == j) = false by simp; exact fun e => hj e.symm]
      rfl

section
variable {al : List Al} {listed ls : Array Bool} {c : Nat → Bool}

theorem At.of_ls (A : At ops al listed ls c) {j : Nat} (hj : j ∈ Region.ready md ops ls) (hn : ∀ x ∈ al, x.i ≠ j) : j ∈ Region.ready md ops listed := by
  rw [mem_ready' A.size'] at hj
  rw [mem_ready' A.size]
  obtain ⟨h0, o, ho, h⟩ := hj
  have hjs : j < ops.size := (Array.getElem?_eq_some_iff.1 ho).1
  refine ⟨?_, o, ho, fun e he hb => ?_⟩
  · rw [A.both j hjs, h0]
    cases hc : c j
    · rfl
    · obtain ⟨x, hx, e⟩ := A.mine j hc
      exact absurd e (hn x hx)
  · obtain ⟨h1, h2⟩ := h e he hb
    exact ⟨h1, by rw [A.both _ h1, h2]; rfl⟩

theorem At.to_all (A : At ops al listed ls c) (hx : ∀ x ∈ al, x.i < ops.size) {j : Nat} (hj : j ∈ Region.ready md ops listed) (hn : ∀ x ∈ al, x.i ≠ j) : j ∈ Region.ready md ops (al.foldl (fun l x => l.setIfInBounds x.i true) ls) := by
  rw [mem_ready' A.size] at hj
  rw [mem_ready' (fold_al al ls 0 A.size' hx).1]
  obtain ⟨h0, o, ho, h⟩ := hj
  have hjs : j < ops.size := (Array.getElem?_eq_some_iff.1 ho).1
  refine ⟨?_, o, ho, fun e he hb => ?_⟩
  · rw [A.both j hjs] at h0
    simp only [Bool.or_eq_false_iff] at h0
    rw [(fold_al al ls j A.size' hx).2, h0.1, Bool.false_or, List.any_eq_false]
    intro x hxm
    simpa using hn x hxm
  · obtain ⟨h1, h2⟩ := h e he hb
    refine ⟨h1, ?_⟩
    rw [A.both _ h1] at h2
    rw [(fold_al al ls e.on A.size' hx).2]
    cases hc : c e.on
    · have : ls.getD e.on true = true := by simpa [hc] using h2
      rw [this]; rfl
    · obtain ⟨x, hxm, hxe⟩ := A.mine _ hc
      rw [List.any_eq_true.2 ⟨x, hxm, by simpa using hxe⟩, Bool.or_true]

theorem At.step (A : At ops al listed ls c) {i : Nat} (hin : i < ops.size) (hn : ∀ x ∈ al, x.i ≠ i) : At ops al (listed.setIfInBounds i true) (ls.setIfInBounds i true) c :=
  ⟨by rw [set_size]; exact A.size, by rw [set_size]; exact A.size', fun j hj => by
    rw [getD_set _ _ _ (A.size ▸ hin), getD_set _ _ _ (A.size' ▸ hin)]
    split
    · rfl
    · exact A.both j hj, A.mine, fun x hx => by rw [getD_set _ _ _ (A.size' ▸ hin), if_neg (hn x hx)]; exact A.none x hx⟩

theorem At.made (A : At ops al listed ls c) {x : Al} (hx : x ∈ al) (hin : x.i < ops.size) : At ops al (listed.setIfInBounds x.i true) ls (fun j => if j = x.i then true else c j) :=
  ⟨by rw [set_size]; exact A.size, A.size', fun j hj => by
    rw [getD_set _ _ _ (A.size ▸ hin)]
    split
    · simp
    · exact A.both j hj, fun j hj => by
    split at hj
    · rename_i e; exact ⟨x, hx, e.symm⟩
    · exact A.mine j hj, A.none⟩
end

theorem length_filter_made {al : List Al} {c : Nat → Bool} {x : Al} (hx : x ∈ al) (hi : al.Pairwise (fun x y => x.i ≠ y.i)) (hc : c x.i = false) :
    (al.filter (fun y => !c y.i)).length = (al.filter (fun y => !(if y.i = x.i then true else c y.i))).length + 1 := by
  induction al with
  | nil => cases hx
  | cons y r ih =>
    obtain ⟨h1, h2⟩ := List.pairwise_cons.1 hi
    rcases List.mem_cons.1 hx with rfl | hx
    · have e : r.filter (fun y => !(if y.i = x.i then true else c y.i)) = r.filter (fun y => !c y.i) := List.filter_congr (fun z hz => by rw [if_neg (fun e => h1 z hz e.symm)])
      rw [List.filter_cons_of_pos (by simp [hc]), List.filter_cons_of_neg (by simp), e, List.length_cons]
    · have hne : y.i ≠ x.i := h1 x hx
      have := ih hx h2
      simp only [List.filter_cons, if_neg hne]
      split <;> simp [this]

theorem al_inj {al : List Al} (hai : al.Pairwise (fun x y => x.i ≠ y.i)) {x y : Al} (hx : x ∈ al) (hy : y ∈ al) (e : x.i = y.i) : x = y := by
  induction al with
  | nil => cases hx
  | cons z r ih =>
    obtain ⟨h1, h2⟩ := List.pairwise_cons.1 hai
    rcases List.mem_cons.1 hx with hx | hx
    · rcases List.mem_cons.1 hy with hy | hy
      · rw [hx, hy]
      · exact absurd (by rw [← hx]; exact e) (h1 y hy)
    · rcases List.mem_cons.1 hy with hy | hy
      · exact absurd (by rw [← hy]; exact e.symm) (h1 x hx)
      · exact ih h2 hx hy

theorem wpAnyT_of_M {al : List Al} {w0 : World} {ρ0 : Nat → Bool} (hsel : Region.noSelect ops = true) (hsink : sinks md ops n = true) (hal : okAl ops n al = true) (hai : al.Pairwise (fun x y => x.i ≠ y.i)) (had : al.Pairwise (fun x y => x.d ≠ y.d))
    (π2 : List (Nat × Bool)) (hn : n ≤ ops.size) (hrun : ∀ x ∈ al, ∀ o, ops[x.i]? = some o → ∀ (a : Act) (W : World), (execOp a.eval o).run P W = .ok (.value (.pointer (some ⟨W.heap.size, 0, none⟩))) (W.alloc (.cells x.z x.t))) :
    ∀ (m : Nat) (π : List (Nat × Bool)) (listed ls : Array Bool) (c : Nat → Bool) (val : Nat → Nat) (a : Act) (w W1 : World) (ρ : Nat → Bool), π.length + (al.filter (fun y => !c y.i)).length = m → At ops al listed ls c →
      okM md ops n al π2 π ls = true → wpM P ops Q n (Chg ρ0 w0) al w0.heap.size π2 π ρ W1 a → Below W1.heap.size W1 w → Chg ρ0 w0 w → (∀ b, b < w0.heap.size → ρ b = ρ0 b) → (∀ b, w.heap.size ≤ b → ρ b = false) →
      (∀ x ∈ al, c x.i = true → w.heap[val x.i]? = some (.cells x.z x.t (0, 0)) ∧ ρ (val x.i) = false ∧ w0.heap.size ≤ val x.i) → (∀ x ∈ al, ∀ y ∈ al, x.i ≠ y.i → c x.i = true → c y.i = true → val x.i ≠ val y.i) →
      wpAnyT P md ops Q (Chg ρ0 w0) n (m + π2.length) listed (laid al c val a) w := by
  -- a variable is made
  have mk : ∀ (m : Nat) (π : List (Nat × Bool)) (listed ls : Array Bool) (c : Nat → Bool) (val : Nat → Nat) (a : Act) (w W1 : World) (ρ : Nat → Bool) (x : Al), x ∈ al → c x.i = false → π.length + (al.filter (fun y => !c y.i)).length = m + 1 → At ops al listed ls c →
      okM md ops n al π2 π ls = true → wpM P ops Q n (Chg ρ0 w0) al w0.heap.size π2 π ρ W1 a → Below W1.heap.size W1 w → Chg ρ0 w0 w → (∀ b, b < w0.heap.size → ρ b = ρ0 b) → (∀ b, w.heap.size ≤ b → ρ b = false) →
      (∀ x ∈ al, c x.i = true → w.heap[val x.i]? = some (.cells x.z x.t (0, 0)) ∧ ρ (val x.i) = false ∧ w0.heap.size ≤ val x.i) → (∀ x ∈ al, ∀ y ∈ al, x.i ≠ y.i → c x.i = true → c y.i = true → val x.i ≠ val y.i) →
      (∀ (listed ls : Array Bool) (c : Nat → Bool) (val : Nat → Nat) (a : Act) (w W1 : World) (ρ : Nat → Bool), π.length + (al.filter (fun y => !c y.i)).length = m → At ops al listed ls c →
        okM md ops n al π2 π ls = true → wpM P ops Q n (Chg ρ0 w0) al w0.heap.size π2 π ρ W1 a → Below W1.heap.size W1 w → Chg ρ0 w0 w → (∀ b, b < w0.heap.size → ρ b = ρ0 b) → (∀ b, w.heap.size ≤ b → ρ b = false) →
        (∀ x ∈ al, c x.i = true → w.heap[val x.i]? = some (.cells x.z x.t (0, 0)) ∧ ρ (val x.i) = false ∧ w0.heap.size ≤ val x.i) → (∀ x ∈ al, ∀ y ∈ al, x.i ≠ y.i → c x.i = true → c y.i = true → val x.i ≠ val y.i) →
        wpAnyT P md ops Q (Chg ρ0 w0) n (m + π2.length) listed (laid al c val a) w) →
      wpOp P ops Q x.i (fun a' w' => Chg ρ0 w0 w' ∧ wpAnyT P md ops Q (Chg ρ0 w0) n (m + π2.length) (listed.setIfInBounds x.i true) a' w') (laid al c val a) w := by
    intro m π listed ls c val a w W1 ρ x hx hcx hm A hB h hb hS hρ0 hρ hc hd ih
    obtain ⟨hxn, o, ho, hod, hog, _, hop⟩ := okAl_spec hal hx
    have hr := hrun x hx o ho (laid al c val a) w
    unfold wpOp
    simp only [ho, Region.wanted, hog, if_true]
    refine .inl ?_
    unfold Oper.wp
    rw [hr]
    simp only [Oper.upon, hod]
    have hnew := (MapKept.heap_alloc w (.cells x.z x.t)).1
    refine ⟨hS.alloc _, ?_⟩
    rw [← laid_more c val x hcx w.heap.size al a hx hai had]
    refine ih _ ls _ _ a _ W1 ρ (by have := length_filter_made hx hai hcx; omega) (A.made hx (Nat.lt_of_lt_of_le hxn hn)) hB h (hb.alloc hb.size _) (hS.alloc _) hρ0 (fun b hb' => hρ b (by simp at hb'; omega)) ?_ ?_
    · intro y hy hcy
      split
      · rename_i e
        have : y = x := al_inj hai hy hx e
        subst this
        exact ⟨hnew, hρ _ (Nat.le_refl _), hS.size⟩
      · rename_i e
        rw [if_neg e] at hcy
        obtain ⟨h1, h2, h3⟩ := hc y hy hcy
        exact ⟨by rw [Below.heap_alloc _ _ _ (Array.getElem?_eq_some_iff.1 h1).1]; exact h1, h2, h3⟩
    · intro y hy z hz hne hcy hcz
      have old : ∀ u ∈ al, u.i ≠ x.i → (if u.i = x.i then true else c u.i) = true → val u.i < w.heap.size := fun u hu hne hcu => by
        rw [if_neg hne] at hcu
        exact (Array.getElem?_eq_some_iff.1 (hc u hu hcu).1).1
      by_cases e1 : y.i = x.i
      · have e2 : z.i ≠ x.i := fun e => hne (e1.trans e.symm)
        rw [if_pos e1, if_neg e2]
        exact Nat.ne_of_gt (old z hz e2 hcz)
      · by_cases e2 : z.i = x.i
        · rw [if_neg e1, if_pos e2]
          exact Nat.ne_of_lt (old y hy e1 hcy)
        · rw [if_neg e1] at hcy ⊢
          rw [if_neg e2] at hcz ⊢
          exact hd y hy z hz hne hcy hcz
  intro m
  induction m with
  | zero =>
    intro π listed ls c val a w W1 ρ hm A hB h hb hS hρ0 hρ hc hd
    have hπ : π = [] := List.length_eq_zero_iff.1 (by omega)
    have hdone : ∀ x ∈ al, c x.i = true := fun x hx => by
      have h0 : al.filter (fun y => !c y.i) = [] := List.length_eq_zero_iff.1 (by omega)
      have := List.filter_eq_nil_iff.1 h0 x hx
      simpa using this
    subst hπ
    simp only [okM, Bool.and_eq_true] at hB
    have hx : ∀ x ∈ al, x.i < ops.size := fun x hx => Nat.lt_of_lt_of_le (okAl_spec hal hx).1 hn
    have hl : listed = al.foldl (fun l x => l.setIfInBounds x.i true) ls := by
      apply Array.ext
      · rw [A.size, (fold_al al ls 0 A.size' hx).1]
      · intro j h1 h2
        have hj : j < ops.size := A.size ▸ h1
        have e1 : listed.getD j true = listed[j] := by simp [h1]
        have e2 : (al.foldl (fun l x => l.setIfInBounds x.i true) ls).getD j true = (al.foldl (fun l x => l.setIfInBounds x.i true) ls)[j] := by simp [h2]
        rw [← e1, ← e2, A.both j hj, (fold_al al ls j A.size' hx).2]
        congr 1
        cases hcj : c j
        · symm
          rw [List.any_eq_false]
          intro x hxm hxj
          have := hdone x hxm
          rw [beq_iff_eq.1 hxj, hcj] at this
          cases this
        · obtain ⟨x, hxm, e⟩ := A.mine j hcj
          symm
          exact List.any_eq_true.2 ⟨x, hxm, by simpa using e⟩
    rw [Nat.zero_add]
    have hpi := h w val hb hS (fun x hx => hc x hx (hdone x hx)) (hai.imp_of_mem fun {x y} hx hy hne => hd x hx y hy hne (hdone x hx) (hdone y hy))
    rw [laid_congr c (fun _ => true) val val al a (fun x hx => ⟨hdone x hx, rfl⟩)]
    exact wpAnyT_of_pi hsel hsink π2 listed _ w (by rw [hl]; exact hB.2) hS hpi
  | succ m ih =>
    intro π listed ls c val a w W1 ρ hm A hB h hb hS hρ0 hρ hc hd
    rw [show m + 1 + π2.length = (m + π2.length) + 1 by omega]
    -- which may come up
    have low : ∀ j ∈ Region.ready md ops listed, (∃ i, i < n ∧ listed.getD i false = false) → j < n := fun j hj ⟨i, hi, hu⟩ => by
      rcases Nat.lt_or_ge j n with h1 | h1
      · exact h1
      · have := sinks_spec hsink hi h1 hj
        rw [hu] at this
        cases this
    have unl : ∀ i, i ∈ Region.ready md ops listed → listed.getD i false = false := fun i hr => by
      have h0 := (mem_ready.1 hr).1
      rcases Nat.lt_or_ge i listed.size with h' | h'
      · simpa [h'] using h0
      · simp [Array.getElem?_eq_none h']
    -- a variable that comes up
    have mkv : ∀ j ∈ Region.ready md ops listed, ∀ x ∈ al, x.i = j → wpOp P ops Q j (fun a' w' => Chg ρ0 w0 w' ∧ wpAnyT P md ops Q (Chg ρ0 w0) n (m + π2.length) (listed.setIfInBounds j true) a' w') (laid al c val a) w := by
      rintro j hj x hx rfl
      have hcx : c x.i = false := by
        have h0 := (mem_ready.1 hj).1
        rw [A.both x.i (Nat.lt_of_lt_of_le (okAl_spec hal hx).1 hn)] at h0
        simp only [Bool.or_eq_false_iff] at h0
        exact h0.2
      exact mk m π listed ls c val a w W1 ρ x hx hcx hm A hB h hb hS hρ0 hρ hc hd (ih π)
    cases π with
    | nil =>
      obtain ⟨x, hx, hcx⟩ : ∃ x ∈ al, c x.i = false := by
        have hne : al.filter (fun y => !c y.i) ≠ [] := fun e => by rw [e] at hm; simp at hm
        obtain ⟨x, r, hxr⟩ := List.exists_cons_of_ne_nil hne
        have hxm : x ∈ al.filter (fun y => !c y.i) := by rw [hxr]; simp
        obtain ⟨h1, h2⟩ := List.mem_filter.1 hxm
        exact ⟨x, h1, by simpa using h2⟩
      obtain ⟨hxn, o, ho, _, _, hoa, _⟩ := okAl_spec hal hx
      have hxs : x.i < ops.size := Nat.lt_of_lt_of_le hxn hn
      have hxl : listed.getD x.i true = false := by rw [A.both x.i hxs, A.none x hx, hcx]; rfl
      have hxr : x.i ∈ Region.ready md ops listed := mem_ready.2 ⟨hxl, o, ho, fun e he => by rw [hoa] at he; simp at he⟩
      refine ⟨fun j hj => low j hj ⟨x.i, hxn, unl _ hxr⟩, fun e => (by rw [e] at hxr; cases hxr), fun j hj => ?_⟩
      have hjn : j < n := low j hj ⟨x.i, hxn, unl _ hxr⟩
      simp only [okM, Bool.and_eq_true] at hB
      have hJ := hB.1
      simp only [okJoin, List.all_eq_true, List.mem_range, Bool.or_eq_true, List.any_eq_true, beq_iff_eq] at hJ
      have hjs : j < ops.size := Nat.lt_of_lt_of_le hjn hn
      rcases hJ j hjs with (h3 | ⟨y, hy, h3⟩) | h3
      · have h0 := (mem_ready.1 hj).1
        rw [A.both j hjs, h3] at h0
        cases h0
      · exact mkv j hj y hy h3
      · have h4 := h3 x hx
        obtain ⟨_, o', ho', hall⟩ := mem_ready.1 hj
        rw [ho'] at h4
        obtain ⟨e, he, hbe⟩ := Array.any_eq_true'.1 h4
        simp only [Bool.and_eq_true, beq_iff_eq] at hbe
        have h5 := hall e he hbe.1
        rw [hbe.2, unl _ hxr] at h5
        cases h5
    | cons p r =>
      obtain ⟨i, fr⟩ := p
      simp only [okM, Bool.and_eq_true, decide_eq_true_eq, Bool.not_eq_true', List.any_eq_false, beq_iff_eq, List.contains_iff_mem] at hB
      obtain ⟨⟨⟨⟨⟨hin, hna⟩, hrd⟩, hfr⟩, hapt⟩, hB'⟩ := hB
      have hna' : ∀ x ∈ al, x.i ≠ i := fun x hx e => hna x hx e
      have his : i < ops.size := Nat.lt_of_lt_of_le hin hn
      have hrd' : i ∈ Region.ready md ops listed := A.of_ls hrd hna'
      have hm' : r.length + (al.filter (fun y => !c y.i)).length = m := by simp only [List.length_cons] at hm; omega
      cases fr with
      | true =>
        obtain ⟨o, v, hi, hy, hQ, h⟩ := h
        have hap := okApart hapt hi
        have hsel' := fun cs b => Region.noSelect_spec hsel i o cs b hi
        obtain ⟨e1, e2⟩ := exec_laid (ops := ops) hsel' c val al a (fun x hx => (hap x hx).1)
        have hput := laid_put c val o.dst v al a (fun x hx => (hap x hx).2)
        have hn' := ih r _ _ c val _ w W1 ρ hm' (A.step his hna') hB' h hb hS hρ0 hρ hc hd
        rw [hput] at hn'
        refine wpAnyT_first hi hin (Region.noSelect_spec hsel) hsink (fun c' a' w' hq => ?_) (m + π2.length) listed (laid al c val a) w ?_ hrd' (hy.of_same e1 e2) hS hn'
        · exact hQ c' a' w' hq
        · intro j oj hj hne hu hno
          have hjs : j < ops.size := (Array.getElem?_eq_some_iff.1 hj).1
          refine Region.free_spec hi hfr j oj hj hne ?_ hno
          rw [A.both j hjs] at hu
          simp only [Bool.or_eq_false_iff] at hu
          exact hu.1
      | false =>
        simp only [Bool.false_eq_true, if_false, List.all_eq_true, Bool.or_eq_true, beq_iff_eq, List.any_eq_true] at hfr
        refine ⟨fun j hj => low j hj ⟨i, hin, unl _ hrd'⟩, fun e => (by rw [e] at hrd'; cases hrd'), fun j hj => ?_⟩
        have hjn : j < n := low j hj ⟨i, hin, unl _ hrd'⟩
        by_cases hja : ∃ x ∈ al, x.i = j
        · obtain ⟨x, hx, e⟩ := hja
          exact mkv j hj x hx e
        · have hja' : ∀ x ∈ al, x.i ≠ j := fun x hx e => hja ⟨x, hx, e⟩
          have hji : j = i := by
            rcases hfr j (A.to_all (fun x hx => Nat.lt_of_lt_of_le (okAl_spec hal hx).1 hn) hj hja') with h3 | ⟨x, hx, h3⟩
            · exact h3
            · exact absurd h3 (hja' x hx)
          subst hji
          obtain ⟨o, hi⟩ : ∃ o, ops[j]? = some o := ⟨ops[j], by simp [his]⟩
          have hap := okApart hapt hi
          have h1 := wpOp_laid hi (fun cs b => Region.noSelect_spec hsel j o cs b hi) c val al _ a w hap (h w hb hS)
          refine wpOp_mono (fun a' w' h2 => ?_) (wpOp_noPanic h1)
          obtain ⟨a'', rfl, ρ', hC, hag, hhi, hM⟩ := h2
          have hS' : Chg ρ0 w0 w' := hS.trans hC (fun b hb1 hb2 => by rw [← hρ0 b hb1]; exact hb2)
          refine ⟨hS', ih r _ _ c val a'' w' w' ρ' hm' (A.step his hna') hB' hM (Below.refl _ _) hS' (fun b hb1 => (hag b (Nat.lt_of_lt_of_le hb1 hS.size)).trans (hρ0 b hb1)) hhi (fun x hx hcx => ?_) hd⟩
          obtain ⟨h3, h4, h5⟩ := hc x hx hcx
          have h6 := (Array.getElem?_eq_some_iff.1 h3).1
          exact ⟨(hC.block _ h6 h4).trans h3, (hag _ h6).trans h4, h5⟩

/-- All that is asked of the order, by program. -/
def okRegion (l : List Oper) (n : Nat) (π : List (Nat × Bool)) (al : List Al) (π2 : List (Nat × Bool)) : Bool :=
  Region.noSelect l.toArray && sinks .any l.toArray n && okAl l.toArray n al && okM .any l.toArray n al π2 π (Array.replicate l.length false) &&
    decide (n ≤ l.length) && decide (π.length + al.length + π2.length = n) && decide ((al.map (·.i)).Nodup) && decide ((al.map (·.d)).Nodup)

/-- **A region that draws its order, by one walk.** ρ0: the blocks that it may write of those that are there. -/
theorem wp_region_M {id : Nat} {l : List Oper} {a : Act} {w : World} (n : Nat) (π : List (Nat × Bool)) (al : List Al) (π2 : List (Nat × Bool)) (ρ0 : Nat → Bool) (hm : P.follows .mixedOrders = true) (hB : okRegion l n π al π2 = true)
    (hrun : ∀ x ∈ al, ∀ W : World, (Instr.alloc x.t true (.tuple #[])).run P W = .ok (.pointer (some ⟨W.heap.size, 0, none⟩)) (W.alloc (.cells x.z x.t)))
    (hlt : ∀ b, w.heap.size ≤ b → ρ0 b = false)
    (h : wpM P l.toArray Q n (Chg ρ0 w.drew) al w.heap.size π2 π ρ0 w.drew a) : (Code.region id l.toArray true).wp P Q a w := by
  simp only [okRegion, Bool.and_eq_true, decide_eq_true_eq] at hB
  obtain ⟨⟨⟨⟨⟨⟨⟨h1, h2⟩, h3⟩, h5⟩, h6⟩, h7⟩, h8⟩, h9⟩ := hB
  have hai : al.Pairwise (fun x y => x.i ≠ y.i) := List.pairwise_map.1 h8
  have had : al.Pairwise (fun x y => x.d ≠ y.d) := List.pairwise_map.1 h9
  refine wp_region_any hm ?_
  have hc0 : al.filter (fun y => !(fun _ : Nat => false) y.i) = al := List.filter_eq_self.2 (fun _ _ => rfl)
  have hlaid : ∀ (al : List Al) (val : Nat → Nat) (a : Act), laid al (fun _ => false) val a = a := by
    intro al val
    induction al with
    | nil => intro a; rfl
    | cons x r ih => intro a; exact ih a
  have hrun' : ∀ x ∈ al, ∀ o, l.toArray[x.i]? = some o → ∀ (a : Act) (W : World), (execOp a.eval o).run P W = .ok (.value (.pointer (some ⟨W.heap.size, 0, none⟩))) (W.alloc (.cells x.z x.t)) := fun x hx o ho a W => by
    obtain ⟨_, o', ho', _, _, _, hop⟩ := okAl_spec h3 hx
    rw [ho] at ho'
    cases ho'
    simp only [execOp, hop, Sem.run_bind, hrun x hx W, Result.andThen_ok, Sem.run_pure]
  have H := wpAnyT_of_M (md := .any) (w0 := w.drew) (ρ0 := ρ0) h1 h2 h3 hai had π2 (by simpa using h6) hrun' (π.length + al.length) π (Array.replicate l.length false) (Array.replicate l.length false) (fun _ => false) (fun _ => 0) a w.drew w.drew ρ0 (by rw [hc0])
    ⟨by simp, by simp, fun j hj => by simp, fun j h => (by cases h), fun x hx => ?_⟩ h5 h (Below.refl _ _) (Chg.refl _ _) (fun _ _ => rfl) hlt (fun x hx h => by cases h) (fun x hx y hy hne h => by cases h)
  · have := wpAny_of_T _ _ _ _ H
    have e9 : n + (l.toArray.size - n) = l.toArray.size := by rw [List.size_toArray]; omega
    rw [h7, e9] at this
    rw [hlaid] at this
    simpa using this
  · have h0 := (okAl_spec h3 hx).1
    have : x.i < l.length := by omega
    simp [this]

section
variable {S : World → Prop} {al : List Al} {B : Nat} {π2 : List (Nat × Bool)} {ρ : Nat → Bool} {W1 : World} {i : Nat} {o : Oper} {r : List (Nat × Bool)} {a : Act}

theorem M_free {l : List Oper} (hi : nth l i = some o) (hw : Region.wanted o (yielded l.toArray a.tmps) = true)
    (h : ∃ v, (∀ w, S w → (execOp a.eval o).run P w = .ok (.value v) w) ∧ (∀ c a w, Q (.panic c) (a.put o.dst v) w → Q (.panic c) a w) ∧ wpM P l.toArray Q n S al B π2 r ρ W1 (a.put o.dst v)) : wpM P l.toArray Q n S al B π2 ((i, true) :: r) ρ W1 a :=
  let ⟨v, hr, hQ, h⟩ := h
  ⟨o, v, nth_ops hi, .inl ⟨hw, hr⟩, hQ, h⟩
theorem M_skip {l : List Oper} (hi : nth l i = some o) (hw : Region.wanted o (yielded l.toArray a.tmps) = false) (hQ : ∀ c a w, Q (.panic c) (a.put o.dst undef) w → Q (.panic c) a w)
    (h : wpM P l.toArray Q n S al B π2 r ρ W1 (a.put o.dst undef)) : wpM P l.toArray Q n S al B π2 ((i, true) :: r) ρ W1 a :=
  ⟨o, undef, nth_ops hi, .inr ⟨hw, rfl⟩, hQ, h⟩
/-- An operation that comes up alone, and may write. -/
theorem M_step {l : List Oper} (hi : nth l i = some o) (hw : Region.wanted o (yielded l.toArray a.tmps) = true)
    (h : ∀ W, Below W1.heap.size W1 W → S W → ∀ K : Act → World → Prop, (∀ a' W' ρ', Chg ρ W W' → (∀ b, b < W.heap.size → ρ' b = ρ b) → (∀ b, W'.heap.size ≤ b → ρ' b = false) → wpM P l.toArray Q n S al B π2 r ρ' W' a' → K a' W') → o.wp P a W K (NoPanic Q)) :
    wpM P l.toArray Q n S al B π2 ((i, false) :: r) ρ W1 a := by
  intro W hb hS
  unfold wpOp
  simp only [nth_ops hi, hw, if_true]
  exact .inl (h W hb hS _ (fun a' W' ρ' h1 h2 h3 h4 => ⟨ρ', h1, h2, h3, h4⟩))
/-- .. that writes nothing that was there. -/
theorem M_read {l : List Oper} (hi : nth l i = some o) (hw : Region.wanted o (yielded l.toArray a.tmps) = true) (hρ : ∀ b, W1.heap.size ≤ b → ρ b = false)
    (h : ∀ W, Below W1.heap.size W1 W → S W → ∀ K : Act → World → Prop, (∀ a' W', Below W.heap.size W W' → wpM P l.toArray Q n S al B π2 r ρ W' a' → K a' W') → o.wp P a W K (NoPanic Q)) :
    wpM P l.toArray Q n S al B π2 ((i, false) :: r) ρ W1 a :=
  M_step hi hw fun W hb hS K hK => h W hb hS K fun a' W' h1 h2 => hK a' W' ρ (Chg.of_below h1) (fun _ _ => rfl) (fun b hb' => hρ b (Nat.le_trans (Nat.le_trans hb.size h1.size) hb')) h2
theorem M_pass {l : List Oper} (hi : nth l i = some o) (hw : Region.wanted o (yielded l.toArray a.tmps) = false) (hρ : ∀ b, W1.heap.size ≤ b → ρ b = false) (h : ∀ W, Below W1.heap.size W1 W → wpM P l.toArray Q n S al B π2 r ρ W (a.put o.dst undef)) :
    wpM P l.toArray Q n S al B π2 ((i, false) :: r) ρ W1 a := by
  intro W hb hS
  unfold wpOp
  simp only [nth_ops hi, hw, Bool.false_eq_true, if_false]
  exact ⟨ρ, Chg.refl _ _, fun _ _ => rfl, fun b hb' => hρ b (Nat.le_trans hb.size hb'), h W hb⟩
theorem wp_val {Q0 : Exit → Act → World → Prop} {K : Act → World → Prop} {W W' : World} {v : Value} (h : (execOp a.eval o).run P W = .ok (.value v) W') (hK : K (a.put o.dst v) W') : o.wp P a W K Q0 := by
  unfold Oper.wp
  rw [h]
  exact hK
theorem wp_enter {Q0 : Exit → Act → World → Prop} {K : Act → World → Prop} {W : World} {f : FuncId} {args : Array Value} {post : Ending → World → Prop} (h : (execOp a.eval o).run P W = .ok (.enter f args) W) (hc : Calls P f args W post)
    (hK : ∀ e W', post e W' → ∃ v, e = .returned v ∧ K (a.put o.dst v) W') : o.wp P a W K Q0 := by
  unfold Oper.wp
  rw [h]
  refine hc.mono fun e W' he => ?_
  obtain ⟨v, rfl, h⟩ := hK e W' he
  exact h
/-- An operation that comes up alone, and answers a value. -/
theorem M_val {l : List Oper} (hi : nth l i = some o) (hw : Region.wanted o (yielded l.toArray a.tmps) = true) (hρ : ∀ b, W1.heap.size ≤ b → ρ b = false)
    (h : ∀ W, Below W1.heap.size W1 W → S W → ∃ v W', (execOp a.eval o).run P W = .ok (.value v) W' ∧ Below W.heap.size W W' ∧ wpM P l.toArray Q n S al B π2 r ρ W' (a.put o.dst v)) : wpM P l.toArray Q n S al B π2 ((i, false) :: r) ρ W1 a :=
  M_read hi hw hρ fun W hB hS _ hK => let ⟨_, _, h1, h2, h3⟩ := h W hB hS; wp_val h1 (hK _ _ h2 h3)
/-- A call that writes nothing that was there. -/
theorem M_call {l : List Oper} (hi : nth l i = some o) (hw : Region.wanted o (yielded l.toArray a.tmps) = true) (hρ : ∀ b, W1.heap.size ≤ b → ρ b = false)
    (h : ∀ W, Below W1.heap.size W1 W → S W → ∃ f args post, (execOp a.eval o).run P W = .ok (.enter f args) W ∧ Calls P f args W post ∧
      ∀ e W', post e W' → ∃ v, e = .returned v ∧ Below W.heap.size W W' ∧ wpM P l.toArray Q n S al B π2 r ρ W' (a.put o.dst v)) : wpM P l.toArray Q n S al B π2 ((i, false) :: r) ρ W1 a :=
  M_read hi hw hρ fun W hB hS _ hK => let ⟨_, _, _, h1, h2, h3⟩ := h W hB hS
    wp_enter h1 h2 fun e W' he => let ⟨v, hv, hb, hm⟩ := h3 e W' he; ⟨v, hv, hK _ _ hb hm⟩
/-- A call that writes blocks of ρ, and of σ from now on. -/
theorem M_callW {l : List Oper} (hi : nth l i = some o) (hw : Region.wanted o (yielded l.toArray a.tmps) = true)
    (h : ∀ W, Below W1.heap.size W1 W → S W → ∃ f args post, (execOp a.eval o).run P W = .ok (.enter f args) W ∧ Calls P f args W post ∧
      ∀ e W', post e W' → ∃ v ρ', e = .returned v ∧ Chg ρ W W' ∧ (∀ b, b < W.heap.size → ρ' b = ρ b) ∧ (∀ b, W'.heap.size ≤ b → ρ' b = false) ∧ wpM P l.toArray Q n S al B π2 r ρ' W' (a.put o.dst v)) : wpM P l.toArray Q n S al B π2 ((i, false) :: r) ρ W1 a :=
  M_step hi hw fun W hB hS _ hK => let ⟨_, _, _, h1, h2, h3⟩ := h W hB hS
    wp_enter h1 h2 fun e W' he => let ⟨v, _, hv, hb, e1, e2, hm⟩ := h3 e W' he; ⟨v, hv, hK _ _ _ hb e1 e2 hm⟩
/-- The tail, where no variable is made: in some world that comes of W1 by new blocks. -/
theorem M_end0 {l : List Oper} (h : ∀ W, Below W1.heap.size W1 W → S W → wpList P l.toArray Q (l.drop n) a W) : wpM P l.toArray Q n S [] B [] [] ρ W1 a := fun W _ hb hS _ _ => h W hb hS
/-- The tail: in some world that comes of W1 by new blocks. -/
theorem M_end {l : List Oper} (h : ∀ W val, Below W1.heap.size W1 W → S W → (∀ x ∈ al, W.heap[val x.i]? = some (.cells x.z x.t (0, 0)) ∧ ρ (val x.i) = false ∧ B ≤ val x.i) → al.Pairwise (fun x y => val x.i ≠ val y.i) →
    wpPi P l.toArray Q S n π2 (laid al (fun _ => true) val a) W) : wpM P l.toArray Q n S al B π2 [] ρ W1 a := h
end

end
end Go.Proofs.YtjhfjllgjgnmeaaGreat

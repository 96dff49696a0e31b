/- Arguments of a law, opened: an api.Value, a slice of them. -/
import Derived.Test.YtjhfjllgjgnmeaaGreatSt
import Derived.ProofKit
import Derived.OpenShut
import Derived.ShutString
import Derived.ChangeOld
import Derived.Deep.Slices
import Derived.Deep.Fields
namespace Go.Proofs.YtjhfjllgjgnmeaaGreat
open Go.ChangeShapes Go.WideShapes Go.ChangeAt Go.RowKit Go.Deep
open Go.ChangeMaps (open_string shut_string)

theorem ownK : ownKnob Tryz.prog.godebug = none := by kernel_rfl

theorem len3 {α : Type} : ∀ (l : List α), l.length = 3 → ∃ a b c, l = [a, b, c]
  | [a, b, c], _ => ⟨a, b, c, rfl⟩

section
variable {H : Type} {enc : TypeId × Value → H} {w : World} {base : Nat} {spare : Nat → Bool} {held : Bool}

/-- An api.Value's cells. -/
theorem open_V {n : Nat} {cs : List Value} {y : DataW H × List MemPlace} (h : DataW.trod enc Tryz.prog w base spare held n 24 cs = some y) : ∃ x : V, cs = x.cells := by
  obtain ⟨xs, m, _, _, hl, hxl, hf⟩ := DataW.trod_struct Tryz.underlying24 h
  rw [cellsOfV] at hl
  obtain ⟨c0, c1, c2, rfl⟩ := len3 cs hl
  obtain ⟨y0, y1, y2, rfl⟩ := len3 xs hxl
  have h0 := hf 0 _ rfl
  have h1 := hf 1 _ rfl
  have h2 := hf 2 _ rfl
  change DataW.trod enc Tryz.prog w base spare held m 3 (List.take (Tryz.prog.cellsOf 3) [c0, c1, c2]) = some y0 at h0
  change DataW.trod enc Tryz.prog w base spare held m 2 (List.take (Tryz.prog.cellsOf 2) [c1, c2]) = some y1 at h1
  change DataW.trod enc Tryz.prog w base spare held m 9 (List.take (Tryz.prog.cellsOf 9) [c2]) = some y2 at h2
  rw [cellsOfInt] at h0
  rw [cellsOfI] at h1
  rw [cellsOfStr] at h2
  obtain ⟨k, e0, _, w0⟩ := DataW.trod_int Tryz.underlying3 (x := y0) (cs := [c0]) h0
  obtain ⟨n, e1, _, w1⟩ := DataW.trod_int Tryz.underlying2 (x := y1) (cs := [c1]) h1
  obtain ⟨s, e2, _, w2⟩ := DataW.trod_string Tryz.underlying9 (x := y2) (cs := [c2]) h2
  simp only [List.cons.injEq, and_true] at e0 e1 e2
  exact ⟨⟨k, n, s, w0, w1, w2⟩, by simp [V.cells, e0, e1, e2]⟩

theorem list_of {P : Nat → V → Prop} : ∀ n : Nat, (∀ i, i < n → ∃ x, P i x) → ∃ l : List V, l.length = n ∧ ∀ i x, l[i]? = some x → P i x
  | 0, _ => ⟨[], rfl, fun i x h => by simp at h⟩
  | n + 1, h => by
    obtain ⟨l, hl, hp⟩ := list_of n (fun i hi => h i (by omega))
    obtain ⟨x, hx⟩ := h n (by omega)
    refine ⟨l ++ [x], by simp [hl], fun i y hy => ?_⟩
    rcases Nat.lt_or_ge i l.length with h1 | h1
    · rw [List.getElem?_append_left h1] at hy
      exact hp i y hy
    · rw [List.getElem?_append_right h1] at hy
      have : i - l.length = 0 := by
        rcases Nat.eq_zero_or_pos (i - l.length) with h2 | h2
        · exact h2
        · rw [List.getElem?_eq_none (by simp; omega)] at hy
          cases hy
      rw [this] at hy
      simp only [List.getElem?_cons_zero, Option.some.injEq] at hy
      subst hy
      rw [show i = n by omega]
      exact hx

theorem addr_add (b o j : Nat) : (⟨b, o, Option.none⟩ : Addr).add j = ⟨b, o + j, Option.none⟩ := by unfold Addr.add; split <;> simp_all

/-- A slice of api.Values. -/
theorem open_Vs {fuel : Nat} {a : Option Addr} {len cap : Nat} {x : DataW H × List MemPlace} (h : DataW.trod enc Tryz.prog w base spare held fuel 59 [.slice a len cap] = some x) : ∃ l : List V, l.length = len ∧ RowV w (.slice a len cap) l := by
  rcases open_slice Tryz.underlying59 h with ⟨hcs, _⟩ | ⟨a', len', cap', m, n, D, Pl, hcs, _, hl, hm, hmm, _, hi⟩
  · simp only [List.cons.injEq, Value.slice.injEq, and_true] at hcs
    obtain ⟨rfl, rfl, rfl⟩ := hcs
    exact ⟨[], rfl, .inl ⟨rfl, .inl rfl⟩⟩
  · simp only [List.cons.injEq, Value.slice.injEq, and_true] at hcs
    obtain ⟨rfl, rfl, rfl⟩ := hcs
    have hlm : len ≤ m := by rw [hmm]; split <;> omega
    by_cases h0 : len = 0
    · subst h0
      exact ⟨[], rfl, .inl ⟨rfl, .inr ⟨_, _, rfl⟩⟩⟩
    · have hP : ∀ i, i < len → ∃ x : V, w.cell? (a'.add (i * 3)) = some (.int .i64 x.k) ∧ w.cell? ((a'.add (i * 3)).add 1) = some (.int .i64 x.n) ∧ w.cell? ((a'.add (i * 3)).add 2) = some (.string x.s) := fun i hi' => by
        obtain ⟨cs', hc, ht⟩ := hi i (by omega)
        obtain ⟨x, rfl⟩ := open_V ht
        rw [cellsOfV] at hc
        obtain ⟨_, _, hat⟩ := World.cells?_some hc
        have c0 := hat 0 (by omega)
        have c1 := hat 1 (by omega)
        have c2 := hat 2 (by omega)
        refine ⟨x, ?_, c1.trans rfl, c2.trans rfl⟩
        have e0 : (a'.add (i * 3)).add 0 = a'.add (i * 3) := by simp [Addr.add]
        rw [e0] at c0
        exact c0.trans rfl
      obtain ⟨b, o, sp⟩ := a'
      obtain ⟨x0, hx0, _⟩ := hP 0 (by omega)
      have hsp : sp = Option.none := by simpa [Addr.add] using World.cell?_spot hx0
      subst hsp
      obtain ⟨l, hll, hlp⟩ := list_of len hP
      refine ⟨l, hll, .inr ⟨b, o, cap, by rw [hll], fun i x hx => ?_⟩⟩
      obtain ⟨c0, c1, c2⟩ := hlp i x hx
      rw [addr_add] at c0 c1 c2
      rw [addr_add] at c1 c2
      exact ⟨c0, c1, c2⟩

end

end Go.Proofs.YtjhfjllgjgnmeaaGreat

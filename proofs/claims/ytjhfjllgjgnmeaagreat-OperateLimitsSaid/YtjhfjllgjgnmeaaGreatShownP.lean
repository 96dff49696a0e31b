/- What law16.shown tells: the plain part. -/
import Derived.Test.YtjhfjllgjgnmeaaGreatLaw16
namespace Go.Proofs.YtjhfjllgjgnmeaaGreat
open Go.RowKit Go.Maps

def vA : V := ⟨3, 0, ⟨#[97]⟩, by decide, by decide, by decide⟩
def v1 : V := ⟨2, 1, ByteArray.empty, by decide, by decide, by simp⟩
def vY : V := ⟨1, 1, ByteArray.empty, by decide, by decide, by simp⟩
def vR (n : Int) (h : (Lit.int .i64 n).wf = true) : V := V.ref n h
def H1 : PH := PH.empty.made 2 ByteArray.empty 0 [vA]
def vt : V := V.ref 1 (by decide)
def H2 : PH := H1.made 1 ByteArray.empty 0 [v1, vY, vt]
def vl : V := V.ref 2 (by decide)

theorem H1_last : H1.last = 1 := rfl
theorem H2_last : H2.last = 2 := rfl
theorem H2_obj1 : H2.obj 1 = some ⟨2, ByteArray.empty, 0, [vA], []⟩ := by rfl
theorem H2_obj2 : H2.obj 2 = some ⟨1, ByteArray.empty, 0, [v1, vY, vt], []⟩ := by rfl

theorem kl : H2.kind vl = 1 := rfl
theorem kt : H2.kind vt = 2 := rfl
theorem kA : H2.kind vA = 0 := rfl
theorem k1 : H2.kind v1 = 0 := rfl
theorem kY : H2.kind vY = 0 := rfl
theorem il : H2.items vl = [v1, vY, vt] := rfl
theorem it : H2.items vt = [vA] := rfl

theorem shownOk : TellOk H2 30 vl := by
  refine .inl ⟨rfl, by rw [kl]; decide, ?_⟩
  rw [il]
  intro x hx
  simp only [List.mem_cons, List.not_mem_nil, or_false] at hx
  rcases hx with rfl | rfl | rfl
  · exact .inr ⟨rfl, by decide, by decide, by decide⟩
  · exact .inr ⟨rfl, by decide, by decide, by decide⟩
  · refine .inl ⟨rfl, by rw [kt]; decide, ?_⟩
    rw [it]
    intro x hx
    simp only [List.mem_cons, List.not_mem_nil, or_false] at hx
    subst hx
    exact .inr ⟨rfl, by decide, by decide, by decide⟩

/-- What the list is told as. -/
theorem shownText : reprS H2 vl = ⟨[91, 49, 44, 32, 84, 114, 117, 101, 44, 32, 40, 39, 97, 39, 44, 41, 93], ByteArray.empty⟩ := by
  have w1 : H2.whole vl = true := rfl
  have w2 : H2.whole vt = true := rfl
  have w3 : H2.whole vA = false := rfl
  have w4 : H2.whole v1 = false := rfl
  have w5 : H2.whole vY = false := rfl
  have p1 : plainS v1 = [49] := by
    simp [plainS, v1, textB, digits]
  have p2 : plainS vY = [84, 114, 117, 101] := rfl
  have p3 : plainS vA = [39, 97, 39] := by decide
  have t1 : ∀ st : St, st.name = ByteArray.empty → tellS H2 29 v1 st = sayS st [49] := fun st h => by rw [tellS, if_neg (by simpa using h), if_pos w4, p1]
  have t2 : ∀ st : St, st.name = ByteArray.empty → tellS H2 29 vY st = sayS st [84, 114, 117, 101] := fun st h => by rw [tellS, if_neg (by simpa using h), if_pos w5, p2]
  have t3 : ∀ st : St, st.name = ByteArray.empty → tellS H2 28 vA st = sayS st [39, 97, 39] := fun st h => by rw [tellS, if_neg (by simpa using h), if_pos w3, p3]
  have t4 : ∀ st : St, st.name = ByteArray.empty → tellS H2 29 vt st = rowS ⟨#[40, 44, 41]⟩ 1 (fun i => tellS H2 28 ([vA].getD i V.none)) st := fun st h => by
    rw [tellS, if_neg (by simpa using h), if_neg (by rw [w2]; decide), if_neg (by rw [kt]; decide), if_pos kt, it]
    rfl
  rw [reprS, tellS, if_neg (by simp), if_neg (by rw [w1]; decide), if_pos kl, il]
  have say : ∀ l s : List UInt8, l.length + s.length ≤ 65536 → sayS ⟨l, ByteArray.empty⟩ s = ⟨l ++ s, ByteArray.empty⟩ := fun l s h => by rw [sayS, if_neg (by simp), if_neg (by show ¬ 65536 < l.length + s.length; omega)]
  have x1 : ((⟨#[91, 93]⟩ : ByteArray).extract 0 1).data.toList = [91] := by decide
  have x2 : ((⟨#[91, 93]⟩ : ByteArray).extract 1 (⟨#[91, 93]⟩ : ByteArray).size).data.toList = [93] := by decide
  have x5 : (⟨#[40, 44, 41]⟩ : ByteArray).size = 3 := rfl
  rw [rowS, x1, x2]
  simp [rowTo, say, t1, t2, t3, t4, rowS, x5]

end Go.Proofs.YtjhfjllgjgnmeaaGreat

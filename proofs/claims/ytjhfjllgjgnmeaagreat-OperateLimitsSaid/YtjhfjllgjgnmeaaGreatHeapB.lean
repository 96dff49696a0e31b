/- Package heap: New, Make, Replace and what they lean on. -/
import Derived.Test.YtjhfjllgjgnmeaaGreatRepl
namespace Go.Proofs.YtjhfjllgjgnmeaaGreat
open Go.RowKit Go.Maps
attribute [local go_sem] World.cell?_alloc_some

theorem dictNew_any (w : World) : Calls Tryz.prog 154 #[] w fun e w' => e = .returned (.pointer (some ⟨w.heap.size + 1, 0, none⟩)) ∧ w' = (w.alloc (.map #[] 0)).alloc (.cells #[.map (some w.heap.size), .slice none 0 0] 239) := by
  have hmm := @run_makeMap Tryz.prog
  go_enter Tryz.func154, Tryz.ntmps154
  go_wp2
  go_ret
  exact ⟨rfl, rfl⟩

/-- A return of one api.Value that lies in a variable. -/
theorem ret_V {fn : Func} {R : Ending → World → Prop} {a : Act} {w : World} {p : Tmp} (hres : fn.results = #[.cell p 24]) {g : Nat} {x0 x1 x2 : Value} (hp : a.tmps.getD p undef = .pointer (some ⟨g, 0, none⟩)) (hg : w.heap[g]? = some (.cells #[x0, x1, x2] 24 (0, 0)))
    (hd : a.defers = []) (hR : R (.returned (.agg #[x0, x1, x2])) w) : bodyPost Tryz.prog fn R .ret a w :=
  bodyPost_ret (results_cell_row hres _ _ g 24 _ (0, 0) _ hp hg Tryz.underlying24 rfl (by kernel_rfl)) hd hR

/-- A heap without objects. -/
def PH.empty : PH := ⟨0, fun _ => none⟩

theorem heapNew_any (w : World) : Calls Tryz.prog 33 #[] w fun e w' => ∃ τ hb, e = .returned (.pointer (some ⟨hb, 0, none⟩)) ∧ HeapAt w' τ hb PH.empty ∧ Below w.heap.size w w' ∧ ∀ b, own τ b = true → w.heap.size ≤ b := by
  have hmm := @run_makeMap Tryz.prog
  go_enter Tryz.func33, Tryz.ntmps33
  go_wp2
  go_ret
  refine ⟨fun b => if b = w.heap.size + 2 then some (0, 10) else if b = w.heap.size then some (0, 11) else if b = w.heap.size + 1 then some (0, 12) else none, w.heap.size + 2, by simp, ?_, bal (bal (bal (b0 _) _) _) _, ?_⟩
  · have h0 := MapAt.new Tryz.prog 2 w
    have h1 := MapAt.new Tryz.prog 2 (w.alloc (.map #[] 0))
    refine ⟨w.heap.size, w.heap.size + 1, fun _ => 0, ?_⟩
    have hbk := (MapKept.heap_alloc ((w.alloc (.map #[] 0)).alloc (.map #[] 0)) (.cells #[.map (some w.heap.size), .map (some (w.heap.size + 1)), .int .i64 0] 155)).1
    rw [show ((w.alloc (.map #[] 0)).alloc (.map #[] 0)).heap.size = w.heap.size + 2 by simp] at hbk
    refine { blk := hbk, all := ⟨_, _, (h0.same ?_), fun n _ => rfl⟩, refs := ⟨_, _, ((by simpa using h1) : MapAt Tryz.prog 2 _ (w.heap.size + 1) _ _).same ?_, by simp⟩, obj := by simp [PH.empty], range := by simp [PH.empty], last0 := by simp [PH.empty], last1 := by simp [PH.empty], thb := by simp, tma := by simp, tmr := by simp, lt := ?_ }
    · rw [Below.heap_alloc _ _ _ (by simp only [World.size_alloc]; omega), Below.heap_alloc _ _ _ (by simp)]
    · rw [Below.heap_alloc _ _ _ (by simp)]
    · intro b hb
      simp only [World.size_alloc]
      split at hb
      · omega
      · split at hb
        · omega
        · split at hb
          · omega
          · cases hb
  · intro b hb
    replace hb : (if b = w.heap.size + 2 then some ((0 : Int), 10) else if b = w.heap.size then some (0, 11) else if b = w.heap.size + 1 then some (0, 12) else none).isSome = true := hb
    split at hb
    · omega
    · split at hb
      · omega
      · split at hb
        · omega
        · cases hb

theorem PH.bounds {w : World} {τ : Tag} {hb : Nat} {H : PH} {ma mr : Nat} {pb : Int → Nat} (h : HeapIs w τ hb H ma mr pb) : 0 ≤ H.last ∧ H.last ≤ 1099511627776 := ⟨h.last0, h.last1⟩

theorem wf64 {n : Int} (h1 : -9223372036854775808 ≤ n) (h2 : n ≤ 9223372036854775807) : (Lit.int .i64 n).wf = true := by
  simp only [Lit.wf, Bool.and_eq_true, decide_eq_true_eq]
  exact ⟨h1, h2⟩

/-- The value of an object. -/
def V.ref (n : Int) (h : (Lit.int .i64 n).wf = true) : V := ⟨4, n, ByteArray.empty, by decide, h, by simp⟩

/-- A heap with one more object. -/
def PH.made (H : PH) (kind : Int) (name : ByteArray) (num : Int) (items : List V) : PH := ⟨H.last + 1, upd H.obj (H.last + 1) (some ⟨kind, name, num, items, []⟩)⟩

theorem upd_upd {α : Type} (f : Int → α) (n : Int) (u v : α) : upd (upd f n u) n v = upd f n v := by funext k; unfold upd; split <;> rfl

open Classical in
/-- A new object without items is put. -/
theorem HeapIs.fresh {w w' : World} {τ : Tag} {hb : Nat} {H : PH} {ma mr : Nat} {pb : Int → Nat} (h : HeapIs w τ hb ⟨H.last + 1, H.obj⟩ ma mr pb) (kind : Int) (name : ByteArray) (num : Int) (hk1 : 1 ≤ kind) (hk2 : kind ≤ 12) (hl0 : 0 ≤ H.last) {ob db am B : Nat}
    (hB : ∀ b, (τ b).isSome = true → b < B) (h1 : B ≤ am) (h2 : B ≤ db) (h3 : B ≤ ob) (h4 : am ≠ db) (h5 : am ≠ ob) (h6 : db ≠ ob) (hg : w.grownBy w' (some ma)) {m : Value → Option Value} {c : Nat}
    (hm : MapAt Tryz.prog 2 w' ma (fun y => if y = .int .i64 (H.last + 1) then some (.pointer (some ⟨ob, 0, none⟩)) else m y) c) (hv : ∀ n, (Lit.int .i64 n).wf = true → m (.int .i64 n) = (H.obj n).map (fun _ => .pointer (some ⟨pb n, 0, none⟩)))
    (hob : w'.heap[ob]? = some (.cells #[.int .i64 kind, .string name, .int .i64 num, .slice none 0 0, .pointer (some ⟨db, 0, none⟩)] 178 (0, 0)))
    (hdb : w'.heap[db]? = some (.cells #[.map (some am), .slice none 0 0] 239 (0, 0))) (ham : w'.heap[am]? = some (.map #[] 0)) :
    ∃ τ', HeapIs w' τ' hb (H.made kind name num []) ma mr (upd pb (H.last + 1) ob) ∧ (∀ b, b < B → τ' b = τ b) ∧ ∀ b, τ' b ≠ none → τ b = none → b = ob ∨ b = db ∨ b = am := by
  have big : ∀ b, B ≤ b → τ b = none := fun b hb' => by
    cases ht : τ b with
    | none => rfl
    | some t => have := hB b (by rw [ht]; rfl); omega
  let τ' : Tag := fun b => if b = ob then some (H.last + 1, 0) else if b = db then some (H.last + 1, 2) else if b = am then some (H.last + 1, 3) else τ b
  have small : ∀ b, b < B → τ' b = τ b := fun b hb' => by
    show (if b = ob then _ else if b = db then _ else if b = am then _ else τ b) = τ b
    rw [if_neg (by omega), if_neg (by omega), if_neg (by omega)]
  have to : τ' ob = some (H.last + 1, 0) := if_pos rfl
  have td : τ' db = some (H.last + 1, 2) := (if_neg h6).trans (if_pos rfl)
  have ta : τ' am = some (H.last + 1, 3) := (if_neg h5).trans ((if_neg h4).trans (if_pos rfl))
  have hs : ∀ b t, τ b = some t → t ≠ (0, 11) → w'.heap[b]? = w.heap[b]? := fun b t hb' h1 => hg.block b (h.lt b (by rw [hb']; rfl)) (fun e => by
    cases e
    rw [h.tma] at hb'
    exact h1 (Option.some.inj hb').symm)
  refine ⟨τ', h.put (H.last + 1) ⟨kind, name, num, [], []⟩ ob (fun b t hb' => small b (hB b (by rw [hb']; rfl))) (fun b hb' => ?_) (by omega) (Int.le_refl _) (fun b t hb' _ h2 _ => hs b t hb' h2) (h.refs.same (hs _ _ h.tmr (by simp))) ⟨_, _, hm, fun k hk => ?_⟩ ?_, small, fun b hb' h0 => ?_⟩
  · replace hb' : (if b = ob then some (H.last + 1, 0) else if b = db then some (H.last + 1, 2) else if b = am then some (H.last + 1, 3) else τ b).isSome = true := hb'
    split at hb'
    · subst b; exact (Array.getElem?_eq_some_iff.1 hob).1
    · split at hb'
      · subst b; exact (Array.getElem?_eq_some_iff.1 hdb).1
      · split at hb'
        · subst b; exact (Array.getElem?_eq_some_iff.1 ham).1
        · exact Nat.lt_of_lt_of_le (h.lt b hb') hg.size
  · dsimp only
    by_cases e : k = H.last + 1
    · subst e
      rw [if_pos rfl, upd_same, upd_same]
      rfl
    · rw [if_neg (by intro e2; cases e2; exact e rfl), upd_other _ _ e, upd_other _ _ e]
      exact hv k hk
  · refine ⟨.slice none 0 0, db, { blk := hob, row := World.ownsRow_nil _ _ _ _, dict := ⟨am, .slice none 0 0, [], { blk := hdb, map := ⟨fun _ => none, ⟨#[], 0, ham, MapKept.stamped_empty 0, by simp, fun x => (findV_none (by simp)).symm, rfl⟩, fun v => rfl⟩, row := World.ownsRow_nil _ _ _ _, live := rfl, nodup := by simp, small := by simp, tdb := td, tam := ta, trow := fun b hb' => by cases hb' }⟩, tob := to, trow := fun b hb' => (by cases hb'), small := by simp, kind1 := hk1, kind2 := hk2 }⟩
  · by_cases e1 : b = ob
    · exact .inl e1
    · by_cases e2 : b = db
      · exact .inr (.inl e2)
      · by_cases e3 : b = am
        · exact .inr (.inr e3)
        · exfalso
          apply hb'
          show (if b = ob then _ else if b = db then _ else if b = am then _ else τ b) = none
          rw [if_neg e1, if_neg e2, if_neg e3]
          exact h0

set_option maxRecDepth 100000 in
set_option maxHeartbeats 800000 in
theorem Make_any {w : World} {τ : Tag} {hb : Nat} {H : PH} (h : HeapAt w τ hb H) (kind : Int) (name : ByteArray) (num : Int) (iv : Value) (items : List V) (hk : 1 ≤ kind ∧ kind ≤ 12) (hi : RowV w iv items) (hlen : items.length ≤ 268435456) (hbig : H.last < 1099511627776) :
    Calls Tryz.prog 37 #[.pointer (some ⟨hb, 0, none⟩), .int .i64 kind, .string name, .int .i64 num, iv] w fun e w' => e = .returned (.agg #[.int .i64 4, .int .i64 (H.last + 1), .string ByteArray.empty]) ∧ ∃ τ', HeapAt w' τ' hb (H.made kind name num items) ∧ Chg (own τ) w w' ∧ TagOn w τ τ' := by
  obtain ⟨ma, mr, pb, h⟩ := h
  have htl := h.lt
  obtain ⟨hc, hf, hlt⟩ := cells_of_block h.blk
  have c0 := hc 0; have c2 := hc 2; have f2 := hf 2
  simp at c0 c2
  have hl0 := h.last0
  have hl1 := h.last1
  obtain ⟨hk1, hk2⟩ := hk
  have HL := Lib.hid hlen
  clear hlen
  go_enter Tryz.func37, Tryz.ntmps37
  go_wp2
  have hI := (h.next (by omega)).below (bal (b0 _) (.cells #[.int .i64 0, .int .i64 0, .string ⟨#[]⟩] 24))
  have hR : ((w.setCell ⟨hb, 2, none⟩ (.int .i64 (H.last + 1))).alloc (.cells #[.int .i64 0, .int .i64 0, .string ⟨#[]⟩] 24)).heap[w.heap.size]? = some (.cells #[.int .i64 0, .int .i64 0, .string ⟨#[]⟩] 24 (0, 0)) := by
    have := (MapKept.heap_alloc (w.setCell ⟨hb, 2, none⟩ (.int .i64 (H.last + 1))) (.cells #[.int .i64 0, .int .i64 0, .string ⟨#[]⟩] 24)).1
    simpa using this
  have hib : ∀ b, iv.ownBlock = some b → items ≠ [] → b ≠ hb ∧ b ≠ ma := by
    intro b hb' hne
    rcases hi with ⟨rfl, _⟩ | ⟨b', off, cap, rfl, hcc⟩
    · exact absurd rfl hne
    · cases hb'
      cases items with
      | nil => exact absurd rfl hne
      | cons x r =>
        obtain ⟨k0, k1, _⟩ := hcc 0 x rfl
        obtain ⟨m, c, hm, _⟩ := h.all
        refine ⟨fun e => ?_, hm.ne_cell k0⟩
        rw [show b' = hb from e, hc] at k0 k1
        match off, k0, k1 with
        | 0, k0, _ => simp at k0
        | 1, k0, _ => simp at k0
        | 2, _, k1 => simp at k1
        | n + 3, k0, _ => simp at k0
  have hτ : own τ hb = true ∧ own τ ma = true := by simp [own, h.thb, h.tma]
  have hC : Chg (fun b => b == hb || b == ma) w ((w.setCell ⟨hb, 2, none⟩ (.int .i64 (H.last + 1))).alloc (.cells #[.int .i64 0, .int .i64 0, .string ⟨#[]⟩] 24)) := ((Chg.refl _ _).setCell (fun _ => by simp) _).alloc _
  generalize (w.setCell ⟨hb, 2, none⟩ (.int .i64 (H.last + 1))).alloc (.cells #[.int .i64 0, .int .i64 0, .string ⟨#[]⟩] 24) = W2 at hI hR hC ⊢
  have hsz2 : w.heap.size < W2.heap.size := (Array.getElem?_eq_some_iff.1 hR).1
  clear hc hf c0 c2 f2 h
  obtain ⟨hc, hf, hlt2⟩ := cells_of_block hI.blk
  have d0 : ∀ W, Chg (fun _ => false) W2.drew W → W.cell? ⟨hb, 0, none⟩ = some (.map (some ma)) := fun W hW => (hW.cell hlt2 rfl).trans ((hc 0).trans rfl)
  have d2 : ∀ W, Chg (fun _ => false) W2.drew W → W.cell? ⟨hb, 2, none⟩ = some (.int .i64 (H.last + 1)) := fun W hW => (hW.cell hlt2 rfl).trans ((hc 2).trans rfl)
  clear hc hf
  refine wp_region_M 14 [(0, true), (1, true), (2, true), (3, true), (4, true), (5, true), (6, true), (7, true), (8, true), (9, true), (10, true), (11, false), (12, true), (13, false)] [] [] (fun _ => false) (by kernel_rfl) (by kernel_rfl) (by simp) (fun _ _ => rfl) ?_
  iterate 11
    refine M_free rfl (by rfl) ?_
    apply Exists.intro
    refine ⟨fun W hW => ?_, ?_, ?_⟩
    · first | (go_simp; done) | (go_simp; with_reducible rfl)
    · exact fun _ _ _ h => h
    simp only [Act.put, List.setIfInBounds_toArray, List.set_cons_zero, List.set_cons_succ]
  refine M_call rfl (by rfl) (fun _ _ => rfl) fun W hB hS => ?_
  refine ⟨_, _, _, by go_simp, dictNew_any W, ?_⟩
  rintro e W3 ⟨rfl, hW3⟩
  have hB3 : Below W.heap.size W W3 := by rw [hW3]; exact bal (bal (b0 _) _) _
  have hdm : W3.heap[W.heap.size]? = some (.map #[] 0) := by
    rw [hW3, Below.heap_alloc _ _ _ (by simp)]
    exact (MapKept.heap_alloc W _).1
  have hdd : W3.heap[W.heap.size + 1]? = some (.cells #[.map (some W.heap.size), .slice none 0 0] 239 (0, 0)) := by
    rw [hW3]
    have := (MapKept.heap_alloc (W.alloc (.map #[] 0)) (.cells #[.map (some W.heap.size), .slice none 0 0] 239)).1
    simpa using this
  clear hW3
  refine ⟨_, rfl, hB3, ?_⟩
  simp only [Act.put, List.setIfInBounds_toArray, List.set_cons_zero, List.set_cons_succ]
  refine M_free rfl (by rfl) ?_
  apply Exists.intro
  refine ⟨fun W hW => ?_, ?_, ?_⟩
  · first | (go_simp; done) | (go_simp; with_reducible rfl)
  · exact fun _ _ _ h => h
  simp only [Act.put, List.setIfInBounds_toArray, List.set_cons_zero, List.set_cons_succ]
  refine M_val rfl (by rfl) (fun _ _ => rfl) fun W5 hB5 hS5 => ?_
  apply Exists.intro
  apply Exists.intro
  refine ⟨by go_simp; exact ⟨rfl, rfl⟩, bal (b0 _) _, ?_⟩
  simp only [Act.put, List.setIfInBounds_toArray, List.set_cons_zero, List.set_cons_succ]
  refine M_end0 fun W6 hB6 hS6 => ?_
  have h6 : HeapIs W6 τ hb ⟨H.last + 1, H.obj⟩ ma mr pb := hI.same hS6.size (fun b hb' => (hS6.block b (hI.lt b hb') rfl).trans rfl)
  have s1 : W2.heap.size ≤ W.heap.size := hS.size
  have s2 : W.heap.size + 1 < W3.heap.size := (Array.getElem?_eq_some_iff.1 hdd).1
  have s3 := hB5.size
  have hob6 : W6.heap[W5.heap.size]? = some (.cells #[.int .i64 kind, .string name, .int .i64 num, .slice none 0 0, .pointer (some ⟨W.heap.size + 1, 0, none⟩)] 178 (0, 0)) := (hB6.block _ (by simp)).trans (MapKept.heap_alloc W5 _).1
  have old6 : ∀ b, b < W3.heap.size → W6.heap[b]? = W3.heap[b]? := fun b hb' => (hB6.block b (by simp only [World.size_alloc]; omega)).trans ((Below.heap_alloc _ _ _ (by omega)).trans (hB5.block b hb'))
  have hdd6 := (old6 _ s2).trans hdd
  have hdm6 := (old6 _ (by omega)).trans hdm
  obtain ⟨m, c, hm, hv⟩ := h6.all
  have hkey := keyOfI (wf64 (n := H.last + 1) (by omega) (by omega))
  refine wpList_update_at _ rfl (.tmp 33) (.tmp 37) (.tmp 43) 152 rfl 2 174 keyedI Tryz.underlying152 ma m c rfl hm _ _ _ rfl rfl hkey ?_
  intro w7 hm7 hg7
  have old7 : ∀ b, b ≠ ma → b < W6.heap.size → w7.heap[b]? = W6.heap[b]? := fun b hb' hlt => hg7.block b hlt (fun e => hb' (by cases e; rfl))
  have nma : ∀ b, W2.heap.size ≤ b → b ≠ ma := fun b hb' e => by
    have := hI.lt ma (by rw [hI.tma]; rfl)
    omega
  obtain ⟨τ', h7, hsm, hnew⟩ := h6.fresh kind name num hk1 hk2 hl0 (B := W2.heap.size) (fun b hb' => hI.lt b hb') (am := W.heap.size) (db := W.heap.size + 1) (ob := W5.heap.size) s1 (by omega) (by omega) (by omega) (by omega) (by omega) hg7 hm7 hv
    ((old7 _ (nma _ (by omega)) (Array.getElem?_eq_some_iff.1 hob6).1).trans hob6) ((old7 _ (nma _ (by omega)) (Array.getElem?_eq_some_iff.1 hdd6).1).trans hdd6) ((old7 _ (nma _ (by omega)) (Array.getElem?_eq_some_iff.1 hdm6).1).trans hdm6)
  have hC7 : Chg (fun b => b == hb || b == ma) w w7 := (hC.trans (ρ' := fun _ => false) ((Chg.refl _ _).drew.trans hS6 (fun _ _ h => h)) (fun _ _ h => by cases h)).grown hg7 (fun k hk _ => by cases hk; simp)
  have hR7 : w7.heap[w.heap.size]? = some (.cells #[.int .i64 0, .int .i64 0, .string ⟨#[]⟩] 24 (0, 0)) := by
    have hne : w.heap.size ≠ ma := fun e => by have := htl ma (by simpa [own] using hτ.2); omega
    exact (old7 _ hne (by have : W2.heap.size ≤ W6.heap.size := hS6.size; omega)).trans ((hS6.block _ (by exact hsz2) rfl).trans hR)
  have hi7 : RowV w7 iv items := by
    by_cases hne : items = []
    · subst hne
      rcases hi with h | ⟨b, off, cap, rfl, _⟩
      · exact .inl h
      · exact .inl ⟨rfl, .inr ⟨_, _, rfl⟩⟩
    · refine hi.same (fun b e => hC7.block b (hi.lt hne b e) ?_)
      simp [hib b e hne]
  have hT7 : TagOn w τ τ' := fun b hb' => hsm b (by omega)
  have hC7' := hC7.mono (ρ' := own τ) (fun b _ hb' => by
    simp only [Bool.or_eq_true, beq_iff_eq] at hb'
    rcases hb' with rfl | rfl
    · exact hτ.1
    · exact hτ.2)
  have hw7 : τ' w.heap.size = none := by
    rw [hsm _ hsz2]
    cases ht : τ w.heap.size with
    | none => rfl
    | some t => have := htl _ (by rw [ht]; rfl); omega
  clear hm7 hg7 old7 hm hv hkey old6 hdd6 hdm6 hob6 hdm hdd h6 hB6 hS6 hB5 hS5 hB3 hB hS hI hR hC hi hC7 d0 d2
  obtain ⟨hcR, hfR, hltR⟩ := cells_of_block hR7
  obtain ⟨hcH, hfH, hltH⟩ := cells_of_block h7.blk
  have cH2 := hcH 2
  simp at cH2
  clear hcH hfH
  go_wp2_with fail
  have hwf := wf64 (n := H.last + 1) (by omega) (by omega)
  have hof : (H.made kind name num []).of (V.ref (H.last + 1) hwf) = some ⟨kind, name, num, [], []⟩ := by simp [PH.of, V.ref, PH.made, upd]
  have h7' := h7.below (bal (b0 _) (.cells #[.int .i64 4, .int .i64 (H.last + 1), .string ByteArray.empty] 24))
  have hi7' : RowV (w7.alloc (.cells #[.int .i64 4, .int .i64 (H.last + 1), .string ByteArray.empty] 24)) iv items := hi7.chg (ρ := fun _ => false) (Chg.of_below (bal (b0 _) _)) (fun _ _ => rfl)
  refine (Replace_any (v := V.ref (H.last + 1) hwf) ⟨_, _, _, h7'⟩ 0 0 iv items hi7' HL.out (fun o ho => by rw [hof] at ho; cases ho; simp)).mono ?_
  rintro e w8 ⟨rfl, τ2, h8, hC8, hT8⟩
  have hrep : (H.made kind name num []).replace (V.ref (H.last + 1) hwf) 0 0 items = H.made kind name num items := by
    unfold PH.replace
    rw [hof]
    simp [PH.made, cut, V.ref, upd_upd]
  rw [hrep] at h8
  have hv8 : w8.heap[w7.heap.size]? = some (.cells #[.int .i64 4, .int .i64 (H.last + 1), .string ByteArray.empty] 24 (0, 0)) := by
    refine (hC8.block _ (by simp) ?_).trans (MapKept.heap_alloc w7 _).1
    cases ht : τ' w7.heap.size with
    | none => simp [own, ht]
    | some t => have := h7.lt _ (by rw [ht]; rfl); omega
  have hR8 := (hC8.block _ (by simp only [World.size_alloc]; omega) (by simp [own, hw7])).trans ((Below.heap_alloc w7 (.cells #[.int .i64 4, .int .i64 (H.last + 1), .string ByteArray.empty] 24) _ hltR).trans hR7)
  obtain ⟨hcR8, hfR8, _⟩ := cells_of_block hR8
  obtain ⟨hcv8, _, _⟩ := cells_of_block hv8
  have r0 := hcR8 0
  have r1 := hcR8 1
  have r2 := hcR8 2
  have v0 := hcv8 0
  have v1 := hcv8 1
  have v2 := hcv8 2
  have g0 := hfR8 0
  have g1 := hfR8 1
  have g2 := hfR8 2
  simp at r0 r1 r2 v0 v1 v2
  have hne := Nat.ne_of_lt hltR
  have hlt8 : w.heap.size < w8.heap.size := (Array.getElem?_eq_some_iff.1 hR8).1
  clear hcR hfR hcR8 hfR8 hcv8 cH2
  go_wp2
  have hR9 := heap_setCell_same (o := 2) (u := .string ByteArray.empty) (heap_setCell_same (o := 1) (u := .int .i64 (H.last + 1)) (heap_setCell_same (o := 0) (u := .int .i64 4) hR8))
  refine ret_V rfl rfl hR9 rfl ⟨rfl, τ2, h8.chg (ρ := fun b => b == w.heap.size) ?_ ?_, ?_, ?_⟩
  · exact (((Chg.refl _ _).setCell (fun _ => by simp) _).setCell (fun _ => by simp) _).setCell (fun _ => by simp) _
  · intro b hb'
    simp only [beq_eq_false_iff_ne]
    rintro rfl
    have := hT8 w.heap.size (by simp only [World.size_alloc]; omega)
    simp only [own, this, hw7] at hb'
    cases hb'
  · refine (((Chg.setCell ?_ ?_ _).setCell ?_ _).setCell ?_ _)
    · exact (hC7'.alloc _).trans hC8 (fun b hb' h => by simpa [own, hT7 b hb'] using h)
    all_goals exact fun h => absurd h (Nat.lt_irrefl _)
  · exact fun b hb' => (hT8 b (by simp only [World.size_alloc]; have := hC7'.size; omega)).trans (hT7 b hb')
end Go.Proofs.YtjhfjllgjgnmeaaGreat
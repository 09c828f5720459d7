/- The assembler's working memory: the block of a 'laying'. -/
import Derived.Test.YtpjdkdphklgfjaaDoorZero
import Derived.Test.YtpjdkdphklgfjaaDoorLay
import Derived.Maps.OwnOps
import Derived.Deep.AppendLies
import Derived.Deep.RegionLaw
import Derived.Deep.DeepCutAuto
import Derived.Deep.CutBlock
import Derived.Deep.LoopGhost
import Derived.Test.YtpjdkdphklgfjaaDoorSource4
import Derived.Deep.RegionHeldLaw
import Derived.Maps.Range
namespace Go.Proofs.YtpjdkdphklgfjaaDoor
open Go.RowKit Go.Shelf
set_option linter.unusedVariables false
set_option linter.unusedSimpArgs false

/-- A laying at block y: the items' slice, the addresses' slice, the labels' map, what lies at each address, the bytes. -/
structure LayAt (w : World) (y : Nat) (lv av mv : Value) (K M : Nat → Int) : Prop where
  c0 : w.cell? ⟨y, 0, none⟩ = some lv
  c1 : w.cell? ⟨y, 1, none⟩ = some av
  c2 : w.cell? ⟨y, 2, none⟩ = some mv
  kinds : ∀ i, i < 65536 → w.cell? ⟨y, 3 + i, none⟩ = some (.int .u8 (K i))
  bytes : ∀ i, i < 65536 → w.cell? ⟨y, 65539 + i, none⟩ = some (.int .u8 (M i))
  free : ∀ o, w.frozen? ⟨y, o, none⟩ = false

/-- A laying lives on where its block is as it was. -/
theorem LayAt.kept {w w1 : World} {y : Nat} {lv av mv : Value} {K M : Nat → Int} (h : LayAt w y lv av mv K M) (hb : w1.heap[y]? = w.heap[y]?) : LayAt w1 y lv av mv K M := by
  have e : ∀ o, w1.cell? ⟨y, o, none⟩ = w.cell? ⟨y, o, none⟩ := fun o => World.cell?_of_block (w := w) hb
  have f : ∀ o, w1.frozen? ⟨y, o, none⟩ = w.frozen? ⟨y, o, none⟩ := fun o => World.frozen?_of_block (w := w) hb
  exact ⟨(e _).trans h.c0, (e _).trans h.c1, (e _).trans h.c2, fun i hi => (e _).trans (h.kinds i hi), fun i hi => (e _).trans (h.bytes i hi), fun o => (f o).trans (h.free o)⟩
theorem LayAt.lt {w : World} {y : Nat} {lv av mv : Value} {K M : Nat → Int} (h : LayAt w y lv av mv K M) : y < w.heap.size := cell_lt h.c0
theorem LayAt.below {w w1 : World} {y : Nat} {lv av mv : Value} {K M : Nat → Int} (h : LayAt w y lv av mv K M) (hb : Below w.heap.size w w1) : LayAt w1 y lv av mv K M := h.kept (hb.block y h.lt)
theorem LayAt.alloc {w : World} {y : Nat} {lv av mv : Value} {K M : Nat → Int} (h : LayAt w y lv av mv K M) (o : Obj) : LayAt (w.alloc o) y lv av mv K M := h.below (below_new w o)
theorem LayAt.drew {w : World} {y : Nat} {lv av mv : Value} {K M : Nat → Int} (h : LayAt w y lv av mv K M) : LayAt w.drew y lv av mv K M := ⟨h.c0, h.c1, h.c2, h.kinds, h.bytes, h.free⟩

theorem set_same {w : World} {b o : Nat} {u v : Value} (h : w.cell? ⟨b, o, none⟩ = some u) : (w.setCell ⟨b, o, none⟩ v).cell? ⟨b, o, none⟩ = some v := by
  simp only [World.cell?, World.setCell, Array.getElem?_modify] at h ⊢
  simp only [if_true]
  cases hx : w.heap[b]? with
  | none => rw [hx] at h; cases h
  | some ob =>
    rw [hx] at h
    cases ob
    case cells c ty =>
      simp at h ⊢
      obtain ⟨hlt, _⟩ := Array.getElem?_eq_some_iff.1 h
      rw [Array.getElem?_setIfInBounds, if_pos rfl, if_pos hlt]
    all_goals cases h
theorem set_other {w : World} {b o b' o' : Nat} {v : Value} (hne : ¬ (b = b' ∧ o = o')) : (w.setCell ⟨b, o, none⟩ v).cell? ⟨b', o', none⟩ = w.cell? ⟨b', o', none⟩ := by
  simp only [World.cell?, World.setCell, Array.getElem?_modify]
  by_cases hb : b = b'
  · subst hb
    have ho : o ≠ o' := fun e => hne ⟨rfl, e⟩
    simp only [if_true]
    cases hx : w.heap[b]? with
    | none => rfl
    | some ob =>
      cases ob <;> simp [ho]
  · rw [if_neg hb]
theorem set_frozen {w : World} {b o b' o' : Nat} {v : Value} : (w.setCell ⟨b, o, none⟩ v).frozen? ⟨b', o', none⟩ = w.frozen? ⟨b', o', none⟩ := by
  simp only [World.frozen?, World.setCell, Array.getElem?_modify]
  by_cases hb : b = b'
  · subst hb
    simp only [if_true]
    cases hx : w.heap[b]? with
    | none => rfl
    | some ob => cases ob <;> rfl
  · rw [if_neg hb]

/-- A kind is written. -/
theorem LayAt.setKind {w : World} {y : Nat} {lv av mv : Value} {K M : Nat → Int} (h : LayAt w y lv av mv K M) (i : Nat) (hi : i < 65536) (v : Int) :
    LayAt (w.setCell ⟨y, 3 + i, none⟩ (.int .u8 v)) y lv av mv (fun j => if j = i then v else K j) M := by
  refine ⟨(set_other (by omega)).trans h.c0, (set_other (by omega)).trans h.c1, (set_other (by omega)).trans h.c2, fun j hj => ?_, fun j hj => (set_other (by omega)).trans (h.bytes j hj), fun o => set_frozen.trans (h.free o)⟩
  by_cases e : j = i
  · subst e; rw [if_pos rfl]; exact set_same (h.kinds j hj)
  · rw [if_neg e]; exact (set_other (by omega)).trans (h.kinds j hj)
/-- A byte is written. -/
theorem LayAt.setByte {w : World} {y : Nat} {lv av mv : Value} {K M : Nat → Int} (h : LayAt w y lv av mv K M) (i : Nat) (hi : i < 65536) (v : Int) :
    LayAt (w.setCell ⟨y, 65539 + i, none⟩ (.int .u8 v)) y lv av mv K (fun j => if j = i then v else M j) := by
  refine ⟨(set_other (by omega)).trans h.c0, (set_other (by omega)).trans h.c1, (set_other (by omega)).trans h.c2, fun j hj => (set_other (by omega)).trans (h.kinds j hj), fun j hj => ?_, fun o => set_frozen.trans (h.free o)⟩
  by_cases e : j = i
  · subst e; rw [if_pos rfl]; exact set_same (h.bytes j hj)
  · rw [if_neg e]; exact (set_other (by omega)).trans (h.bytes j hj)
/-- The addresses' slice is written. -/
theorem LayAt.setAts {w : World} {y : Nat} {lv av mv : Value} {K M : Nat → Int} (h : LayAt w y lv av mv K M) (v : Value) :
    LayAt (w.setCell ⟨y, 1, none⟩ v) y lv v mv K M :=
  ⟨(set_other (by omega)).trans h.c0, set_same h.c1, (set_other (by omega)).trans h.c2, fun j hj => (set_other (by omega)).trans (h.kinds j hj), fun j hj => (set_other (by omega)).trans (h.bytes j hj), fun o => set_frozen.trans (h.free o)⟩

/-- A new laying. -/
theorem LayAt.start (w : World) (lv mv : Value) :
    LayAt (w.alloc (.cells ((Tryd.zeroCells74.setIfInBounds 0 lv).setIfInBounds 2 mv) 74)) w.heap.size lv (.slice none 0 0) mv (fun _ => 0) (fun _ => 0) := by
  have hz := zero_cells
  have hs := Tryd.zeroCells74_size
  generalize Tryd.zeroCells74 = Z at hz hs
  obtain ⟨t, ht, hall⟩ := hz
  have hlen : t.length = 131072 := by
    have := congrArg List.length ht
    simp only [Array.length_toList, List.length_cons] at this
    omega
  have hZ : ∀ i, Z[i]? = (Value.slice none 0 0 :: Value.slice none 0 0 :: Value.map none :: t)[i]? := fun i => by rw [← ht, Array.getElem?_toList]
  have hg : ∀ i, (((Z.setIfInBounds 0 lv).setIfInBounds 2 mv))[i]? = (if i = 2 then some mv else if i = 0 then some lv else Z[i]?) := by
    intro i
    rw [Array.getElem?_setIfInBounds, Array.getElem?_setIfInBounds]
    by_cases h2 : 2 = i
    · subst h2; rw [if_pos rfl, if_pos rfl, if_pos (by rw [Array.size_setIfInBounds]; omega)]
    · rw [if_neg h2, if_neg (Ne.symm h2)]
      by_cases h0 : 0 = i
      · subst h0; rw [if_pos rfl, if_pos rfl, if_pos (by omega)]
      · rw [if_neg h0, if_neg (Ne.symm h0)]
  have hb : ∀ i, i < 131072 → Z[3 + i]? = some (.int .u8 0) := by
    intro i hi
    rw [hZ, show 3 + i = i + 1 + 1 + 1 by omega]
    simp only [List.getElem?_cons_succ]
    have hi' : i < t.length := by omega
    rw [List.getElem?_eq_getElem hi']
    exact congrArg some (hall _ (List.getElem_mem hi'))
  refine ⟨?_, ?_, ?_, fun i hi => ?_, fun i hi => ?_, fun o => ?_⟩
  · rw [World.cell?_alloc_new, hg, if_neg (by omega), if_pos rfl]
  · rw [World.cell?_alloc_new, hg, if_neg (by omega), if_neg (by omega), hZ]; rfl
  · rw [World.cell?_alloc_new, hg, if_pos rfl]
  · rw [World.cell?_alloc_new, hg, if_neg (by omega), if_neg (by omega)]; exact hb i (by omega)
  · rw [World.cell?_alloc_new, hg, if_neg (by omega), if_neg (by omega), show 65539 + i = 3 + (65536 + i) by omega]; exact hb _ (by omega)
  · simp
end Go.Proofs.YtpjdkdphklgfjaaDoor

/- The first pass: what lives on from step to step. -/
namespace Go.Proofs.YtpjdkdphklgfjaaDoor
open Go.RowKit Go.Shelf Go.Maps
set_option linter.unusedVariables false
set_option linter.unusedSimpArgs false

theorem grown_below {w w1 : World} (h : Below w.heap.size w w1) (row : Option Nat) : w.grownBy w1 row := ⟨h.os, h.tape, h.output, h.size, fun k hk _ => h.block k hk⟩
theorem below_grown {B : Nat} {w0 w w1 : World} {row : Option Nat} (h : Below B w0 w) (hg : w.grownBy w1 row) (hs : B ≤ w.heap.size) (hr : ∀ k, row = some k → B ≤ k) : Below B w0 w1 :=
  ⟨hg.os.trans h.os, hg.tape.trans h.tape, hg.output.trans h.output, Nat.le_trans h.size hg.size, fun k hk => (hg.block k (by omega) (fun e => by have := hr k e.symm; omega)).trans (h.block k hk)⟩

theorem grown_set (W : World) (b o : Nat) (v : Value) : W.grownBy (W.setCell ⟨b, o, none⟩ v) (some b) :=
  ⟨rfl, rfl, rfl, by simp [World.setCell], fun k _ hk => RowKit.Below.heap_setCell _ _ _ _ (fun e => hk (by rw [e]))⟩

/-- Where a run's own blocks lie: the laying y, the map m, the box of the pointer, below base; all behind what came in. -/
structure Apart (w0 : World) (y m base : Nat) : Prop where
  y0 : w0.heap.size ≤ y
  m0 : w0.heap.size ≤ m
  ne : y ≠ m
  yb : y < base
  mb : m < base

structure Going (w0 wr : World) (y m base box : Nat) (lv av : Value) (s : LayS) : Prop where
  below : Below w0.heap.size w0 wr
  lay : LayAt wr y lv av (.map (some m)) s.K (fun _ => 0)
  row : wr.ownsRow base 3 1 av s.ats.length (s.ats.map (Value.int .i64))
  own : wr.ownsMap Tryd.prog 9 (plainElem Tryd.prog 3) m s.labs.length (mapOf s.labs)
  hb : base ≤ wr.heap.size
  boxc : wr.cell? ⟨box, 0, none⟩ = some (.pointer (some ⟨y, 0, none⟩))

theorem Going.keep {w0 wr w1 : World} {y m base box : Nat} {lv av : Value} {s : LayS} (g : Going w0 wr y m base box lv av s) (h : Below wr.heap.size wr w1) : Going w0 w1 y m base box lv av s :=
  have hg := grown_below h none
  ⟨below_grown g.below hg g.below.size (by simp), g.lay.below h, g.row.kept hg (by cases hv : av.ownBlock <;> simp), g.own.kept hg (by simp), Nat.le_trans g.hb h.size, cell_below h g.boxc⟩
theorem Going.alloc {w0 wr : World} {y m base box : Nat} {lv av : Value} {s : LayS} (g : Going w0 wr y m base box lv av s) (o : Obj) : Going w0 (wr.alloc o) y m base box lv av s := g.keep (below_new _ _)
theorem Going.drew {w0 wr : World} {y m base box : Nat} {lv av : Value} {s : LayS} (g : Going w0 wr y m base box lv av s) : Going w0 wr.drew y m base box lv av s := g.keep (Below.refl _ _).drew

/-- A kind is written. -/
theorem Going.setKind {w0 wr : World} {y m base box : Nat} {lv av : Value} {s : LayS} (g : Going w0 wr y m base box lv av s) (ap : Apart w0 y m base) (hbx : box ≠ y) (i : Nat) (hi : i < 65536) (v : Int) :
    Going w0 (wr.setCell ⟨y, 3 + i, none⟩ (.int .u8 v)) y m base box lv av { s with K := fun j => if j = i then v else s.K j } := by
  have hg : wr.grownBy (wr.setCell ⟨y, 3 + i, none⟩ (.int .u8 v)) (some y) := grown_set _ _ _ _
  refine ⟨below_grown g.below hg g.below.size (by intro k e; cases e; exact ap.y0), g.lay.setKind i hi v, g.row.kept hg ?_, g.own.setCell (Ne.symm ap.ne) _, Nat.le_trans g.hb hg.size, (set_other (by omega)).trans g.boxc⟩
  rcases hv : av.ownBlock with _ | k
  · simp
  · have := (g.row.lt k hv).1
    have := ap.yb
    right
    intro e
    cases e
    omega

/-- An address is told behind the others. -/
theorem Going.append {w0 wr w1 : World} {y m base box : Nat} {lv av av1 : Value} {s : LayS} (g : Going w0 wr y m base box lv av s) (ap : Apart w0 y m base) (hbx : box ≠ y) (hbb : box < base)
    (hown : w1.ownsRow base 3 1 av1 (s.ats.length + 1) (s.ats.map (Value.int .i64) ++ [.int .i64 s.place])) (hgrow : wr.grownBy w1 av.ownBlock) :
    Going w0 (w1.setCell ⟨y, 1, none⟩ av1) y m base box lv av1 { s with ats := s.ats ++ [s.place] } := by
  have hfar : ∀ k, k < base → some k ≠ av.ownBlock := by
    intro k hk e
    have := (g.row.lt k e.symm).1
    omega
  have hg : w1.grownBy (w1.setCell ⟨y, 1, none⟩ av1) (some y) := grown_set _ _ _ _
  have hy : w1.heap[y]? = wr.heap[y]? := hgrow.block y g.lay.lt (hfar y ap.yb)
  have g1 : Below w0.heap.size w0 w1 := below_grown g.below hgrow g.below.size (by
    intro k e
    have := (g.row.lt k e).1
    have := ap.y0
    have := ap.yb
    omega)
  refine ⟨below_grown g1 hg g1.size (by intro k e; cases e; exact ap.y0), (g.lay.kept hy).setAts av1, ?_, (g.own.kept hgrow (hfar m ap.mb)).setCell (Ne.symm ap.ne) _, Nat.le_trans g.hb (Nat.le_trans hgrow.size hg.size), (set_other (by omega)).trans ((hgrow.cell_far _ (cell_lt g.boxc) (hfar box hbb)).trans g.boxc)⟩
  have := hown.kept hg (by
    rcases hv : av1.ownBlock with _ | k
    · simp
    · have := (hown.lt k hv).1
      have := ap.yb
      right
      intro e
      cases e
      omega)
  simpa using this

/-- A label is told. -/
theorem Going.put {w0 wr w1 : World} {y m base box : Nat} {lv av : Value} {s : LayS} (g : Going w0 wr y m base box lv av s) (ap : Apart w0 y m base) (hbm : box ≠ m) (nm : ByteArray)
    (hown : w1.ownsMap Tryd.prog 9 (plainElem Tryd.prog 3) m (s.labs.length + 1) ((mapOf s.labs).put (.string nm.data.toList) (.lit (.int .i64 s.place)))) (hgrow : wr.grownBy w1 (some m)) :
    Going w0 w1 y m base box lv av { s with labs := (nm, s.place) :: s.labs } := by
  refine ⟨below_grown g.below hgrow g.below.size (by intro k e; cases e; exact ap.m0), g.lay.kept (hgrow.block y g.lay.lt (by simp [ap.ne])), g.row.kept hgrow ?_, hown, Nat.le_trans g.hb hgrow.size, (hgrow.cell_far _ (cell_lt g.boxc) (by simp [hbm])).trans g.boxc⟩
  rcases hv : av.ownBlock with _ | k
  · simp
  · have := (g.row.lt k hv).1
    have := ap.mb
    right
    intro e
    cases e
    omega

set_option maxRecDepth 100000 in
/-- Is something at this address? -/
theorem asm_taken (i : Int) (v : Int) (y : Nat) (b : Nat) (w : World) (hi0 : 0 ≤ i) (hi1 : i < 65536) (hbx : w.cell? ⟨b, 0, none⟩ = some (.pointer (some ⟨y, 0, none⟩))) (hc : w.cell? ⟨y, 3 + i.toNat, none⟩ = some (.int .u8 v)) :
    Calls Tryd.prog 51 #[.int .i64 i, .pointer (some ⟨b, 0, none⟩)] w fun e w' => e = .returned (.bool (v != 0)) ∧ w = w' := by
  go_enter Tryd.func51, Tryd.ntmps51
  go_wp2_with fail
  go_ret
  exact ⟨rfl, rfl⟩
end Go.Proofs.YtpjdkdphklgfjaaDoor

/- The first pass, plain facts of an item and of a step. -/
namespace Go.Proofs.YtpjdkdphklgfjaaDoor
open Go.RowKit Go.Shelf Go.Maps
set_option linter.unusedVariables false
set_option linter.unusedSimpArgs false

theorem isName_size {s : ByteArray} (h : isName s = true) : s.size ≤ 16 := by
  unfold isName at h
  split at h
  · cases h
  · simp at h
    omega

theorem Item.kinds {x : Item} (h : x.may = true) : x.kind = 1 ∨ x.kind = 2 ∨ x.kind = 3 ∨ x.kind = 4 ∨ x.kind = 5 := by
  unfold Item.may mayB at h
  by_cases h2 : x.kind = 2
  · exact .inr (.inl h2)
  · rw [if_neg h2] at h
    split at h
    · cases h
    · by_cases h1 : x.kind = 1
      · exact .inl h1
      · rw [if_neg h1] at h
        by_cases h3 : x.kind = 3
        · exact .inr (.inr (.inl h3))
        · rw [if_neg h3] at h
          by_cases h4 : x.kind = 4
          · exact .inr (.inr (.inr (.inl h4)))
          · rw [if_neg h4] at h
            by_cases h5 : x.kind = 5
            · exact .inr (.inr (.inr (.inr h5)))
            · rw [if_neg h5] at h
              cases h
theorem Item.name1 {x : Item} (h : x.may = true) (h1 : x.kind = 1) : x.name.size ≤ 16 := by
  unfold Item.may mayB at h
  rw [if_neg (by omega)] at h
  split at h
  · cases h
  · exact isName_size (by simpa [h1] using h)
theorem Item.arg4 {x : Item} (h : x.may = true) (h1 : x.kind = 4) : 0 ≤ x.arg ∧ x.arg ≤ 65535 := by
  unfold Item.may mayB at h
  rw [if_neg (by omega)] at h
  split at h
  · cases h
  · simp [h1] at h
    exact h
theorem Item.bytes3 {x : Item} (h : x.may = true) (h1 : x.kind = 3) : 1 ≤ x.bytes.length ∧ x.bytes.length ≤ 256 := by
  unfold Item.may mayB at h
  rw [if_neg (by omega)] at h
  split at h
  · cases h
  · simp [h1] at h
    exact h
theorem lenI_range (f : Int) : 1 ≤ lenI f ∧ lenI f ≤ 3 ∨ lenI f = 0 := by
  have hall : ∀ y ∈ lensT, 1 ≤ y ∧ y ≤ 3 ∨ y = 0 := by decide
  unfold lenI
  rw [List.getD_eq_getElem?_getD]
  cases hx : lensT[f.toNat]? with
  | none => exact .inr rfl
  | some y => exact hall y (List.mem_of_getElem? hx)
theorem Item.size_range {x : Item} (h : x.may = true) : 0 ≤ x.size ∧ x.size ≤ 256 := by
  unfold Item.size sizeB
  by_cases h2 : x.kind = 2
  · rw [if_pos h2]
    rcases lenI_range (formI (firstI x.name)) with h | h <;> omega
  · rw [if_neg h2]
    by_cases h3 : x.kind = 3
    · rw [if_pos h3]
      have := Item.bytes3 h h3
      omega
    · rw [if_neg h3]
      split <;> omega

theorem setK_range {K : Nat → Int} (h : ∀ i, K i = 0 ∨ K i = 1 ∨ K i = 2) (p n : Nat) (x : Item) (i : Nat) : setK K p n (kindOf x) i = 0 ∨ setK K p n (kindOf x) i = 1 ∨ setK K p n (kindOf x) i = 2 := by
  unfold setK kindOf
  split
  · split <;> simp
  · exact h i
theorem ok0 : lay0.ok := ⟨by simp [lay0], by simp [lay0], by simp [lay0], by simp [lay0], by simp [lay0]⟩
theorem LayS.ok.step {s s' : LayS} {x : Item} (h : s.ok) (hm : x.may = true) (hs : layStep s x = .inr s') : s'.ok := by
  have hz := Item.size_range hm
  have hp0 := h.place0
  have hp1 := h.place1
  have hats : ∀ a ∈ s.ats ++ [s.place], 0 ≤ a ∧ a ≤ 65536 := by
    intro a ha
    rcases List.mem_append.1 ha with ha | ha
    · exact h.ats a ha
    · rw [List.mem_singleton] at ha
      omega
  unfold layStep at hs
  by_cases h4 : x.kind = 4
  · rw [if_pos h4] at hs
    cases hs
    have := Item.arg4 hm h4
    exact ⟨by simp; omega, by simp; omega, h.labs, h.K, hats⟩
  · rw [if_neg h4] at hs
    split at hs
    · cases hs
    · rename_i h1
      split at hs
      · cases hs
      · split at hs
        · cases hs
        · rename_i h3
          split at hs
          · cases hs
          · cases hs
            refine ⟨by simp; omega, by simp; omega, ?_, setK_range h.K _ _ x, hats⟩
            intro p hp
            unfold labsOf at hp
            by_cases hk : x.kind = 1
            · simp only [if_pos hk, List.mem_cons] at hp
              rcases hp with rfl | hp
              · exact ⟨hp0, by simp; omega, Item.name1 hm hk⟩
              · exact h.labs p hp
            · simp only [if_neg hk] at hp
              exact h.labs p hp
theorem ats_step {s s' : LayS} {x : Item} (hs : layStep s x = .inr s') : s'.ats = s.ats ++ [s.place] := by
  unfold layStep at hs
  repeat' split at hs
  all_goals cases hs
  all_goals rfl
theorem labs_step {s s' : LayS} {x : Item} (hs : layStep s x = .inr s') : s'.labs.length ≤ s.labs.length + 1 := by
  unfold layStep at hs
  repeat' split at hs
  all_goals cases hs
  · simp
  · unfold labsOf
    split <;> simp
theorem layFrom_drop (l : List Item) (k : Nat) (hk : k < l.length) (s : LayS) (i : Int) : layFrom (l.drop k) s i = match layStep s l[k] with | .inl e => .inl (e, i) | .inr s' => layFrom (l.drop (k + 1)) s' (i + 1) := by
  rw [List.drop_eq_getElem_cons hk]; rfl

/-- An item, copied into a block of the run's own. -/
def Copied (w : World) (tb : Nat) (x : Item) (A : Option Addr) (c : Nat) : Prop :=
  w.cell? ⟨tb, 0, none⟩ = some (.int .u8 x.kind) ∧ w.cell? ⟨tb, 1, none⟩ = some (.string x.name) ∧ w.cell? ⟨tb, 2, none⟩ = some (.int .i64 x.arg) ∧
    w.cell? ⟨tb, 3, none⟩ = some (.string x.label) ∧ w.cell? ⟨tb, 4, none⟩ = some (.int .u8 x.part) ∧ w.cell? ⟨tb, 5, none⟩ = some (.slice A x.bytes.length c)
theorem Copied.kept {w w1 : World} {tb : Nat} {x : Item} {A : Option Addr} {c : Nat} (h : Copied w tb x A c) (hb : w1.heap[tb]? = w.heap[tb]?) : Copied w1 tb x A c := by
  have e : ∀ o, w1.cell? ⟨tb, o, none⟩ = w.cell? ⟨tb, o, none⟩ := fun o => World.cell?_of_block (w := w) hb
  obtain ⟨h0, h1, h2, h3, h4, h5⟩ := h
  exact ⟨(e _).trans h0, (e _).trans h1, (e _).trans h2, (e _).trans h3, (e _).trans h4, (e _).trans h5⟩
theorem takenK_more {K : Nat → Int} {p j : Nat} (h : takenK K p j = true) : ∀ n, j ≤ n → takenK K p n = true := by
  intro n hn
  induction n with
  | zero => obtain rfl : j = 0 := by omega
            exact h
  | succ n ih =>
    unfold takenK
    rcases Nat.lt_or_ge j (n + 1) with hlt | hge
    · rw [ih (by omega)]; rfl
    · obtain rfl : j = n + 1 := by omega
      exact h
theorem setK_step (K : Nat → Int) (p j : Nat) (v : Int) : (fun i => if i = p + j then v else setK K p j v i) = setK K p (j + 1) v := by
  funext i
  unfold setK
  by_cases h : i = p + j
  · rw [if_pos h, if_pos (by omega)]
  · rw [if_neg h]
    by_cases h2 : p ≤ i ∧ i < p + j
    · rw [if_pos h2, if_pos (by omega)]
    · rw [if_neg h2, if_neg (by omega)]
theorem setK_zero (K : Nat → Int) (p : Nat) (v : Int) : setK K p 0 v = K := by
  funext i
  unfold setK
  rw [if_neg (by omega)]
end Go.Proofs.YtpjdkdphklgfjaaDoor

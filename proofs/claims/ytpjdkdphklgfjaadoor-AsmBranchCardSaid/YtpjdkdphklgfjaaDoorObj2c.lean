/- The object's end: the labels sorted, what is handed back. -/
import Derived.Test.YtpjdkdphklgfjaaDoorObj2b
import Derived.Test.YtpjdkdphklgfjaaDoorSort2
namespace Go.Proofs.YtpjdkdphklgfjaaDoor
open Go.RowKit Go.Shelf Go.Maps Go.Lib Go.Sort
set_option linter.unusedVariables false
set_option linter.unusedSimpArgs false

def plainBl (bl : List (Int × Value × List Int)) : List (Int × List Int) := bl.map fun p => (p.1, p.2.2)

/-- A slice of n elements that holds these cells. -/
def SliceOf (w : World) (v : Value) (n : Nat) (xs : List Value) : Prop := ∃ A c, v = .slice A n c ∧ (xs = [] ∨ ∃ b off, A = some ⟨b, off, none⟩ ∧ CellsAt w b off xs)
theorem SliceOf.below {w w1 : World} {v : Value} {n : Nat} {xs : List Value} (h : SliceOf w v n xs) (hb : Below w.heap.size w w1) : SliceOf w1 v n xs := by
  obtain ⟨A, c, hv, h | ⟨b, off, hA, hc⟩⟩ := h
  · exact ⟨A, c, hv, .inl h⟩
  · exact ⟨A, c, hv, .inr ⟨b, off, hA, hc.below hb⟩⟩
theorem row_slice {w : World} {base e size n : Nat} {v : Value} {xs : List Value} (h : w.ownsRow base e size v n xs) : SliceOf w v n xs := by
  have hl := h.1
  rcases h.2 with ⟨rfl, rfl⟩ | ⟨g, cap, cur, rfl, _, _⟩
  · refine ⟨none, 0, rfl, .inl ?_⟩
    simpa using hl
  · refine ⟨some ⟨g, 0, none⟩, cap, rfl, .inr ⟨g, 0, rfl, ?_⟩⟩
    intro i v hv
    have hi : i < xs.length := (List.getElem?_eq_some_iff.1 hv).1
    rw [Nat.zero_add, h.cellAt i (by omega), hv]

/-- An object in memory: blocks, marks, labels. -/
structure ObjAt (w : World) (bv kv nv : Value) (bs : List (Int × List Int)) (mk : List (Int × Int × Bool)) (ns : List (ByteArray × Int)) : Prop where
  blocks : ∃ bl : List (Int × Value × List Int), plainBl bl = bs ∧ SliceOf w bv bl.length (bl.flatMap blockCells) ∧ ∀ p ∈ bl, ∃ A c, p.2.1 = .slice A p.2.2.length c ∧ BytesAt w A p.2.2 ∧ p.2.2.length ≤ c
  marks : SliceOf w kv mk.length (mk.flatMap markCells)
  labels : SliceOf w nv ns.length (ns.flatMap labelCells)

theorem ObjAt.below {w w1 : World} {bv kv nv : Value} {bs : List (Int × List Int)} {mk : List (Int × Int × Bool)} {ns : List (ByteArray × Int)} (h : ObjAt w bv kv nv bs mk ns) (hb : Below w.heap.size w w1) : ObjAt w1 bv kv nv bs mk ns := by
  obtain ⟨⟨bl, h1, h2, h3⟩, h4, h5⟩ := h
  exact ⟨⟨bl, h1, h2.below hb, fun p hp => by obtain ⟨A, c, e, h, hc⟩ := h3 p hp; exact ⟨A, c, e, h.below hb, hc⟩⟩, h4.below hb, h5.below hb⟩

theorem bytes_slice {w : World} {base : Nat} {v : Value} {bs : List Int} (h : w.ownsRow base 5 1 v bs.length (bs.map (Value.int .u8))) : ∃ A c, v = .slice A bs.length c ∧ BytesAt w A bs ∧ bs.length ≤ c := by
  rcases h.2 with ⟨rfl, h0⟩ | ⟨g, cap, cur, rfl, _, hg, hc, _⟩
  · exact ⟨none, 0, by rw [h0], .inl (List.eq_nil_of_length_eq_zero h0), by omega⟩
  · refine ⟨some ⟨g, 0, none⟩, cap, rfl, .inr ⟨g, 0, rfl, ?_⟩, hc⟩
    intro i v hv
    have hi : i < (bs.map (Value.int .u8)).length := (List.getElem?_eq_some_iff.1 hv).1
    rw [Nat.zero_add, h.cellAt i (by simpa using hi), hv]

theorem is_agg (w : World) : (isAgg 79).run Tryd.prog w = .ok true w := by kernel_rfl
theorem size_label (w : World) : (Go.sizeOf 79).run Tryd.prog w = .ok 2 w := by kernel_rfl

/-- All blocks from base on are as they were. -/
def KeptFrom (base : Nat) (w w2 : World) : Prop := ∀ k, base ≤ k → k < w.heap.size → w2.heap[k]? = w.heap[k]?
theorem row_from {w w2 : World} {base e size n : Nat} {v : Value} {xs : List Value} (h : w.ownsRow base e size v n xs) (hk : KeptFrom base w w2) : w2.ownsRow base e size v n xs := by
  refine ⟨h.1, ?_⟩
  rcases h.2 with h0 | ⟨g, cap, cur, hv, hg, hc, r⟩
  · exact .inl h0
  · exact .inr ⟨g, cap, cur, hv, hg, (hk g hg (Array.getElem?_eq_some_iff.1 hc).1).trans hc, r⟩
theorem KeptFrom.set {base u : Nat} {w w2 : World} (hu : u < base) (h : w.grownBy w2 (some u)) : KeptFrom base w w2 := fun k h1 h2 => h.block k h2 (by simp; omega)
theorem KeptFrom.trans {base : Nat} {a b c : World} (h : KeptFrom base a b) (k : KeptFrom base b c) (hs : a.heap.size ≤ b.heap.size) : KeptFrom base a c := fun i h1 h2 => (k i h1 (by omega)).trans (h i h1 h2)

/-- The labels, sorted. -/
theorem sort_labels {w0 wr : World} {y m t base : Nat} {lv av : Value} {s : LayS} {M : Nat → Int} {bv kv nv : Value} {bl : List (Int × Value × List Int)} {mk : List (Int × Int × Bool)} {nl : List (ByteArray × Int)}
    (B : Built w0 wr y m t base lv av s M bv kv nv bl mk nl) (ap : Apart3 w0 y m t base) (hn : nl.length ≤ 4096) :
    Calls Tryd.prog 55 #[nv, .func (.func 39) #[] #[]] wr fun e w' => e = .returned (.tuple #[]) ∧ Below w0.heap.size w0 w' ∧ (∀ w2, KeptFrom base w' w2 → ObjAt w2 bv kv nv (plainBl bl) mk (sortedLabs nl)) ∧
      w'.heap[t]? = wr.heap[t]? ∧ w'.heap[t - 1]? = wr.heap[t - 1]? := by
  have hblocks : ∀ w1 w', wr.grownBy w1 nv.ownBlock → KeptFrom base w1 w' → ∃ bl' : List (Int × Value × List Int), plainBl bl' = plainBl bl ∧ SliceOf w' bv bl'.length (bl'.flatMap blockCells) ∧ ∀ p ∈ bl', ∃ A c, p.2.1 = .slice A p.2.2.length c ∧ BytesAt w' A p.2.2 ∧ p.2.2.length ≤ c := fun w1 w' hg h2 =>
    ⟨bl, rfl, row_slice (row_from (B.brow.kept hg (rows_apart B.brow B.nrow (by decide))) h2), fun p hp => by
      exact bytes_slice (row_from ((B.bytes p hp).kept hg (rows_apart (B.bytes p hp) B.nrow (by decide))) h2)⟩
  have hmarks : ∀ w1 w', wr.grownBy w1 nv.ownBlock → KeptFrom base w1 w' → SliceOf w' kv mk.length (mk.flatMap markCells) := fun w1 w' hg h2 => row_slice (row_from (B.krow.kept hg (rows_apart B.krow B.nrow (by decide))) h2)
  have hbel : ∀ w', wr.grownBy w' nv.ownBlock → Below w0.heap.size w0 w' := fun w' hg => below_grown B.below hg B.below.size (by
    intro k e
    have := (B.nrow.lt k e).1
    have := ap.t0
    have := ap.tb
    omega)
  have hts : ∀ w', wr.grownBy w' nv.ownBlock → w'.heap[t]? = wr.heap[t]? ∧ w'.heap[t - 1]? = wr.heap[t - 1]? := fun w' hg => by
    have hu := (Array.getElem?_eq_some_iff.1 B.ub).1
    have q1 := ap.tb
    exact ⟨hg.block t (cell_lt (a := ⟨t, 0, none⟩) B.o0) (row_far B.nrow ap.tb), hg.block (t - 1) hu (row_far B.nrow (by omega))⟩
  cases hnl : nl with
  | nil =>
    subst hnl
    obtain ⟨p, cap, rfl⟩ : ∃ p cap, nv = .slice p 0 cap := by
      rcases B.nrow.2 with ⟨rfl, _⟩ | ⟨g, cap, cur, rfl, _⟩
      · exact ⟨_, _, rfl⟩
      · exact ⟨_, _, rfl⟩
    have hcon := AnyF.slices_SortFunc_none Tryd.sort6 p cap (.func (.func 39) #[] #[]) wr
    change Calls Tryd.prog 55 _ _ _ at hcon
    refine hcon.mono ?_
    rintro e w' ⟨rfl, rfl⟩
    have hg : w'.grownBy w' (Value.slice p 0 cap).ownBlock := ⟨rfl, rfl, rfl, Nat.le_refl _, fun _ _ _ => rfl⟩
    exact ⟨rfl, hbel _ hg, fun w2 h2 => ⟨hblocks _ w2 hg h2, hmarks _ w2 hg h2, ⟨p, cap, by simp [sortedLabs], .inl (by simp [sortedLabs])⟩⟩, rfl, rfl⟩
  | cons q ql =>
    obtain ⟨g, cap, rfl, hg1, hg2⟩ := B.nrow.form (by rw [hnl]; simp)
    have hH := holds_row B.nrow
    have eg : ∀ args w, (callFunc 39 args).run Tryd.prog w = .ok (.enter 39 args) w := enters_of Tryd.func39 (by kernel_rfl) rfl
    have hcon := AnyQ.slices_SortFunc_total Tryd.sort6 2 is_agg size_label labelCells (fun _ => rfl) (fun x v hv => by simp [labelCells] at hv; rcases hv with rfl | rfl <;> rfl) labCmp lab_swo 39 #[] g 0 cap nl.toArray wr eg (fun _ _ _ _ x y => asm_ordered x y _) hH hg2 (by simp; omega) lab_total
    change Calls Tryd.prog 55 _ _ _ at hcon
    rw [← hnl]
    refine (show Calls _ _ #[.slice (some ⟨g, 0, none⟩) nl.length cap, .func (.func 39) #[] #[]] wr _ from hcon).mono ?_
    rintro e w' ⟨rfl, n, os, rfl⟩
    have hg := sort_grown labelCells 2 wr g 0 n (nl.toArray.toList.mergeSort fun x y => !(ltOf labCmp) y x).toArray os
    refine ⟨rfl, hbel _ hg, fun w2 h2 => ⟨hblocks _ w2 hg h2, hmarks _ w2 hg h2, ?_⟩, hts _ hg⟩
    have hs := sorted_cells (n := n) (os := os) (l := sortedLabs nl) nl.toArray hH hg2 (by simp [sortedLabs])
    exact ⟨some ⟨g, 0, none⟩, cap, by simp [sortedLabs], .inr ⟨g, 0, rfl, fun i v hv => (World.cell?_of_block (a := ⟨g, 0 + i, none⟩) (h2 g hg1 (cell_lt (hs i v hv)))).trans (hs i v hv)⟩⟩

theorem perm_sorted_eq {α : Type} {le : α → α → Prop} (anti : ∀ a b, le a b → le b a → a = b) : ∀ (l1 l2 : List α), l1.Perm l2 → l1.Pairwise le → l2.Pairwise le → l1 = l2
  | [], l2, h, _, _ => (List.Perm.nil_eq h)
  | a :: t1, [], h, _, _ => by have := h.length_eq; simp at this
  | a :: t1, b :: t2, h, h1, h2 => by
    rw [List.pairwise_cons] at h1 h2
    have e : a = b := by
      rcases List.mem_cons.1 (h.mem_iff.1 (List.mem_cons_self (a := a) (l := t1))) with e | ha
      · exact e
      · rcases List.mem_cons.1 (h.mem_iff.2 (List.mem_cons_self (a := b) (l := t2))) with e | hb
        · exact e.symm
        · exact anti a b (h1.1 b hb) (h2.1 a ha)
    subst e
    rw [perm_sorted_eq anti t1 t2 (List.Perm.cons_inv h) h1.2 h2.2]
theorem sortedLabs_perm {l1 l2 : List (ByteArray × Int)} (h : l1.Perm l2) : sortedLabs l1 = sortedLabs l2 := by
  have le : ∀ l : List (ByteArray × Int), (sortedLabs l).Pairwise (fun x y => (!(ltOf labCmp) y x) = true) := fun l => List.pairwise_mergeSort (fun a b c h1 h2 => by
      simp only [Bool.not_eq_true'] at *
      exact lab_swo.ntrans c b a h2 h1) (fun a b => by
      simp only [Bool.or_eq_true, Bool.not_eq_true']
      rcases labLt_total a b with h | rfl | h
      · left; rw [lab_not]; intro h2; exact labLt_irrefl a (labLt_trans h h2)
      · left; rw [lab_not]; exact labLt_irrefl a
      · right; rw [lab_not]; intro h2; exact labLt_irrefl a (labLt_trans h2 h)) l
  refine perm_sorted_eq (le := fun x y => (!(ltOf labCmp) y x) = true) (fun a b h1 h2 => ?_) _ _ (((List.mergeSort_perm l1 _).trans h).trans (List.mergeSort_perm l2 _).symm) (le l1) (le l2)
  simp only [Bool.not_eq_true'] at h1 h2
  exact lab_total a b h2 h1

theorem grown_set3 (w : World) (b o1 o2 o3 : Nat) (v1 v2 v3 : Value) : w.grownBy (((w.setCell ⟨b, o1, none⟩ v1).setCell ⟨b, o2, none⟩ v2).setCell ⟨b, o3, none⟩ v3) (some b) := by
  have h1 := grown_set w b o1 v1
  have h2 := grown_set (w.setCell ⟨b, o1, none⟩ v1) b o2 v2
  have h3 := grown_set ((w.setCell ⟨b, o1, none⟩ v1).setCell ⟨b, o2, none⟩ v2) b o3 v3
  exact ⟨rfl, rfl, rfl, Nat.le_trans h1.size (Nat.le_trans h2.size h3.size), fun k hk hne => ((h3.block k (Nat.lt_of_lt_of_le hk (Nat.le_trans h1.size h2.size)) hne).trans (h2.block k (Nat.lt_of_lt_of_le hk h1.size) hne)).trans (h1.block k hk hne)⟩

/-- What 'object' hands back. -/
def ObjRet (w0 : World) (bs : List (Int × List Int)) (mk : List (Int × Int × Bool)) (ns : List (ByteArray × Int)) (e : Ending) (w' : World) : Prop :=
  ∃ bv kv nv base, e = .returned (.agg #[bv, kv, nv]) ∧ (∀ w2, KeptFrom base w' w2 → ObjAt w2 bv kv nv bs mk ns) ∧ w0.heap.size ≤ base ∧ Below w0.heap.size w0 w'
end Go.Proofs.YtpjdkdphklgfjaaDoor

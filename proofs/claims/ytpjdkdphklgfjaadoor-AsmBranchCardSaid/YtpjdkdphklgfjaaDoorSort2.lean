/- The labels' order: the walks of cmp.Or and 'ordered'. -/
import Derived.Test.YtpjdkdphklgfjaaDoorShelf
import Derived.Test.YtpjdkdphklgfjaaDoorBase
import Derived.Test.YtpjdkdphklgfjaaDoorMem
import Derived.Deep.RegionHeld3
import Derived.Shelf.Small.Strs
import Derived.Shelf.Small.Wraps
import Derived.Shelf.SlSortCmp.NoneTotal
import Derived.Test.YtpjdkdphklgfjaaDoorObj2b
namespace Go.Proofs.YtpjdkdphklgfjaaDoor
open Go.RowKit Go.Shelf Go.Lib Go.Sort
set_option linter.unusedVariables false
set_option linter.unusedSimpArgs false

def orI (x y : Int) : Int := if x = 0 then y else x

theorem cell_at (W : World) (c : Array Value) (t : TypeId) (n o : Nat) (h : n = W.heap.size) : (W.alloc (.cells c t)).cell? ⟨n, o, none⟩ = c[o]? := by subst h; exact World.cell?_alloc_new W c t o
set_option maxRecDepth 100000 in
theorem cmp_or2 (b c : Nat) (x y : Int) (w : World) (h0 : w.cell? ⟨b, 0, none⟩ = some (.int .i64 x)) (h1 : w.cell? ⟨b, 1, none⟩ = some (.int .i64 y)) :
    Calls Tryd.prog 57 #[.slice (some ⟨b, 0, none⟩) 2 c] w fun e w' => e = .returned (.int .i64 (orI x y)) ∧ w' = w := by
  by_cases hx : x = 0
  · subst hx
    by_cases hy : y = 0
    · subst hy
      go_enter Tryd.func57, Tryd.ntmps57
      go_wp2_with fail
      refine wp_loop_rounds 3 ?_
      rw [rounds_succ]
      go_wp2_with fail
      rw [rounds_succ]
      go_wp2_with fail
      rw [rounds_succ]
      go_wp2_with fail
      go_ret
      exact ⟨rfl, rfl⟩
    · have hy' : (y != 0) = true := bne_iff_ne.2 hy
      have HY := Lib.hid hy
      clear hy
      go_enter Tryd.func57, Tryd.ntmps57
      go_wp2_with fail
      refine wp_loop_rounds 2 ?_
      rw [rounds_succ]
      go_wp2_with fail
      rw [rounds_succ]
      go_wp2_with fail
      go_ret
      exact ⟨by unfold orI; rfl, rfl⟩
  · have hx' : (x != 0) = true := bne_iff_ne.2 hx
    have e : orI x y = x := if_neg hx
    rw [e]
    clear hx e
    go_enter Tryd.func57, Tryd.ntmps57
    go_wp2_with fail
    refine wp_loop_rounds 1 ?_
    rw [rounds_succ]
    go_wp2_with fail
    go_ret
    exact ⟨rfl, rfl⟩

/-- Two labels' order: by address, then by name. -/
def labCmp (p q : ByteArray × Int) : Int := orI (Lib.compareInt p.2 q.2) (Lib.compareBytes p.1.data.toList q.1.data.toList)

set_option maxRecDepth 100000 in
set_option maxHeartbeats 1000000 in
theorem asm_ordered (p q : ByteArray × Int) (W : World) :
    Calls Tryd.prog 39 #[.agg #[.string p.1, .int .i64 p.2], .agg #[.string q.1, .int .i64 q.2]] W fun e w' => e = .returned (.int .i64 (labCmp p q)) ∧ ∃ n os', w' = grow (W.drewN n) os' := by
  obtain ⟨p1, p2⟩ := p
  obtain ⟨q1, q2⟩ := q
  have hc1 := fun W' => Any.cmp_Compare_int Tryd.lays122 p2 q2 W'
  change ∀ W', Calls Tryd.prog 58 _ _ _ at hc1
  have hc2 := fun W' => Any.strings_Compare Tryd.lays106 p1 q1 W'
  change ∀ W', Calls Tryd.prog 59 _ _ _ at hc2
  have hE : labCmp (p1, p2) (q1, q2) = orI (Lib.compareInt p2 q2) (Lib.compareBytes p1.data.toList q1.data.toList) := rfl
  have HE := Lib.hid hE
  clear hE
  rw [HE.out]
  clear HE
  generalize Lib.compareInt p2 q2 = x at hc1 ⊢
  generalize Lib.compareBytes p1.data.toList q1.data.toList = y at hc2 ⊢
  have hq0 : W.heap.size < ((W.alloc (.cells #[.string p1, .int .i64 p2] 79)).alloc (.cells #[.string q1, .int .i64 q2] 79)).heap.size := by simp; omega
  have hq1 : W.heap.size + 1 < ((W.alloc (.cells #[.string p1, .int .i64 p2] 79)).alloc (.cells #[.string q1, .int .i64 q2] 79)).heap.size := by simp
  have g0 : ((W.alloc (.cells #[.string p1, .int .i64 p2] 79)).alloc (.cells #[.string q1, .int .i64 q2] 79)).cell? ⟨W.heap.size, 0, none⟩ = some (.string p1) := by simp
  have g1 : ((W.alloc (.cells #[.string p1, .int .i64 p2] 79)).alloc (.cells #[.string q1, .int .i64 q2] 79)).cell? ⟨W.heap.size, 1, none⟩ = some (.int .i64 p2) := by simp
  have g2 : ((W.alloc (.cells #[.string p1, .int .i64 p2] 79)).alloc (.cells #[.string q1, .int .i64 q2] 79)).cell? ⟨W.heap.size + 1, 0, none⟩ = some (.string q1) := by simp
  have g3 : ((W.alloc (.cells #[.string p1, .int .i64 p2] 79)).alloc (.cells #[.string q1, .int .i64 q2] 79)).cell? ⟨W.heap.size + 1, 1, none⟩ = some (.int .i64 q2) := by simp
  have o0 : (((W.alloc (.cells #[.string p1, .int .i64 p2] 79)).alloc (.cells #[.string q1, .int .i64 q2] 79)).alloc (.cells #[.int .i64 x, .int .i64 y] 3)).cell? ⟨W.heap.size + 1 + 1, 0, none⟩ = some (.int .i64 x) := (cell_at _ _ _ _ _ (by simp)).trans rfl
  have o1 : (((W.alloc (.cells #[.string p1, .int .i64 p2] 79)).alloc (.cells #[.string q1, .int .i64 q2] 79)).alloc (.cells #[.int .i64 x, .int .i64 y] 3)).cell? ⟨W.heap.size + 1 + 1, 1, none⟩ = some (.int .i64 y) := (cell_at _ _ _ _ _ (by simp)).trans rfl
  go_enter Tryd.func39, Tryd.ntmps39
  go_wp2_with fail
  go_region_held3 (fun w' => w'.cell? ⟨W.heap.size, 0, none⟩ = some (.string p1) ∧ w'.cell? ⟨W.heap.size, 1, none⟩ = some (.int .i64 p2) ∧ w'.cell? ⟨W.heap.size + 1, 0, none⟩ = some (.string q1) ∧ w'.cell? ⟨W.heap.size + 1, 1, none⟩ = some (.int .i64 q2))
    (first
      | exact ⟨g0, g1, g2, g3⟩
      | exact ⟨(World.cell?_alloc_past _ _ _ hq0).trans g0, (World.cell?_alloc_past _ _ _ hq0).trans g1, (World.cell?_alloc_past _ _ _ hq1).trans g2, (World.cell?_alloc_past _ _ _ hq1).trans g3⟩
      | fail)
    (first
    | (go_at_call 58; refine (hc1 _).mono ?_; rintro e w' ⟨rfl, rfl⟩)
    | (go_at_call 59; refine (hc2 _).mono ?_; rintro e w' ⟨rfl, rfl⟩)
    | (go_at_call 57; refine (cmp_or2 _ _ x y _ (by exact o0) (by exact o1)).mono ?_; rintro e w' ⟨rfl, rfl⟩)
    | fail)
  go_wp2_with fail
  go_ret
  refine ⟨rfl, 1, #[.cells #[.string p1, .int .i64 p2] 79, .cells #[.string q1, .int .i64 q2] 79, .cells #[.int .i64 x, .int .i64 y] 3], ?_⟩
  rfl
end Go.Proofs.YtpjdkdphklgfjaaDoor

/- The labels' order is one. -/
namespace Go.Proofs.YtpjdkdphklgfjaaDoor
open Go.RowKit Go.Shelf Go.Lib Go.Sort
set_option linter.unusedVariables false
set_option linter.unusedSimpArgs false

theorem bc_self : ∀ a, Lib.compareBytes a a = 0
  | [] => rfl
  | x :: a => by unfold Lib.compareBytes; rw [if_neg (by simp), if_neg (by simp)]; exact bc_self a
theorem bc_neg : ∀ a b, Lib.compareBytes b a = - Lib.compareBytes a b
  | [], [] => rfl
  | [], _ :: _ => rfl
  | _ :: _, [] => rfl
  | x :: a, y :: b => by
    unfold Lib.compareBytes
    by_cases h1 : x < y
    · have h2 : ¬ y < x := by rw [UInt8.lt_iff_toNat_lt] at h1 ⊢; omega
      rw [if_pos h1, if_neg h2, if_pos h1]; rfl
    · by_cases h2 : y < x
      · rw [if_pos h2, if_neg h1, if_pos h2]
      · rw [if_neg h2, if_neg h1, if_neg h1, if_neg h2]; exact bc_neg a b
theorem bc_eq : ∀ {a b}, Lib.compareBytes a b = 0 → a = b
  | [], [], _ => rfl
  | [], _ :: _, h => by cases h
  | _ :: _, [], h => by cases h
  | x :: a, y :: b, h => by
    unfold Lib.compareBytes at h
    by_cases h1 : x < y
    · rw [if_pos h1] at h; cases h
    · by_cases h2 : y < x
      · rw [if_neg h1, if_pos h2] at h; cases h
      · rw [if_neg h1, if_neg h2] at h
        have e : x = y := by
          rw [UInt8.lt_iff_toNat_lt] at h1 h2
          exact UInt8.toNat_inj.1 (by omega)
        rw [e, bc_eq h]
theorem bc_trans : ∀ {a b c}, Lib.compareBytes a b < 0 → Lib.compareBytes b c < 0 → Lib.compareBytes a c < 0
  | [], [], _, h, _ => by simp [Lib.compareBytes] at h
  | _ :: _, [], _, h, _ => by simp [Lib.compareBytes] at h
  | _, _ :: _, [], _, h => by simp [Lib.compareBytes] at h
  | [], _ :: _, _ :: _, _, _ => by simp [Lib.compareBytes]
  | x :: a, y :: b, z :: c, h1, h2 => by
    unfold Lib.compareBytes at h1 h2 ⊢
    simp only [UInt8.lt_iff_toNat_lt] at h1 h2 ⊢
    by_cases e1 : x.toNat < y.toNat
    · by_cases e2 : y.toNat < z.toNat
      · rw [if_pos (by omega)]; decide
      · rw [if_neg e2] at h2
        by_cases e3 : z.toNat < y.toNat
        · rw [if_pos e3] at h2; simp at h2
        · rw [if_pos (by omega)]; decide
    · rw [if_neg e1] at h1
      by_cases e4 : y.toNat < x.toNat
      · rw [if_pos e4] at h1; simp at h1
      · rw [if_neg e4] at h1
        by_cases e2 : y.toNat < z.toNat
        · rw [if_pos (by omega)]; decide
        · rw [if_neg e2] at h2
          by_cases e3 : z.toNat < y.toNat
          · rw [if_pos e3] at h2; simp at h2
          · rw [if_neg e3] at h2
            rw [if_neg (by omega), if_neg (by omega)]
            exact bc_trans h1 h2

/-- Before, among labels. -/
def labLt (p q : ByteArray × Int) : Prop := p.2 < q.2 ∨ p.2 = q.2 ∧ Lib.compareBytes p.1.data.toList q.1.data.toList < 0
theorem labCmp_lt (p q : ByteArray × Int) : ltOf labCmp p q = true ↔ labLt p q := by
  unfold ltOf labCmp orI labLt Lib.compareInt
  rw [decide_eq_true_iff]
  by_cases h1 : p.2 < q.2
  · simp [h1]
  · by_cases h2 : p.2 > q.2
    · rw [if_neg h1, if_pos h2]
      simp
      omega
    · rw [if_neg h1, if_neg h2]
      have e : p.2 = q.2 := by omega
      simp [h1, e]
theorem labLt_irrefl (p : ByteArray × Int) : ¬ labLt p p := by
  rintro (h | ⟨_, h⟩)
  · omega
  · rw [bc_self] at h; omega
theorem labLt_trans {p q r : ByteArray × Int} (h1 : labLt p q) (h2 : labLt q r) : labLt p r := by
  rcases h1 with h1 | ⟨e1, h1⟩ <;> rcases h2 with h2 | ⟨e2, h2⟩
  · exact .inl (by omega)
  · exact .inl (by omega)
  · exact .inl (by omega)
  · exact .inr ⟨by omega, bc_trans h1 h2⟩
theorem labLt_total (p q : ByteArray × Int) : labLt p q ∨ p = q ∨ labLt q p := by
  rcases Int.lt_trichotomy p.2 q.2 with h | h | h
  · exact .inl (.inl h)
  · rcases Int.lt_trichotomy (Lib.compareBytes p.1.data.toList q.1.data.toList) 0 with h2 | h2 | h2
    · exact .inl (.inr ⟨h, h2⟩)
    · exact .inr (.inl (Prod.ext (Go.WideShapes.bytes_inj (bc_eq h2)) h))
    · exact .inr (.inr (.inr ⟨h.symm, by rw [bc_neg]; omega⟩))
  · exact .inr (.inr (.inl h))
theorem lab_not {p q : ByteArray × Int} : ltOf labCmp p q = false ↔ ¬ labLt p q := by
  rw [← Bool.not_eq_true, labCmp_lt]
theorem lab_swo : SWO (ltOf labCmp) where
  irrefl p := lab_not.2 (labLt_irrefl p)
  trans p q r h1 h2 := (labCmp_lt _ _).2 (labLt_trans ((labCmp_lt _ _).1 h1) ((labCmp_lt _ _).1 h2))
  ntrans p q r h1 h2 := by
    rw [lab_not] at h1 h2 ⊢
    intro h3
    rcases labLt_total p q with h | rfl | h
    · exact h1 h
    · exact h2 h3
    · exact h2 (labLt_trans h h3)
theorem lab_total (p q : ByteArray × Int) (h1 : ltOf labCmp p q = false) (h2 : ltOf labCmp q p = false) : p = q := by
  rw [lab_not] at h1 h2
  rcases labLt_total p q with h | h | h
  · exact absurd h h1
  · exact h
  · exact absurd h h2
/-- The labels as an object tells them. -/
def sortedLabs (l : List (ByteArray × Int)) : List (ByteArray × Int) := l.mergeSort fun x y => !(ltOf labCmp) y x
end Go.Proofs.YtpjdkdphklgfjaaDoor

/- The labels' row, sorted. -/
namespace Go.Proofs.YtpjdkdphklgfjaaDoor
open Go.RowKit Go.Shelf Go.Lib Go.Sort
set_option linter.unusedVariables false
set_option linter.unusedSimpArgs false

theorem sort_grown {α : Type} [Inhabited α] (enc : α → List Value) (k : Nat) (w : World) (g off n : Nat) (d : Array α) (os : Array Obj) : w.grownBy (sortWorldK enc k w g off n d os) (some g) := by
  refine ⟨rfl, rfl, rfl, ?_, fun i hi hne => ?_⟩
  · simp [sortWorldK, grow, putRowK, putRow, mapBlock, Sort.ahead]
  · have hng : ¬ g = i := fun e => hne (by rw [e])
    simp only [sortWorldK, grow, putRowK, putRow, mapBlock, Sort.ahead]
    rw [Array.getElem?_append_left (by simpa using hi), Array.getElem?_modify, if_neg hng]

theorem flat2 : ∀ (l : List (ByteArray × Int)) (i r : Nat), r < 2 → (l.flatMap labelCells)[2 * i + r]? = (l[i]?).bind fun p => (labelCells p)[r]?
  | [], i, r, _ => by simp
  | p :: l, 0, r, hr => by
    have hl : (labelCells p).length = 2 := rfl
    rw [List.flatMap_cons, List.getElem?_append_left (by omega)]
    simp
  | p :: l, i + 1, r, hr => by
    have hl : (labelCells p).length = 2 := rfl
    rw [List.flatMap_cons, List.getElem?_append_right (by omega), hl, show 2 * (i + 1) + r - 2 = 2 * i + r by omega, flat2 l i r hr, List.getElem?_cons_succ]
theorem flat_len : ∀ l : List (ByteArray × Int), (l.flatMap labelCells).length = l.length * 2
  | [] => rfl
  | p :: l => by rw [List.flatMap_cons, List.length_append, flat_len l]; simp [labelCells]; omega
theorem flat_at (l : List (ByteArray × Int)) (t : Nat) (ht : t < l.length * 2) : (l.flatMap labelCells)[t]? = some ((flatK labelCells 2 l.toArray)[t]!) := by
  rw [get_flatK _ _ _ _ (by simpa using ht)]
  have h1 : t / 2 < l.length := by omega
  have h2 : t % 2 < 2 := Nat.mod_lt _ (by omega)
  conv => lhs; rw [← Nat.div_add_mod t 2]
  rw [flat2 l (t / 2) (t % 2) h2, List.getElem?_eq_getElem h1]
  have e : l.toArray[t / 2]! = l[t / 2] := by rw [getElem!_pos l.toArray (t / 2) (by simpa using h1)]; simp
  rw [e]
  have hl : (labelCells l[t / 2]).length = 2 := rfl
  show (labelCells l[t / 2])[t % 2]? = _
  rw [List.getElem?_eq_getElem (by omega), getElem!_pos _ _ (by omega)]

/-- The row as the sort wants it. -/
theorem holds_row {w : World} {base g cap : Nat} {l : List (ByteArray × Int)} (h : w.ownsRow base 79 2 (.slice (some ⟨g, 0, none⟩) l.length cap) l.length (l.flatMap labelCells)) : HoldsK labelCells 2 w g 0 l.toArray := by
  intro j hj
  simp at hj
  rw [Nat.zero_add, h.cellAt j (by omega), flat_at l j hj]
  exact ⟨rfl, h.frozenAt j⟩
/-- And as it lies behind the sort. -/
theorem sorted_cells {w : World} {g n : Nat} {l : List (ByteArray × Int)} {os : Array Obj} (d : Array (ByteArray × Int)) (h : HoldsK labelCells 2 w g 0 d) (hg : g < w.heap.size) (hs : l.length = d.size) :
    CellsAt (sortWorldK labelCells 2 w g 0 n l.toArray os) g 0 (l.flatMap labelCells) := by
  have hh := holdsK_sortWorldK_c labelCells 2 w g 0 d l.toArray n h hg (by simpa using hs) (os := os)
  intro i v hv
  have hi : i < l.length * 2 := by
    rcases Nat.lt_or_ge i (l.length * 2) with h | h
    · exact h
    · have hlen := flat_len l
      rw [List.getElem?_eq_none (by omega)] at hv
      cases hv
  have := (hh i (by simpa using hi)).1
  rw [flat_at l i hi] at hv
  cases hv
  exact this
end Go.Proofs.YtpjdkdphklgfjaaDoor

/- An object's marks and blocks, in plain Lean. -/
import Derived.Test.YtpjdkdphklgfjaaDoorFill1
import Derived.Test.YtpjdkdphklgfjaaDoorLay
import Derived.Maps.Range
import Derived.Test.YtpjdkdphklgfjaaDoorPlaces4
import Derived.Maps.RangeWalk
namespace Go.Proofs.YtpjdkdphklgfjaaDoor
set_option linter.unusedVariables false
set_option linter.unusedSimpArgs false

/-- How many addresses from a on (of n) hold v. -/
def runLen (K : Nat → Int) (v : Int) : Nat → Nat → Nat
  | _, 0 => 0
  | a, n + 1 => if K a = v then runLen K v (a + 1) n + 1 else 0
/-- How many addresses from a on (of n) are taken. -/
def nzLen (K : Nat → Int) : Nat → Nat → Nat
  | _, 0 => 0
  | a, n + 1 => if K a ≠ 0 then nzLen K (a + 1) n + 1 else 0
def markAt (K : Nat → Int) (i : Nat) : Option (Int × Int × Bool) :=
  if K i ≠ 0 ∧ (i = 0 ∨ K (i - 1) ≠ K i) then some (i, runLen K (K i) i (65536 - i), K i == 1) else none
def marksTo (K : Nat → Int) (a : Nat) : List (Int × Int × Bool) := (List.range a).filterMap (markAt K)
def blockAt (K M : Nat → Int) (i : Nat) : Option (Int × List Int) :=
  if K i ≠ 0 ∧ (i = 0 ∨ K (i - 1) = 0) then some (i, (List.range (nzLen K i (65536 - i))).map fun j => M (i + j)) else none
def blocksTo (K M : Nat → Int) (a : Nat) : List (Int × List Int) := (List.range a).filterMap (blockAt K M)

theorem runLen_eq (K : Nat → Int) (v : Int) : ∀ (n a m : Nat), m ≤ n → (∀ i, a ≤ i → i < a + m → K i = v) → (m = n ∨ K (a + m) ≠ v) → runLen K v a n = m
  | 0, a, m, hm, _, _ => by unfold runLen; omega
  | n + 1, a, 0, _, _, h => by
    unfold runLen
    rw [if_neg]
    rcases h with h | h
    · omega
    · simpa using h
  | n + 1, a, m + 1, hm, hall, h => by
    unfold runLen
    rw [if_pos (hall a (Nat.le_refl _) (by omega)), runLen_eq K v n (a + 1) m (by omega) (fun i h1 h2 => hall i (by omega) (by omega)) (by rcases h with h | h; exact .inl (by omega); exact .inr (by rw [show a + 1 + m = a + (m + 1) by omega]; exact h))]
theorem nzLen_eq (K : Nat → Int) : ∀ (n a m : Nat), m ≤ n → (∀ i, a ≤ i → i < a + m → K i ≠ 0) → (m = n ∨ K (a + m) = 0) → nzLen K a n = m
  | 0, a, m, hm, _, _ => by unfold nzLen; omega
  | n + 1, a, 0, _, _, h => by
    unfold nzLen
    rw [if_neg]
    rcases h with h | h
    · omega
    · simpa using h
  | n + 1, a, m + 1, hm, hall, h => by
    unfold nzLen
    rw [if_pos (hall a (Nat.le_refl _) (by omega)), nzLen_eq K n (a + 1) m (by omega) (fun i h1 h2 => hall i (by omega) (by omega)) (by rcases h with h | h; exact .inl (by omega); exact .inr (by rw [show a + 1 + m = a + (m + 1) by omega]; exact h))]

theorem filterMap_range_add {α : Type} (f : Nat → Option α) (a : Nat) : ∀ n, (List.range (a + n)).filterMap f = (List.range a).filterMap f ++ (List.range n).filterMap fun i => f (a + i)
  | 0 => by simp
  | n + 1 => by
    rw [← Nat.add_assoc, List.range_succ, List.range_succ, List.filterMap_append, List.filterMap_append, filterMap_range_add f a n, List.append_assoc]
    congr 1
theorem filterMap_range_none {α : Type} (f : Nat → Option α) : ∀ n, (∀ i, i < n → f i = none) → (List.range n).filterMap f = []
  | 0, _ => rfl
  | n + 1, h => by
    rw [List.range_succ, List.filterMap_append, filterMap_range_none f n (fun i hi => h i (by omega)), List.nil_append]
    simp [h n (by omega)]
/-- Nothing begins but at the first place. -/
theorem filterMap_range_first {α : Type} (f : Nat → Option α) (a n : Nat) (x : α) (hn : 0 < n) (h0 : f a = some x) (h : ∀ i, 0 < i → i < n → f (a + i) = none) :
    (List.range (a + n)).filterMap f = (List.range a).filterMap f ++ [x] := by
  obtain ⟨m, rfl⟩ : ∃ m, n = m + 1 := ⟨n - 1, by omega⟩
  rw [Nat.add_comm m 1, ← Nat.add_assoc, filterMap_range_add f (a + 1) m, filterMap_range_none _ m (fun i hi => by rw [Nat.add_assoc]; exact h (1 + i) (by omega) (by omega)), List.append_nil, filterMap_range_add f a 1]
  congr 1
  simp [List.range_succ, h0]

/-- A run of one kind: one mark. -/
theorem marks_run (K : Nat → Int) (a n : Nat) (hn : 0 < n) (hk : K a ≠ 0) (hb : a = 0 ∨ K (a - 1) ≠ K a) (hall : ∀ i, a ≤ i → i < a + n → K i = K a) (hend : a + n = 65536 ∨ a + n < 65536 ∧ K (a + n) ≠ K a) :
    marksTo K (a + n) = marksTo K a ++ [((a : Int), (n : Int), K a == 1)] := by
  have h0 : markAt K a = some ((a : Int), (n : Int), K a == 1) := by
    unfold markAt
    rw [if_pos ⟨hk, hb⟩, runLen_eq K (K a) (65536 - a) a n (by omega) hall (by rcases hend with h | h; exact .inl (by omega); exact .inr h.2)]
  refine filterMap_range_first _ a n _ hn h0 fun i h1 h2 => ?_
  unfold markAt
  rw [if_neg]
  rintro ⟨_, h | h⟩
  · omega
  · exact h ((hall (a + i - 1) (by omega) (by omega)).trans (hall (a + i) (by omega) (by omega)).symm)
/-- A free address: nothing. -/
theorem marks_free (K : Nat → Int) (a : Nat) (h : K a = 0) : marksTo K (a + 1) = marksTo K a := by
  unfold marksTo
  rw [List.range_succ, List.filterMap_append]
  simp [markAt, h]
theorem blocks_free (K M : Nat → Int) (a : Nat) (h : K a = 0) : blocksTo K M (a + 1) = blocksTo K M a := by
  unfold blocksTo
  rw [List.range_succ, List.filterMap_append]
  simp [blockAt, h]
/-- A stretch of taken addresses: one block. -/
theorem blocks_run (K M : Nat → Int) (a n : Nat) (hn : 0 < n) (hb : a = 0 ∨ K (a - 1) = 0) (hall : ∀ i, a ≤ i → i < a + n → K i ≠ 0) (hend : a + n = 65536 ∨ a + n < 65536 ∧ K (a + n) = 0) :
    blocksTo K M (a + n) = blocksTo K M a ++ [((a : Int), (List.range n).map fun j => M (a + j))] := by
  have h0 : blockAt K M a = some ((a : Int), (List.range n).map fun j => M (a + j)) := by
    unfold blockAt
    rw [if_pos ⟨hall a (Nat.le_refl _) (by omega), hb⟩, nzLen_eq K (65536 - a) a n (by omega) hall (by rcases hend with h | h; exact .inl (by omega); exact .inr h.2)]
  refine filterMap_range_first _ a n _ hn h0 fun i h1 h2 => ?_
  unfold blockAt
  rw [if_neg]
  rintro ⟨_, h | h⟩
  · omega
  · exact hall (a + i - 1) (by omega) (by omega) h
end Go.Proofs.YtpjdkdphklgfjaaDoor

/- The object's making: what lives on from step to step. -/
namespace Go.Proofs.YtpjdkdphklgfjaaDoor
open Go.RowKit Go.Shelf Go.Maps
set_option linter.unusedVariables false
set_option linter.unusedSimpArgs false

theorem info_byte : (Tryd.prog.info? 5).map (fun i => (i.zero, i.size, i.bytes)) = some (some (.int .u8 0), 1, 1) := by kernel_rfl
theorem info_mark : (Tryd.prog.info? 93).map (fun i => (i.zero, i.size, i.bytes)) = some (some (.agg #[.int .i64 0, .int .i64 0, .bool false]), 3, 24) := by kernel_rfl
theorem info_block : (Tryd.prog.info? 40).map (fun i => (i.zero, i.size, i.bytes)) = some (some (.agg #[.int .i64 0, .slice none 0 0]), 2, 32) := by kernel_rfl
theorem info_label : (Tryd.prog.info? 79).map (fun i => (i.zero, i.size, i.bytes)) = some (some (.agg #[.string ⟨#[]⟩, .int .i64 0]), 2, 24) := by kernel_rfl
theorem under_marks : Tryd.prog.underlying 32 = some (.slice 93) := by kernel_rfl
theorem under_blocks : Tryd.prog.underlying 31 = some (.slice 40) := by kernel_rfl
theorem under_labels : Tryd.prog.underlying 33 = some (.slice 79) := by kernel_rfl

/-- A value's own bytes. -/
def Bytes_ (w : World) (base : Nat) (v : Value) (bs : List Int) : Prop := w.ownsRow base 5 1 v bs.length (bs.map (Value.int .u8))

theorem rows_apart {w : World} {b1 b2 e1 e2 s1 s2 n1 n2 : Nat} {v1 v2 : Value} {x1 x2 : List Value} (h1 : w.ownsRow b1 e1 s1 v1 n1 x1) (h2 : w.ownsRow b2 e2 s2 v2 n2 x2) (he : e1 ≠ e2) : v1.ownBlock = none ∨ v1.ownBlock ≠ v2.ownBlock := by
  rcases h1.2 with ⟨rfl, _⟩ | ⟨g, cap, cur, rfl, _, hg, _⟩
  · left; rfl
  · right
    rcases h2.2 with ⟨rfl, _⟩ | ⟨g', cap', cur', rfl, _, hg', _⟩
    · simp [Value.ownBlock]
    · intro e
      simp [Value.ownBlock] at e
      subst e
      rw [hg] at hg'
      simp at hg'
      exact he hg'.2

theorem slice_no_nil (b o n c : Nat) (w : World) : (binOp .eql 22 (.slice (some ⟨b, o, none⟩) n c) (.slice none 0 0)).run Tryd.prog w = .ok (.bool false) w := by kernel_rfl

set_option maxRecDepth 100000 in
/-- slices.Clone, of bytes. -/
theorem clone_bytes (b o n c : Nat) (xs : List Int) (w : World) (hn : xs.length = n) (h0 : 0 < n) (h1 : n ≤ 65536) (hc : CellsAt w b o (xs.map (Value.int .u8))) :
    Calls Tryd.prog 36 #[.slice (some ⟨b, o, none⟩) n c] w fun e w' => ∃ g cap, e = .returned (.slice (some ⟨g, 0, none⟩) n cap) ∧ Bytes_ w' w.heap.size (.slice (some ⟨g, 0, none⟩) n cap) xs ∧ Below w.heap.size w w' := by
  obtain ⟨i0, hi0, hz0, hz1, hz2⟩ := info_parts info_byte
  have HC := Lib.hid hc
  have hnil := slice_no_nil b o n c w
  clear hc
  go_enter Tryd.func36, Tryd.ntmps36
  go_wp2_with (at_builtin; refine wpList_append_lies _ rfl _ _ _ rfl w.heap.size 5 i0 _ 1 1 under_bytes hi0 hz0 hz1 hz2 rfl (by omega) _ 0 [] (by rfl) (World.ownsRow_made w #[] 0 (Nat.le_refl _) (by simp [maxLen]) rfl) ⟨b, o, none⟩ n c (xs.map (Value.int .u8)) (by rfl) (by simp [hn]) (fun j u hu => by rw [show (⟨b, o, none⟩ : Addr).add j = ⟨b, o + j, none⟩ by unfold Addr.add; simp]; exact cell_below (below_new _ _) (HC.out j u hu)) (by simp [Value.oneCell']) h0 (by simp [maxLen]; omega) (by omega) (by simp) _ rfl ?_)
  intro g cap w1 hown hgrow hat hlt
  have HO := Lib.hid hown
  have HG := Lib.hid hgrow
  clear hown hgrow
  go_wp2_with fail
  go_ret
  have hown := HO.out
  refine ⟨g, cap, rfl, ?_, below_grown (below_new _ _) HG.out (by simp) (by intro k e; simp [Value.ownBlock] at e; omega)⟩
  unfold Bytes_
  rw [hn]
  simpa using hown
end Go.Proofs.YtpjdkdphklgfjaaDoor

/- The object's making: the parts made so far. -/
namespace Go.Proofs.YtpjdkdphklgfjaaDoor
open Go.RowKit Go.Shelf Go.Maps
set_option linter.unusedVariables false
set_option linter.unusedSimpArgs false

structure Apart3 (w0 : World) (y m t base : Nat) : Prop where
  y0 : w0.heap.size ≤ y
  m0 : w0.heap.size ≤ m
  t0 : w0.heap.size ≤ t
  ym : y ≠ m
  yt : y ≠ t
  mt : m ≠ t
  yb : y < base
  mb : m < base
  tb : t < base
  tp : 0 < t

def blockCells (p : Int × Value × List Int) : List Value := [.int .i64 p.1, p.2.1]
def markCells (p : Int × Int × Bool) : List Value := [.int .i64 p.1, .int .i64 p.2.1, .bool p.2.2]
def labelCells (p : ByteArray × Int) : List Value := [.string p.1, .int .i64 p.2]

structure Built (w0 wr : World) (y m t base : Nat) (lv av : Value) (s : LayS) (M : Nat → Int) (bv kv nv : Value) (bl : List (Int × Value × List Int)) (mk : List (Int × Int × Bool)) (nl : List (ByteArray × Int)) : Prop where
  below : Below w0.heap.size w0 wr
  lay : LayAt wr y lv av (.map (some m)) s.K M
  own : wr.ownsMap Tryd.prog 9 (plainElem Tryd.prog 3) m s.labs.length (mapOf s.labs)
  o0 : wr.cell? ⟨t, 0, none⟩ = some bv
  o1 : wr.cell? ⟨t, 1, none⟩ = some kv
  o2 : wr.cell? ⟨t, 2, none⟩ = some nv
  ofree : ∀ o, wr.frozen? ⟨t, o, none⟩ = false
  brow : wr.ownsRow base 40 2 bv bl.length (bl.flatMap blockCells)
  krow : wr.ownsRow base 93 3 kv mk.length (mk.flatMap markCells)
  nrow : wr.ownsRow base 79 2 nv nl.length (nl.flatMap labelCells)
  bytes : ∀ p ∈ bl, Bytes_ wr base p.2.1 p.2.2
  hb : base ≤ wr.heap.size
  ub : wr.heap[t - 1]? = some (.cells #[.slice none 0 0, .slice none 0 0, .slice none 0 0] 35)

theorem row_far {w : World} {base e size n : Nat} {v : Value} {xs : List Value} (h : w.ownsRow base e size v n xs) {q : Nat} (hq : q < base) : some q ≠ v.ownBlock := fun e => by have := (h.lt q e.symm).1; omega
theorem row_set {w : World} {base e size n : Nat} {v : Value} {xs : List Value} (h : w.ownsRow base e size v n xs) {t : Nat} (ht : t < base) (o : Nat) (u : Value) : (w.setCell ⟨t, o, none⟩ u).ownsRow base e size v n xs :=
  h.kept (grown_set w t o u) (.inr fun e => row_far h ht e.symm)

theorem Built.keep {w0 wr w1 : World} {y m t base : Nat} {lv av : Value} {s : LayS} {M : Nat → Int} {bv kv nv : Value} {bl : List (Int × Value × List Int)} {mk : List (Int × Int × Bool)} {nl : List (ByteArray × Int)}
    (B : Built w0 wr y m t base lv av s M bv kv nv bl mk nl) (h : Below wr.heap.size wr w1) : Built w0 w1 y m t base lv av s M bv kv nv bl mk nl :=
  have hg := grown_below h none
  have k : ∀ {e size n : Nat} {v : Value} {xs : List Value}, wr.ownsRow base e size v n xs → w1.ownsRow base e size v n xs := fun {_ _ _ v _} hr => hr.kept hg (by cases hv : v.ownBlock <;> simp)
  ⟨below_grown B.below hg B.below.size (by simp), B.lay.below h, B.own.kept hg (by simp), cell_below h B.o0, cell_below h B.o1, cell_below h B.o2,
    fun o => (h.frozen (p := ⟨t, o, none⟩) (show t < wr.heap.size from cell_lt (a := ⟨t, 0, none⟩) B.o0)).trans (B.ofree o), k B.brow, k B.krow, k B.nrow, fun p hp => k (B.bytes p hp), Nat.le_trans B.hb h.size, (h.block _ (Array.getElem?_eq_some_iff.1 B.ub).1).trans B.ub⟩

/-- A row of the object's has grown, its new header is stored. -/
theorem Built.grow {w0 wr w1 : World} {y m t base : Nat} {lv av : Value} {s : LayS} {M : Nat → Int} {bv kv nv : Value} {bl : List (Int × Value × List Int)} {mk : List (Int × Int × Bool)} {nl : List (ByteArray × Int)}
    (B : Built w0 wr y m t base lv av s M bv kv nv bl mk nl) (ap : Apart3 w0 y m t base) {e size n : Nat} {v : Value} {xs : List Value} (hv : wr.ownsRow base e size v n xs) (hgrow : wr.grownBy w1 v.ownBlock) (o : Nat) (u : Value) :
    Below w0.heap.size w0 (w1.setCell ⟨t, o, none⟩ u) ∧ LayAt (w1.setCell ⟨t, o, none⟩ u) y lv av (.map (some m)) s.K M ∧ (w1.setCell ⟨t, o, none⟩ u).ownsMap Tryd.prog 9 (plainElem Tryd.prog 3) m s.labs.length (mapOf s.labs) ∧
      (∀ j x, wr.cell? ⟨t, j, none⟩ = some x → o ≠ j → (w1.setCell ⟨t, o, none⟩ u).cell? ⟨t, j, none⟩ = some x) ∧ (∀ x, wr.cell? ⟨t, o, none⟩ = some x → (w1.setCell ⟨t, o, none⟩ u).cell? ⟨t, o, none⟩ = some u) ∧
      (∀ j, (w1.setCell ⟨t, o, none⟩ u).frozen? ⟨t, j, none⟩ = false) ∧ base ≤ (w1.setCell ⟨t, o, none⟩ u).heap.size ∧
      (∀ {e2 size2 n2 : Nat} {v2 : Value} {xs2 : List Value}, wr.ownsRow base e2 size2 v2 n2 xs2 → e2 ≠ e → (w1.setCell ⟨t, o, none⟩ u).ownsRow base e2 size2 v2 n2 xs2) ∧
      (w1.setCell ⟨t, o, none⟩ u).heap[t - 1]? = some (.cells #[.slice none 0 0, .slice none 0 0, .slice none 0 0] 35) := by
  have tl : t < wr.heap.size := cell_lt B.o0
  have ht : w1.heap[t]? = wr.heap[t]? := hgrow.block t tl (row_far hv ap.tb)
  have hy : w1.heap[y]? = wr.heap[y]? := hgrow.block y B.lay.lt (row_far hv ap.yb)
  have hg := grown_set w1 t o u
  have b1 : Below w0.heap.size w0 w1 := below_grown B.below hgrow B.below.size (by
    intro k e
    have := (hv.lt k e).1
    have := ap.t0
    have := ap.tb
    omega)
  refine ⟨below_grown b1 hg b1.size (by intro k e; cases e; exact ap.t0), (B.lay.kept hy).kept (hg.block y (Nat.lt_of_lt_of_le B.lay.lt hgrow.size) (by simp [ap.yt])), (B.own.kept hgrow (row_far hv ap.mb)).kept hg (by simp [ap.mt]), ?_, ?_, ?_, Nat.le_trans B.hb (Nat.le_trans hgrow.size hg.size), ?_, ?_⟩
  · intro j x hx hj
    exact (set_other (fun h => hj h.2)).trans ((World.cell?_of_block (w := wr) ht).trans hx)
  · intro x hx
    exact set_same ((World.cell?_of_block (w := wr) ht).trans hx)
  · intro j
    exact set_frozen.trans ((World.frozen?_of_block (w := wr) ht).trans (B.ofree j))
  · intro e2 size2 n2 v2 xs2 h2 hne
    exact row_set (h2.kept hgrow (rows_apart h2 hv hne)) ap.tb o u
  · have hu := (Array.getElem?_eq_some_iff.1 B.ub).1
    have q1 := ap.tb
    have q2 := ap.tp
    exact (hg.block (t - 1) (Nat.lt_of_lt_of_le hu hgrow.size) (by simp; omega)).trans ((hgrow.block (t - 1) hu (row_far hv (by omega))).trans B.ub)

theorem Built.mark {w0 wr w1 : World} {y m t base : Nat} {lv av : Value} {s : LayS} {M : Nat → Int} {bv kv nv kv1 : Value} {bl : List (Int × Value × List Int)} {mk : List (Int × Int × Bool)} {nl : List (ByteArray × Int)}
    (B : Built w0 wr y m t base lv av s M bv kv nv bl mk nl) (ap : Apart3 w0 y m t base) (q : Int × Int × Bool) (hown : w1.ownsRow base 93 3 kv1 (mk.length + 1) (mk.flatMap markCells ++ markCells q)) (hgrow : wr.grownBy w1 kv.ownBlock) :
    Built w0 (w1.setCell ⟨t, 1, none⟩ kv1) y m t base lv av s M bv kv1 nv bl (mk ++ [q]) nl := by
  obtain ⟨g1, g2, g3, g4, g5, g6, g7, g8, g9⟩ := B.grow ap B.krow hgrow 1 kv1
  exact ⟨g1, g2, g3, g4 0 _ B.o0 (by omega), g5 _ B.o1, g4 2 _ B.o2 (by omega), g6, g8 B.brow (by decide), by simpa using row_set hown ap.tb 1 kv1, g8 B.nrow (by decide), fun p hp => g8 (B.bytes p hp) (by decide), g7, g9⟩

theorem Built.block {w0 wr w1 : World} {y m t base : Nat} {lv av : Value} {s : LayS} {M : Nat → Int} {bv kv nv bv1 : Value} {bl : List (Int × Value × List Int)} {mk : List (Int × Int × Bool)} {nl : List (ByteArray × Int)}
    (B : Built w0 wr y m t base lv av s M bv kv nv bl mk nl) (ap : Apart3 w0 y m t base) (q : Int × Value × List Int) (hq : Bytes_ wr base q.2.1 q.2.2) (hown : w1.ownsRow base 40 2 bv1 (bl.length + 1) (bl.flatMap blockCells ++ blockCells q)) (hgrow : wr.grownBy w1 bv.ownBlock) :
    Built w0 (w1.setCell ⟨t, 0, none⟩ bv1) y m t base lv av s M bv1 kv nv (bl ++ [q]) mk nl := by
  obtain ⟨g1, g2, g3, g4, g5, g6, g7, g8, g9⟩ := B.grow ap B.brow hgrow 0 bv1
  refine ⟨g1, g2, g3, g5 _ B.o0, g4 1 _ B.o1 (by omega), g4 2 _ B.o2 (by omega), g6, by simpa using row_set hown ap.tb 0 bv1, g8 B.krow (by decide), g8 B.nrow (by decide), fun p hp => ?_, g7, g9⟩
  rcases List.mem_append.1 hp with hp | hp
  · exact g8 (B.bytes p hp) (by decide)
  · rw [List.mem_singleton] at hp
    subst hp
    exact g8 hq (by decide)

theorem Built.label {w0 wr w1 : World} {y m t base : Nat} {lv av : Value} {s : LayS} {M : Nat → Int} {bv kv nv nv1 : Value} {bl : List (Int × Value × List Int)} {mk : List (Int × Int × Bool)} {nl : List (ByteArray × Int)}
    (B : Built w0 wr y m t base lv av s M bv kv nv bl mk nl) (ap : Apart3 w0 y m t base) (q : ByteArray × Int) (hown : w1.ownsRow base 79 2 nv1 (nl.length + 1) (nl.flatMap labelCells ++ labelCells q)) (hgrow : wr.grownBy w1 nv.ownBlock) :
    Built w0 (w1.setCell ⟨t, 2, none⟩ nv1) y m t base lv av s M bv kv nv1 bl mk (nl ++ [q]) := by
  obtain ⟨g1, g2, g3, g4, g5, g6, g7, g8, g9⟩ := B.grow ap B.nrow hgrow 2 nv1
  exact ⟨g1, g2, g3, g4 0 _ B.o0 (by omega), g4 1 _ B.o1 (by omega), g5 _ B.o2, g6, g8 B.brow (by decide), g8 B.krow (by decide), by simpa using row_set hown ap.tb 2 nv1, fun p hp => g8 (B.bytes p hp) (by decide), g7, g9⟩
end Go.Proofs.YtpjdkdphklgfjaaDoor

/- Labels in plain Lean: no two of one name; the round over the map of them. -/
namespace Go.Proofs.YtpjdkdphklgfjaaDoor
open Go.Maps
set_option linter.unusedVariables false
set_option linter.unusedSimpArgs false

def keysOK (l : List (ByteArray × Int)) : Prop := (l.map Prod.fst).Nodup
theorem lookL_none {l : List (ByteArray × Int)} {s : ByteArray} (h : lookL l s = none) : s ∉ l.map Prod.fst := by
  induction l with
  | nil => simp
  | cons p l ih =>
    unfold lookL at h
    by_cases e : p.1 = s
    · rw [if_pos e] at h; cases h
    · rw [if_neg e] at h
      simp only [List.map_cons, List.mem_cons]
      rintro (h1 | h1)
      · exact e h1.symm
      · exact ih h h1
theorem lookL_mem {l : List (ByteArray × Int)} (hk : keysOK l) {p : ByteArray × Int} (hp : p ∈ l) : lookL l p.1 = some p.2 := by
  induction l with
  | nil => cases hp
  | cons q l ih =>
    unfold keysOK at hk
    rw [List.map_cons, List.nodup_cons] at hk
    unfold lookL
    rcases List.mem_cons.1 hp with rfl | h
    · rw [if_pos rfl]
    · rw [if_neg (fun e => hk.1 (by rw [e]; exact List.mem_map.2 ⟨p, h, rfl⟩))]
      exact ih hk.2 h
theorem lookL_some {l : List (ByteArray × Int)} {s : ByteArray} {a : Int} (h : lookL l s = some a) : (s, a) ∈ l := by
  induction l with
  | nil => cases h
  | cons p l ih =>
    unfold lookL at h
    by_cases e : p.1 = s
    · rw [if_pos e] at h
      cases h
      subst e
      exact List.mem_cons_self ..
    · rw [if_neg e] at h
      exact List.mem_cons_of_mem _ (ih h)
theorem layStep_keys {s s' : LayS} {x : Item} (h : keysOK s.labs) (hs : layStep s x = .inr s') : keysOK s'.labs := by
  unfold layStep at hs
  by_cases h4 : x.kind = 4
  · rw [if_pos h4] at hs; cases hs; exact h
  · rw [if_neg h4] at hs
    split at hs
    · cases hs
    · split at hs
      · cases hs
      · rename_i h2
        split at hs
        · cases hs
        · split at hs
          · cases hs
          · cases hs
            show keysOK (labsOf s x)
            unfold labsOf
            by_cases hk : x.kind = 1
            · rw [if_pos hk]
              unfold keysOK
              rw [List.map_cons, List.nodup_cons]
              refine ⟨lookL_none ?_, h⟩
              cases hq : lookL s.labs x.name with
              | none => rfl
              | some a => exact absurd ⟨hk, by rw [hq]; rfl⟩ h2
            · rw [if_neg hk]; exact h
theorem layFrom_keys (l : List Item) : ∀ (s : LayS) (i : Int) (s' : LayS), layFrom l s i = .inr s' → keysOK s.labs → keysOK s'.labs := by
  induction l with
  | nil => intro s i s' h hk; cases h; exact hk
  | cons x l ih =>
    intro s i s' h hk
    unfold layFrom at h
    cases hs : layStep s x with
    | inl e => rw [hs] at h; cases h
    | inr s1 => rw [hs] at h; exact ih s1 _ s' h (layStep_keys hk hs)

theorem has_mapOf_some : ∀ (l : List (ByteArray × Int)) (kl : Lit), Maps.has (mapOf l) kl = true → ∃ p ∈ l, kl = .string p.1.data.toList
  | [], kl, h => by cases h
  | p :: l, kl, h => by
    by_cases e : kl = .string p.1.data.toList
    · exact ⟨p, List.mem_cons_self .., e⟩
    · unfold mapOf at h
      rw [has_put_other e] at h
      obtain ⟨q, hq, hk⟩ := has_mapOf_some l kl h
      exact ⟨q, List.mem_cons_of_mem _ hq, hk⟩

/-- What is still to come of a round over the labels. -/
structure ToCome (labs nl rest : List (ByteArray × Int)) (left : Lit → Bool) : Prop where
  perm : (nl ++ rest).Perm labs
  some : ∀ kl, left kl = true → ∃ p ∈ rest, kl = .string p.1.data.toList
  all : ∀ p ∈ rest, left (.string p.1.data.toList) = true

theorem ToCome.start {labs : List (ByteArray × Int)} (hk : keysOK labs) : ToCome labs [] labs (Maps.has (mapOf labs)) :=
  ⟨List.Perm.refl _, has_mapOf_some labs, fun p hp => by rw [has_mapOf, lookL_mem hk hp]; rfl⟩
theorem ToCome.stop {labs nl rest : List (ByteArray × Int)} {left : Lit → Bool} (h : ToCome labs nl rest left) (hl : ∀ kl, left kl = false) : nl.Perm labs := by
  cases rest with
  | nil => simpa using h.perm
  | cons p r => have := h.all p (List.mem_cons_self ..); rw [hl] at this; cases this
theorem key_lit (s : ByteArray) : WideAt.IsKeyLit (.string s.data.toList) := by simp [WideAt.IsKeyLit]
theorem ToCome.step {labs nl rest : List (ByteArray × Int)} {left : Lit → Bool} (h : ToCome labs nl rest left) (hk : keysOK labs) {kl : Lit} (hl : left kl = true) :
    ∃ p, kl = .string p.1.data.toList ∧ lookL labs p.1 = Option.some p.2 ∧ p ∈ labs ∧ ∃ rest', ToCome labs (nl ++ [p]) rest' (fun z => left z && !z.sameKey kl) := by
  obtain ⟨p, hp, rfl⟩ := h.some kl hl
  have hp2 : p ∈ labs := h.perm.mem_iff.1 (List.mem_append.2 (.inr hp))
  obtain ⟨r, hpe⟩ : ∃ r, rest.Perm (p :: r) := by
    obtain ⟨l1, l2, rfl⟩ := List.append_of_mem hp
    exact ⟨l1 ++ l2, List.perm_middle⟩
  have hkr : (rest.map Prod.fst).Nodup := by
    have h1 : ((nl ++ rest).map Prod.fst).Nodup := ((h.perm.map Prod.fst).nodup_iff).2 hk
    rw [List.map_append, List.nodup_append] at h1
    exact h1.2.1
  have hke : ((p :: r).map Prod.fst).Nodup := ((hpe.map Prod.fst).nodup_iff).1 hkr
  rw [List.map_cons, List.nodup_cons] at hke
  refine ⟨p, rfl, lookL_mem hk hp2, hp2, r, ?_, ?_, ?_⟩
  · refine List.Perm.trans ?_ h.perm
    rw [List.append_assoc]
    exact List.Perm.append_left nl hpe.symm
  · intro kl hkl
    simp only [Bool.and_eq_true, Bool.not_eq_true'] at hkl
    obtain ⟨q, hq, rfl⟩ := h.some kl hkl.1
    refine ⟨q, ?_, rfl⟩
    rcases List.mem_cons.1 (hpe.mem_iff.1 hq) with rfl | h1
    · rw [WideAt.sameKey_self (key_lit _)] at hkl
      cases hkl.2
    · exact h1
  · intro q hq
    have hq2 : q ∈ rest := hpe.mem_iff.2 (List.mem_cons_of_mem _ hq)
    simp only [h.all q hq2, Bool.true_and, Bool.not_eq_true']
    cases hs : (Lit.string q.1.data.toList).sameKey (.string p.1.data.toList)
    · rfl
    · have e := WideAt.sameKey_eq hs
      injection e with e
      have e2 := Go.WideShapes.bytes_inj e
      exact absurd (List.mem_map.2 ⟨q, hq, e2⟩) hke.1
end Go.Proofs.YtpjdkdphklgfjaaDoor

/- The object's making: the round over the labels. -/
namespace Go.Proofs.YtpjdkdphklgfjaaDoor
open Go.RowKit Go.Shelf Go.Maps
set_option linter.unusedVariables false
set_option linter.unusedSimpArgs false

theorem ranges_iter {H : Type} {P : Program} {k : TypeId} {R : Value → Option (DataW H × List MemPlace)} {w : World} {b r n : Nat} {D : DataW H} {left : Lit → Bool} {cnt : Nat} (h : w.ranges P k R b r n D left cnt) : ∃ x1 x2 x3 x4, w.heap[r]? = some (.mapIter x1 x2 x3 x4) := by
  obtain ⟨_, _, _, _, _, _, _, _, _, hr, _⟩ := h
  exact ⟨_, _, _, _, hr⟩
theorem row_not_iter {w : World} {base e size n : Nat} {v : Value} {xs : List Value} (h : w.ownsRow base e size v n xs) {r : Nat} (hr : ∃ x1 x2 x3 x4, w.heap[r]? = some (.mapIter x1 x2 x3 x4)) : v.ownBlock = none ∨ v.ownBlock ≠ some r := by
  obtain ⟨x1, x2, x3, x4, hr⟩ := hr
  rcases h.2 with ⟨rfl, _⟩ | ⟨g, cap, cur, rfl, _, hg, _⟩
  · left; rfl
  · right
    intro e
    simp [Value.ownBlock] at e
    subst e
    rw [hr] at hg
    cases hg
/-- The iterator has stepped. -/
theorem Built.iter {w0 wr w1 : World} {y m t base r : Nat} {lv av : Value} {s : LayS} {M : Nat → Int} {bv kv nv : Value} {bl : List (Int × Value × List Int)} {mk : List (Int × Int × Bool)} {nl : List (ByteArray × Int)}
    (B : Built w0 wr y m t base lv av s M bv kv nv bl mk nl) (ap : Apart3 w0 y m t base) (hb : base ≤ r) (hr : ∃ x1 x2 x3 x4, wr.heap[r]? = some (.mapIter x1 x2 x3 x4)) (hg : wr.grownBy w1 (some r)) : Built w0 w1 y m t base lv av s M bv kv nv bl mk nl := by
  have tl : t < wr.heap.size := cell_lt (a := ⟨t, 0, none⟩) B.o0
  have q1 := ap.tb
  have q2 := ap.yb
  have q3 := ap.mb
  have q4 := ap.t0
  have ht : w1.heap[t]? = wr.heap[t]? := hg.block t tl (by simp; omega)
  have hy : w1.heap[y]? = wr.heap[y]? := hg.block y B.lay.lt (by simp; omega)
  have e : ∀ o, w1.cell? ⟨t, o, none⟩ = wr.cell? ⟨t, o, none⟩ := fun o => World.cell?_of_block (w := wr) ht
  exact ⟨below_grown B.below hg B.below.size (by intro k e; cases e; omega), B.lay.kept hy, B.own.kept hg (by simp; omega), (e _).trans B.o0, (e _).trans B.o1, (e _).trans B.o2,
    fun o => (World.frozen?_of_block (w := wr) ht).trans (B.ofree o), B.brow.kept hg (row_not_iter B.brow hr), B.krow.kept hg (row_not_iter B.krow hr), B.nrow.kept hg (row_not_iter B.nrow hr), fun p hp => (B.bytes p hp).kept hg (row_not_iter (B.bytes p hp) hr), Nat.le_trans B.hb hg.size, (hg.block (t - 1) (Array.getElem?_eq_some_iff.1 B.ub).1 (by simp; omega)).trans B.ub⟩

theorem inv_str (key : Value) (kl : Lit) (h : keyOf Tryd.prog 9 key = some kl) : ∃ x, key = .string x ∧ kl = .string x.data.toList := by
  cases key <;> simp [keyOf, mapKey, under_string] at h
  exact ⟨_, rfl, h.2.symm⟩
theorem inv_int (v : Value) (y : DataW Unit × List MemPlace) (h : plainElem Tryd.prog 3 v = some y) : ∃ c, v = .int .i64 c ∧ y = (.lit (.int .i64 c), []) := by
  obtain ⟨a, h1, h2, _⟩ := plainElem_int_inv under_int h
  exact ⟨a, h1, h2⟩
end Go.Proofs.YtpjdkdphklgfjaaDoor

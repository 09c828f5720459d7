/- The second pass, in plain Lean; the things of an item, all four kinds under one roof. -/
import Derived.Test.YtpjdkdphklgfjaaDoorAsm2
import Derived.Test.YtpjdkdphklgfjaaDoorPlaces2
import Derived.Test.YtpjdkdphklgfjaaDoorPlaces4
import Derived.Laws.IdiomCopy
import Derived.Shelf.Spec.SlicesInsert
namespace Go.Proofs.YtpjdkdphklgfjaaDoor
open Go.RowKit Go.Shelf Go.Maps
set_option linter.unusedVariables false
set_option linter.unusedSimpArgs false

/-- The bytes of an item at 'at_', its label at a; an error. -/
def layBytes (x : Item) (at_ a : Int) : List Int × Int :=
  if x.kind = 2 then ordBytes x.name x.arg x.part at_ a else if x.kind = 3 then (x.bytes, 0) else if x.kind = 5 then ([a / 256, a % 256], 0) else ([], 0)
/-- The label that an item asks for. -/
def asksI (x : Item) : Option ByteArray :=
  if x.kind = 2 then (if x.part = 0 then none else some x.label) else if x.kind = 5 then some x.label else none
def setM (M : Nat → Int) (p : Nat) (bs : List Int) : Nat → Int := fun i => if p ≤ i ∧ i < p + bs.length then bs.getD (i - p) 0 else M i
/-- Which address an item is told (none: its label is told nowhere). -/
def wantI (labs : List (ByteArray × Int)) (x : Item) : Option Int := match asksI x with | some s => lookL labs s | none => some 0
def fillStep (labs : List (ByteArray × Int)) (x : Item) (at_ : Int) (M : Nat → Int) : Int ⊕ (Nat → Int) :=
  match wantI labs x with
  | none => .inl 141
  | some a => if (layBytes x at_ a).2 = 0 then .inr (setM M at_.toNat (layBytes x at_ a).1) else .inl (layBytes x at_ a).2
def fillFrom (labs : List (ByteArray × Int)) : List Item → List Int → (Nat → Int) → Int → (Int × Int) ⊕ (Nat → Int)
  | x :: l, p :: ps, M, i => match fillStep labs x p M with
    | .inl e => .inl (e, i)
    | .inr M' => fillFrom labs l ps M' (i + 1)
  | _, _, M, _ => .inr M

theorem Item.first2 {x : Item} (h : x.may = true) (h2 : x.kind = 2) : 0 ≤ firstI x.name := by
  unfold Item.may mayB at h
  rw [if_pos h2] at h
  unfold instrB at h
  by_cases h' : firstI x.name < 0
  · rw [if_pos h'] at h; cases h
  · omega

theorem thing_is (x : Item) (A : Option Addr) (c : Nat) (hm : x.may = true) (hwf : x.wf) : ∃ ty pv f pv2 nm,
    thingV x.kind x.name x.arg x.label x.part (.slice A x.bytes.length c) = .iface ty pv ∧
    (∀ w, Calls Tryd.prog 54 #[.iface ty pv] w fun e w' => e = .returned (.tuple #[.string nm, .bool (asksI x).isSome]) ∧ Below w.heap.size w w') ∧
    (∀ s, asksI x = some s → nm = s) ∧
    (f = 133 ∨ f = 134 ∨ f = 135 ∨ f = 136) ∧
    (∀ w, (nilAhead 286 ty pv "vesper/asm.lay").run Tryd.prog w = .ok (some false) w) ∧ (∀ w, (method 286 ty pv "vesper/asm.lay").run Tryd.prog w = .ok (f, pv2) w) ∧
    (∀ w at_ a, Tabs w → BytesAt w A x.bytes → 0 ≤ a → a ≤ 65535 → 0 ≤ at_ → at_ ≤ 65536 → Calls Tryd.prog f #[pv2, .int .i64 at_, .int .i64 a] w (RetLay w (layBytes x at_ a).1 (layBytes x at_ a).2)) := by
  obtain ⟨y0, y1, y2, y3, y4, y5, y6, y7, y8, _⟩ := hwf
  unfold thingV layBytes asksI
  by_cases h2 : x.kind = 2
  · simp only [if_pos h2]
    refine ⟨_, _, 133, .agg #[.int .u8 2, .string x.name, .int .i64 x.arg, .string x.label, .int .u8 x.part, .slice A x.bytes.length c], x.label, rfl, fun w => ?_, ?_, by simp, fun w => by kernel_rfl, fun w => by kernel_rfl, ?_⟩
    · refine (asks_order _ _ _ _ _ _ _ _ w).mono ?_
      rintro e w' ⟨rfl, hb⟩
      refine ⟨?_, hb⟩
      by_cases hp : x.part = 0
      · rw [if_pos hp, hp]; rfl
      · rw [if_neg hp, show (x.part != 0) = true by simpa using hp]; rfl
    · intro s hs
      by_cases hp : x.part = 0
      · rw [if_pos hp] at hs; cases hs
      · rw [if_neg hp] at hs; cases hs; rfl
    · intro w at_ a hT _ h3 h4 h5 h6
      exact lay_order _ _ _ _ _ _ _ _ at_ a w hT y3 y4 (Item.first2 hm h2) h3 h4 h5 h6
  · simp only [if_neg h2]
    by_cases h3 : x.kind = 3
    · simp only [if_pos h3, if_neg (show ¬ x.kind = 5 by omega)]
      refine ⟨_, _, 134, .slice A x.bytes.length c, ⟨#[]⟩, rfl, fun w => ?_, by simp, by simp, fun w => by kernel_rfl, fun w => by kernel_rfl, ?_⟩
      · exact (asks_bytes _ _ _ w)
      · intro w at_ a hT hy _ _ _ _
        exact lay_bytes A c x.bytes at_ a w hy
    · simp only [if_neg h3]
      by_cases h5 : x.kind = 5
      · simp only [if_pos h5]
        refine ⟨_, _, 135, .string x.label, x.label, rfl, fun w => ?_, by simp, by simp, fun w => by kernel_rfl, fun w => by kernel_rfl, ?_⟩
        · exact (asks_addr _ w)
        · intro w at_ a hT hy q1 q2 _ _
          exact lay_addr x.label at_ a w q1 q2
      · simp only [if_neg h5]
        refine ⟨_, _, 136, .agg #[], ⟨#[]⟩, rfl, fun w => ?_, by simp, by simp, fun w => by kernel_rfl, fun w => by kernel_rfl, ?_⟩
        · exact (asks_none w)
        · intro w at_ a hT hy _ _ _ _
          exact lay_none at_ a w
end Go.Proofs.YtpjdkdphklgfjaaDoor

/- The second pass: what lives on from step to step. -/
namespace Go.Proofs.YtpjdkdphklgfjaaDoor
open Go.RowKit Go.Shelf Go.Maps
set_option linter.unusedVariables false
set_option linter.unusedSimpArgs false

theorem LayAt.sameM {w : World} {y : Nat} {lv av mv : Value} {K M M' : Nat → Int} (h : LayAt w y lv av mv K M) (e : ∀ i, i < 65536 → M i = M' i) : LayAt w y lv av mv K M' :=
  ⟨h.c0, h.c1, h.c2, h.kinds, fun i hi => by rw [← e i hi]; exact h.bytes i hi, h.free⟩
theorem setM_cons (M : Nat → Int) (p : Nat) (v : Int) (r : List Int) : setM (fun j => if j = p then v else M j) (p + 1) r = setM M p (v :: r) := by
  funext i
  unfold setM
  by_cases h : i = p
  · subst h
    rw [if_neg (by omega), if_pos (by simp)]
    simp
  · by_cases h2 : p ≤ i ∧ i < p + (v :: r).length
    · simp at h2
      rw [if_pos (by omega), if_pos (by simp; omega)]
      obtain ⟨d, hd⟩ : ∃ d, i - p = d + 1 := ⟨i - p - 1, by omega⟩
      rw [hd, List.getD_cons_succ]
      congr 1
      omega
    · simp at h2
      rw [if_neg (by omega), if_neg (by simp; omega)]
      simp [h]
theorem LayAt.setRow {y : Nat} {lv av mv : Value} {K : Nat → Int} : ∀ (bs : List Int) {w : World} {M : Nat → Int} (h : LayAt w y lv av mv K M) (p : Nat) (hp : p + bs.length ≤ 65536),
    LayAt (w.setCells y (65539 + p) (bs.map (Value.int .u8))) y lv av mv K (setM M p bs)
  | [], w, M, h, p, hp => by
    refine h.sameM fun i hi => ?_
    unfold setM
    rw [if_neg (by simp)]
  | v :: r, w, M, h, p, hp => by
    simp at hp
    have := (LayAt.setRow r (h.setByte p (by omega) v) (p + 1) (by omega))
    rw [setM_cons] at this
    exact this
theorem setCells_heap (b : Nat) : ∀ (vs : List Value) (o : Nat) (w : World), w.grownBy (w.setCells b o vs) (some b)
  | [], _, w => ⟨rfl, rfl, rfl, Nat.le_refl _, fun _ _ _ => rfl⟩
  | v :: r, o, w => by
    have h1 := grown_set w b o v
    have h2 := setCells_heap b r (o + 1) (w.setCell ⟨b, o, none⟩ v)
    exact ⟨h2.os.trans h1.os, h2.tape.trans h1.tape, h2.output.trans h1.output, Nat.le_trans h1.size h2.size, fun k hk hne => (h2.block k (Nat.lt_of_lt_of_le hk h1.size) hne).trans (h1.block k hk hne)⟩

/-- What the second pass keeps. -/
structure Fills (w0 wr : World) (y m g : Nat) (lv av : Value) (s : LayS) (M : Nat → Int) : Prop where
  below : Below w0.heap.size w0 wr
  lay : LayAt wr y lv av (.map (some m)) s.K M
  ats : ∀ j a, s.ats[j]? = some a → wr.cell? ⟨g, j, none⟩ = some (.int .i64 a)
  own : wr.ownsMap Tryd.prog 9 (plainElem Tryd.prog 3) m s.labs.length (mapOf s.labs)

theorem Fills.keep {w0 wr w1 : World} {y m g : Nat} {lv av : Value} {s : LayS} {M : Nat → Int} (f : Fills w0 wr y m g lv av s M) (h : Below wr.heap.size wr w1) : Fills w0 w1 y m g lv av s M :=
  ⟨below_grown f.below (grown_below h none) f.below.size (by simp), f.lay.below h, fun j a ha => cell_below h (f.ats j a ha), f.own.kept (grown_below h none) (by simp)⟩

theorem info_u8 : (Tryd.prog.info? 5).map (·.size) = some 1 := by kernel_rfl
theorem under_bytes : Tryd.prog.underlying 22 = some (.slice 5) := by kernel_rfl

/-- An item's bytes go over. -/
theorem Fills.copy {w0 wr : World} {y m g : Nat} {lv av : Value} {s : LayS} {M : Nat → Int} (f : Fills w0 wr y m g lv av s M) (hy0 : w0.heap.size ≤ y) (hym : y ≠ m) (hyg : y ≠ g) (A : Option Addr) (bs : List Int) (c p : Nat) (hp : p ≤ 65536) (hb : BytesAt wr A bs) (d1 d2 : Nat) (hd1 : d1 = 65536 - p) :
    ∃ (n : Int) (w' : World), (Builtin.copy_ #[22, 22] 3 #[.slice (some (if 65536 = p then (⟨y, 65539, none⟩ : Addr) else ⟨y, 65539 + p, none⟩)) d1 d2, .slice A bs.length c]).run Tryd.prog wr = .ok (.int .i64 n) w' ∧ Fills w0 w' y m g lv av s (setM M p bs) := by
  subst hd1
  obtain ⟨cs, hcs⟩ : ∃ cs, bs.take (65536 - p) = cs := ⟨_, rfl⟩
  have hl : cs.length = Nat.min bs.length (65536 - p) := by rw [← hcs, List.length_take]; exact Nat.min_comm _ _
  have hpl : p + cs.length ≤ 65536 := by
    have : cs.length ≤ 65536 - p := by rw [hl]; exact Nat.min_le_right _ _
    omega
  have hgr := setCells_heap y (cs.map (Value.int .u8)) (65539 + p) wr
  have hlay : LayAt (wr.setCells y (65539 + p) (cs.map (Value.int .u8))) y lv av (.map (some m)) s.K (setM M p bs) := by
    refine (f.lay.setRow cs p hpl).sameM fun i hi => ?_
    unfold setM
    by_cases h1 : p ≤ i ∧ i < p + bs.length
    · rw [if_pos h1, if_pos ⟨h1.1, by have : cs.length = min bs.length (65536 - p) := hl; omega⟩, ← hcs]
      rw [List.getD_eq_getElem?_getD, List.getD_eq_getElem?_getD, List.getElem?_take, if_pos (by omega)]
    · rw [if_neg h1, if_neg (by have : cs.length = min bs.length (65536 - p) := hl; omega)]
  have hfin : Fills w0 (wr.setCells y (65539 + p) (cs.map (Value.int .u8))) y m g lv av s (setM M p bs) :=
    ⟨below_grown f.below hgr f.below.size (by intro k e; cases e; exact hy0), hlay, fun j a ha => (hgr.cell_far _ (cell_lt (f.ats j a ha)) (by simp; exact Ne.symm hyg)).trans (f.ats j a ha), f.own.kept hgr (by simp; exact Ne.symm hym)⟩
  have hnone : Nat.min bs.length (65536 - p) = 0 → ∃ (n : Int) (w' : World), (Builtin.copy_ #[22, 22] 3 #[.slice (some (if 65536 = p then (⟨y, 65539, none⟩ : Addr) else ⟨y, 65539 + p, none⟩)) (65536 - p) d2, .slice A bs.length c]).run Tryd.prog wr = .ok (.int .i64 n) w' ∧ Fills w0 w' y m g lv av s (setM M p bs) := fun h0 => by
    have e0 : cs = [] := List.length_eq_zero_iff.1 (by rw [hl]; exact h0)
    rw [e0] at hfin
    exact ⟨_, _, run_copy_none wr _ _ _ _ _ _ _ _ _ _ under_bytes info_u8 h0, hfin⟩
  rcases hb with rfl | ⟨b, off, rfl, hc⟩
  · exact hnone (Nat.zero_min _)
  · by_cases hpe : 65536 = p
    · subst hpe
      exact hnone (Nat.min_zero _)
    rw [if_neg hpe]
    refine ⟨_, _, run_copy_cells wr _ _ _ _ y (65539 + p) _ _ ⟨b, off, none⟩ _ _ (cs.map (Value.int .u8)) under_bytes info_u8 (by simpa using hl) ?_ ?_ ?_ ?_, hfin⟩
    · intro j v hv
      have hadd : (⟨b, off, none⟩ : Addr).add j = ⟨b, off + j, none⟩ := by unfold Addr.add; simp
      rw [hadd]
      refine hc j v ?_
      rw [← hcs, List.map_take] at hv
      rw [List.getElem?_take] at hv
      split at hv
      · exact hv
      · cases hv
    · intro j hj
      simp at hj
      rw [Nat.add_assoc, f.lay.bytes (p + j) (by omega)]
      rfl
    · intro j hj
      exact f.lay.free _
    · intro v hv
      obtain ⟨a, _, rfl⟩ := List.mem_map.1 hv
      rfl
end Go.Proofs.YtpjdkdphklgfjaaDoor

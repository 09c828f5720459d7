/- The walks of asm.whole, asm.named. -/
import Derived.Test.YtpjdkdphklgfjaaDoorChk0
import Derived.Test.YtpjdkdphklgfjaaDoorSource4
import Derived.Test.YtpjdkdphklgfjaaDoorObj2b
import Derived.Deep.LoopGhost
namespace Go.Proofs.YtpjdkdphklgfjaaDoor
open Go.RowKit Go.Shelf Go.Maps
set_option linter.unusedVariables false
set_option linter.unusedSimpArgs false

theorem cells_drop {w : World} {b o l : Nat} {vs : List Value} (h : CellsAt w b o vs) : CellsAt w b (o + l) (vs.drop l) := by
  intro i v hv
  rw [List.getElem?_drop] at hv
  have := h (l + i) v hv
  rwa [← Nat.add_assoc] at this
theorem cells_take {w : World} {b o l : Nat} {vs : List Value} (h : CellsAt w b o vs) : CellsAt w b o (vs.take l) := by
  intro i v hv
  rw [List.getElem?_take] at hv
  split at hv
  · exact h i v hv
  · cases hv
theorem size_u8 (w : World) : (Go.sizeOf (Tryd.prog.elem 22)).run Tryd.prog w = .ok 1 w := by kernel_rfl
/-- Bytes from a place on. -/
theorem slice_from {w : World} {A : Option Addr} {c : Nat} {xs : List Int} (h : BytesAt w A xs) (hc : xs.length ≤ c) (l : Int) (h0 : 0 ≤ l) (h1 : l ≤ xs.length) :
    ∃ A2, (∀ W, (Instr.slice 22 (.slice A xs.length c) (some (.int .i64 l)) none none).run Tryd.prog W = .ok (.slice A2 (xs.length - l.toNat) (c - l.toNat)) W) ∧ BytesAt w A2 (xs.drop l.toNat) := by
  have hs := fun W : World => run_slice_l (P := Tryd.prog) (w := W) 22 A xs.length c (by kernel_rfl) .i64 l h0 h1
  rcases h with rfl | ⟨b, o, rfl, hb⟩
  · simp only [List.length_nil] at hs h1
    obtain rfl : l = 0 := by simp at h1; omega
    cases A with
    | none => exact ⟨none, fun W => by rw [List.length_nil, hs W, size_u8]; simp [sliced, Result.andThen], .inl (by simp)⟩
    | some a => exact ⟨_, fun W => by rw [List.length_nil, hs W, size_u8]; rfl, .inl (by simp)⟩
  · refine ⟨_, fun W => by rw [hs W, size_u8]; rfl, ?_⟩
    by_cases hcl : c = l.toNat
    · left
      exact List.drop_eq_nil_of_le (by omega)
    · right
      refine ⟨b, o + l.toNat, ?_, ?_⟩
      · rw [if_neg hcl]; simp [Addr.add]
      · rw [List.map_drop]; exact cells_drop hb
/-- Bytes between two places. -/
theorem slice_cut {w : World} {A : Option Addr} {c : Nat} {xs : List Int} (h : BytesAt w A xs) (hc : xs.length ≤ c) (l m : Int) (h0 : 0 ≤ l) (h1 : l ≤ m) (h2 : m ≤ xs.length) :
    ∃ A2, (∀ W, (Instr.slice 22 (.slice A xs.length c) (some (.int .i64 l)) (some (.int .i64 m)) none).run Tryd.prog W = .ok (.slice A2 (m.toNat - l.toNat) (c - l.toNat)) W) ∧ BytesAt w A2 ((xs.drop l.toNat).take (m.toNat - l.toNat)) := by
  have hs := fun W : World => run_slice_lh (P := Tryd.prog) (w := W) 22 A xs.length c (by kernel_rfl) .i64 .i64 l m h0 h1 (by omega)
  rcases h with rfl | ⟨b, o, rfl, hb⟩
  · cases A with
    | none => exact ⟨none, fun W => by rw [hs W, size_u8]; simp [sliced, Result.andThen], .inl (by simp)⟩
    | some a => exact ⟨_, fun W => by rw [hs W, size_u8]; rfl, .inl (by simp)⟩
  · refine ⟨_, fun W => by rw [hs W, size_u8]; rfl, ?_⟩
    by_cases hcl : c = l.toNat
    · left
      rw [List.drop_eq_nil_of_le (by omega), List.take_nil]
    · right
      refine ⟨b, o + l.toNat, ?_, ?_⟩
      · rw [if_neg hcl]; simp [Addr.add]
      · rw [List.map_take, List.map_drop]; exact cells_take (cells_drop hb)

set_option maxRecDepth 100000 in
set_option maxHeartbeats 1000000 in
/-- asm.whole. -/
theorem asm_whole (A : Option Addr) (c : Nat) (xs : List Int) (w : World) (hT : Tabs w) (hn : xs.length ≤ 9223372036854775807) (hc : xs.length ≤ c) (hxs : ∀ y ∈ xs, 0 ≤ y ∧ y ≤ 255) (hA : BytesAt w A xs) :
    Calls Tryd.prog 56 #[.slice A xs.length c] w (RetB w (wholeB xs)) := by
  have HX := Lib.hid hxs
  have HA := Lib.hid hA
  clear hxs hA
  go_enter Tryd.func56, Tryd.ntmps56
  go_wp2_with fail
  go_loopg [0] xs.length (fun gk s0 wr => ∃ (ys : List Int) (A' : Option Addr) (c' : Nat), s0 = .slice A' ys.length c' ∧ ys.length ≤ c' ∧ ys.length ≤ gk ∧ ys.length ≤ 9223372036854775807 ∧ Hid (BytesAt wr A' ys) ∧ Hid (∀ y ∈ ys, 0 ≤ y ∧ y ≤ 255) ∧ Hid (wholeB xs = wholeB ys) ∧ Below w.heap.size w wr)
  case atStart => exact ⟨xs, A, c, rfl, hc, Nat.le_refl _, hn, HA, HX, Lib.hid rfl, Below.refl _ _⟩
  case round =>
    clear HA HX hn hc
    obtain ⟨ys, A', c', rfl, hc, hg, hn, HA, HX, HW, hbl⟩ := hrel
    by_cases h0 : 0 < ys.length
    · have h0' : (0 : Int) < (ys.length : Int) := by omega
      have hcon := code_Decode A' c' ys wr (hT.below hbl) hn HX.out HA.out
      have hz := hbl.size
      cases hd : decN ys with
      | none =>
        have e : decV ys = .tuple #[.agg #[.string ⟨#[]⟩, .int .i64 0], .int .i64 0, .int .i64 22] := by simp only [decV, hd]
        rw [e] at hcon
        have hw := wholeB_none hd (by intro e; rw [e] at h0; simp at h0)
        have HN := Lib.hid hw
        clear hw hd e
        go_wp2_with fail
        refine hcon.mono ?_
        rintro e w1 ⟨rfl, hb⟩
        have hz1 := hb.size
        go_wp2_with fail
        go_ret
        rw [HW.out, HN.out]
        exact ⟨rfl, by repeat (first | exact below_call hbl hb (by omega) | refine Below.drew ?_ | refine below_drewN ?_ _ | refine below_set ?_ _ (by omega) | refine below_alloc ?_ _ (by simp; omega) | refine below_alloc ?_ _ (by omega) | refine below_alloc ?_ _ (by simp))⟩
      | some n =>
        obtain ⟨n1, n2, n3⟩ := decN_range hd
        have e : decV ys = .tuple #[.agg #[.string (nameI (ys.getD 0 0)), .int .i64 (argI (formI (ys.getD 0 0)) ys)], .int .i64 n, .int .i64 0] := by simp only [decV, hd]
        rw [e] at hcon
        generalize nameI (ys.getD 0 0) = nm at hcon
        generalize argI (formI (ys.getD 0 0)) ys = ag at hcon
        have hw := wholeB_some hd
        obtain ⟨A2, hsl, hb2⟩ := slice_from HA.out hc n (by omega) (by omega)
        have HN := Lib.hid hw
        have HB2 := Lib.hid hb2
        clear hw hd e hb2
        go_wp2_with fail
        refine hcon.mono ?_
        rintro e w1 ⟨rfl, hb⟩
        have hz1 := hb.size
        go_wp2_with fail
        go_roundg (gk - 1)
        case measure => omega
        case rel =>
          have hl : (ys.drop n.toNat).length = ys.length - n.toNat := List.length_drop ..
          refine ⟨ys.drop n.toNat, A2, c' - n.toNat, by rw [hl], by omega, by omega, by omega, Lib.hid ?_, Lib.hid fun y hy => HX.out y (List.mem_of_mem_drop hy), Lib.hid (HW.out.trans HN.out), by repeat (first | exact below_call hbl hb (by omega) | refine Below.drew ?_ | refine below_drewN ?_ _ | refine below_set ?_ _ (by omega) | refine below_alloc ?_ _ (by simp; omega) | refine below_alloc ?_ _ (by omega) | refine below_alloc ?_ _ (by simp))⟩
          exact (HB2.out.below hb).below (below_new _ _)
    · have h0' : ¬ (0 : Int) < (ys.length : Int) := by omega
      have e : ys = [] := List.eq_nil_of_length_eq_zero (by omega)
      have HE := Lib.hid e
      clear e
      go_wp2_with fail
      go_ret
      rw [HW.out, HE.out]
      exact ⟨rfl, hbl⟩
end Go.Proofs.YtpjdkdphklgfjaaDoor

/- The walk of asm.named. -/
namespace Go.Proofs.YtpjdkdphklgfjaaDoor
open Go.RowKit Go.Shelf Go.Maps
set_option linter.unusedVariables false
set_option linter.unusedSimpArgs false

/-- A label's item. -/
def labItem (s : ByteArray) : Item := ⟨1, s, 0, ⟨#[]⟩, 0, []⟩
theorem check_name (s : ByteArray) : (checkI [labItem s]).1 = if isName s then 0 else 130 := by
  have e : (labItem s).may = isName s := by
    unfold labItem Item.may mayB plainB
    simp only [if_neg (show ¬ (1 : Int) = 2 by decide)]
    rw [if_neg]
    · simp
    · simp [ByteArray.toList_eq]
  unfold checkI
  rw [if_neg (by simp)]
  unfold badFrom badFrom
  rw [e]
  cases isName s <;> rfl

set_option maxRecDepth 100000 in
set_option maxHeartbeats 1000000 in
/-- asm.named. -/
theorem asm_named (s : ByteArray) (w : World) (hT : Tabs w) (hs : s.size ≤ 9223372036854775807) :
    Calls Tryd.prog 38 #[.string s] w (RetB w (isName s)) := by
  have hcon : Calls Tryd.prog 32 #[.slice (some ⟨w.heap.size, 0, none⟩) 1 1] (w.alloc (.cells #[.int .u8 1, .string s, .int .i64 0, .string ⟨#[]⟩, .int .u8 0, .slice none 0 0] 46)) _ :=
    source_Check (some ⟨w.heap.size, 0, none⟩) 1 [labItem s] _ (hT.alloc _) (by
      intro x hx
      rw [List.mem_singleton] at hx
      subst hx
      unfold Item.wf labItem
      simp only
      refine ⟨by decide, by decide, hs, by decide, by decide, by decide, by decide, by decide, by simp, by simp⟩) (.inr ⟨w.heap.size, 0, rfl, by
      intro j x hx
      have hj : j = 0 := by
        rcases Nat.eq_zero_or_pos j with h | h
        · exact h
        · rw [List.getElem?_eq_none (by simp; omega)] at hx; cases hx
      subst hj
      simp at hx
      subst hx
      exact ⟨none, 0, by simp [labItem], by simp [labItem], by simp [labItem], by simp [labItem], by simp [labItem], by simp [labItem], .inl rfl⟩⟩)
  have hck := check_name s
  generalize checkI [labItem s] = r at hcon hck
  obtain ⟨r1, r2⟩ := r
  simp only at hcon hck
  cases hb : isName s
  · rw [hb] at hck
    simp at hck
    subst hck
    clear hb
    go_enter Tryd.func38, Tryd.ntmps38
    go_wp2_with fail
    refine hcon.mono ?_
    rintro e w1 ⟨rfl, hb⟩
    go_wp2_with fail
    go_ret
    exact ⟨rfl, by repeat (first | exact below_call (below_new _ _) hb (by simp) | refine Below.drew ?_ | refine below_drewN ?_ _ | refine below_set ?_ _ (by omega) | refine below_alloc ?_ _ (by simp; omega) | refine below_alloc ?_ _ (by omega) | refine below_alloc ?_ _ (by simp))⟩
  · rw [hb] at hck
    simp at hck
    subst hck
    clear hb
    go_enter Tryd.func38, Tryd.ntmps38
    go_wp2_with fail
    refine hcon.mono ?_
    rintro e w1 ⟨rfl, hb⟩
    go_wp2_with fail
    go_ret
    exact ⟨rfl, by repeat (first | exact below_call (below_new _ _) hb (by simp) | refine Below.drew ?_ | refine below_drewN ?_ _ | refine below_set ?_ _ (by omega) | refine below_alloc ?_ _ (by simp; omega) | refine below_alloc ?_ _ (by omega) | refine below_alloc ?_ _ (by simp))⟩
end Go.Proofs.YtpjdkdphklgfjaaDoor

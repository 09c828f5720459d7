/- The walk of code.Decode. -/
import Derived.Test.YtpjdkdphklgfjaaDoorCode3
import Derived.RegionTactic
namespace Go.Proofs.YtpjdkdphklgfjaaDoor
open Go.RowKit
set_option linter.unusedVariables false
set_option linter.unusedSimpArgs false

set_option maxRecDepth 100000 in
set_option maxHeartbeats 400000 in
theorem code_Decode_nil (A : Option Addr) (c : Nat) (w : World) :
    Calls Tryd.prog 31 #[.slice A 0 c] w fun e w' =>
      e = .returned (.tuple #[.agg #[.string ⟨#[]⟩, .int .i64 0], .int .i64 0, .int .i64 22]) ∧ Below w.heap.size w w' := by
  go_enter Tryd.func31, Tryd.ntmps31
  go_wp2
  refine bodyPost_ret (v := .tuple #[.agg #[.string ⟨#[]⟩, .int .i64 0], .int .i64 0, .int .i64 22]) (by simp [results, Tryd.results31, go_sem]) rfl ⟨rfl, ?_⟩
  exact (Below.refl _ _).alloc (Nat.le_refl _) _

set_option maxRecDepth 100000 in
set_option maxHeartbeats 1000000 in
theorem code_Decode_short (b off n c : Nat) (x L : Int) (w : World) (hT : Tabs w) (h0 : 0 < n) (hn : n ≤ 9223372036854775807) (hx0 : 0 ≤ x) (hx1 : x ≤ 255)
    (hc0 : w.cell? ⟨b, off, none⟩ = some (.int .u8 x)) (hL : lenI (formI x) = L) (hlt : (n : Int) < L) :
    Calls Tryd.prog 31 #[.slice (some ⟨b, off, none⟩) n c] w fun e w' =>
      e = .returned (.tuple #[.agg #[.string ⟨#[]⟩, .int .i64 0], .int .i64 0, .int .i64 22]) ∧ Below w.heap.size w w' := by
  have hinfo := code_Info x (w.alloc (Obj.cells #[Value.string ⟨#[]⟩, Value.int .i64 0] 64)) hx0 hx1 (Tabs.alloc hT _)
  rw [hL] at hinfo
  have hne : ((n : Int) == 0) = false := by simp; omega
  have hp : (0 : Int) < (n : Int) := by omega
  have hlt0 := cell_lt hc0
  go_enter Tryd.func31, Tryd.ntmps31
  go_wp2_with fail
  refine hinfo.mono ?_
  rintro e w1 ⟨rfl, hb⟩
  have hz : w.heap.size < w1.heap.size := by have := hb.size; simp at this; omega
  have k0 : w1.cell? ⟨w.heap.size, 0, none⟩ = some (.string ⟨#[]⟩) := (hb.cell (p := ⟨w.heap.size, 0, none⟩) (by simp)).trans (by simp)
  have k1 : w1.cell? ⟨w.heap.size, 1, none⟩ = some (.int .i64 0) := (hb.cell (p := ⟨w.heap.size, 1, none⟩) (by simp)).trans (by simp)
  have f0 : ∀ o, w1.frozen? ⟨w.heap.size, o, none⟩ = false := fun o => (hb.frozen (p := ⟨w.heap.size, o, none⟩) (by simp)).trans (by simp)
  go_wp2_with fail
  refine bodyPost_ret (v := .tuple #[.agg #[.string ⟨#[]⟩, .int .i64 0], .int .i64 0, .int .i64 22]) (by simp [results, Tryd.results31, go_sem, k0, k1, hz]) rfl ⟨rfl, ?_⟩
  repeat (first | exact below_call (below_new _ _) hb (by simp) | refine Below.drew ?_ | refine below_set ?_ _ (by omega) | refine below_alloc ?_ _ (by simp; omega) | refine below_alloc ?_ _ (by omega))

set_option maxRecDepth 100000 in
set_option maxHeartbeats 2000000 in
theorem code_Decode_core (b off n c : Nat) (x y z f L : Int) (w : World) (hT : Tabs w) (h0 : 0 < n) (hn : n ≤ 9223372036854775807)
    (hc0 : w.cell? ⟨b, off, none⟩ = some (.int .u8 x)) (hx0 : 0 ≤ x) (hx1 : x ≤ 255)
    (hc1 : 2 ≤ L → w.cell? ⟨b, off + 1, none⟩ = some (.int .u8 y)) (hy0 : 0 ≤ y) (hy1 : y ≤ 255)
    (hc2 : 3 ≤ L → w.cell? ⟨b, off + 2, none⟩ = some (.int .u8 z)) (hz0 : 0 ≤ z) (hz1 : z ≤ 255)
    (hf : formI x = f) (hL : lenI f = L) (hlt : L ≤ (n : Int)) :
    Calls Tryd.prog 31 #[.slice (some ⟨b, off, none⟩) n c] w fun e w' =>
      e = .returned (.tuple #[.agg #[.string (nameI x), .int .i64 (if f = 2 then x % 16 else if f = 3 then x % 8 else if f = 4 ∨ f = 5 then y else if f = 6 then y * 256 + z else 0)], .int .i64 L, .int .i64 0]) ∧ Below w.heap.size w w' := by
  have hinfo := code_Info x (w.alloc (Obj.cells #[Value.string ⟨#[]⟩, Value.int .i64 0] 64)) hx0 hx1 (Tabs.alloc hT _)
  rw [hf, hL] at hinfo
  have hne : ((n : Int) == 0) = false := by simp; omega
  have hp : (0 : Int) < (n : Int) := by omega
  have hb0 := cell_lt hc0
  have hr := formI_range x
  rw [hf] at hr
  have hcases : f = 1 ∨ f = 2 ∨ f = 3 ∨ f = 4 ∨ f = 5 ∨ f = 6 := by omega
  clear hr hf hT
  rcases hcases with rfl | rfl | rfl | rfl | rfl | rfl
  all_goals
    simp [lenI, lensT] at hL
    subst hL
    simp at hc1 hc2
    go_enter Tryd.func31, Tryd.ntmps31
    go_wp2_with fail
    refine hinfo.mono ?_
    rintro e w1 ⟨rfl, hb⟩
    have hz : w.heap.size < w1.heap.size := by have := hb.size; simp at this; omega
    have k0 : w1.cell? ⟨w.heap.size, 0, none⟩ = some (.string ⟨#[]⟩) := (hb.cell (p := ⟨w.heap.size, 0, none⟩) (by simp)).trans (by simp)
    have k1 : w1.cell? ⟨w.heap.size, 1, none⟩ = some (.int .i64 0) := (hb.cell (p := ⟨w.heap.size, 1, none⟩) (by simp)).trans (by simp)
    have f0 : ∀ o, w1.frozen? ⟨w.heap.size, o, none⟩ = false := fun o => (hb.frozen (p := ⟨w.heap.size, o, none⟩) (by simp)).trans (by simp)
    have hW : Below w.heap.size w w1 := below_call (below_new _ _) hb (by simp)
    have hb1 : b < w1.heap.size := by omega
    have d0 := cell_below hW hc0
    try (have p1 : (1 : Int) < (n : Int) := by omega)
    try (have p2 : (2 : Int) < (n : Int) := by omega)
    try (have d1 := cell_below hW hc1)
    try (have d2 := cell_below hW hc2)
    go_wp2_with fail
    try (go_region_held3 (fun w' => w'.cell? ⟨b, off + 1, none⟩ = some (.int .u8 y) ∧ w'.cell? ⟨b, off + 2, none⟩ = some (.int .u8 z)) (go_keep)
          (first | (go_at_call 49; refine (bits_Word _ _ _ hy0 hy1 hz0 hz1).mono ?_; rintro e w' ⟨rfl, rfl⟩))
         go_wp2_with fail)
    go_region
    go_wp2
    refine bodyPost_ret (v := .tuple #[.agg #[.string (nameI x), .int .i64 _], .int .i64 _, .int .i64 0]) (by simp [results, Tryd.results31, go_sem, k0, k1, hz]; exact ⟨rfl, rfl⟩) rfl ⟨?_, ?_⟩
    · simp
    · repeat (first | exact hW | refine Below.drew ?_ | refine below_set ?_ _ (by omega) | refine below_alloc ?_ _ (by simp; omega) | refine below_alloc ?_ _ (by omega))

/-- What Decode answers of bytes: name, operand, length, error. -/
def decV (xs : List Int) : Value :=
  match decN xs with
  | none => .tuple #[.agg #[.string ⟨#[]⟩, .int .i64 0], .int .i64 0, .int .i64 22]
  | some k => .tuple #[.agg #[.string (nameI (xs.getD 0 0)), .int .i64 (argI (formI (xs.getD 0 0)) xs)], .int .i64 k, .int .i64 0]

/-- code.Decode, of whatever bytes. -/
theorem code_Decode (A : Option Addr) (c : Nat) (xs : List Int) (w : World) (hT : Tabs w) (hn : xs.length ≤ 9223372036854775807) (hxs : ∀ y ∈ xs, 0 ≤ y ∧ y ≤ 255) (hA : BytesAt w A xs) :
    Calls Tryd.prog 31 #[.slice A xs.length c] w fun e w' => e = .returned (decV xs) ∧ Below w.heap.size w w' := by
  rcases hA with rfl | ⟨b, off, rfl, hc⟩
  · exact code_Decode_nil A c w
  · match xs, hn, hxs, hc with
    | [], _, _, _ => exact code_Decode_nil _ c w
    | x :: l, hn, hxs, hc =>
      have hc0 : w.cell? ⟨b, off, none⟩ = some (.int .u8 x) := hc 0 _ (by simp)
      obtain ⟨hx0, hx1⟩ := hxs x (by simp)
      have hpos : 0 < (x :: l).length := by simp
      by_cases hlt : ((x :: l).length : Int) < lenI (formI x)
      · have e : decV (x :: l) = .tuple #[.agg #[.string ⟨#[]⟩, .int .i64 0], .int .i64 0, .int .i64 22] := by simp only [decV, decN]; rw [if_pos hlt]
        rw [e]
        exact code_Decode_short b off _ c x _ w hT hpos hn hx0 hx1 hc0 rfl hlt
      · have hg : ∀ i, i < (x :: l).length → w.cell? ⟨b, off + i, none⟩ = some (.int .u8 ((x :: l).getD i 0)) := by
          intro i hi
          have e : (x :: l).getD i 0 = (x :: l)[i] := by simp only [List.getD_eq_getElem?_getD, List.getElem?_eq_getElem hi, Option.getD_some]
          rw [e]
          exact hc i _ (by simp only [List.getElem?_map, List.getElem?_eq_getElem hi, Option.map_some])
        have hr : ∀ i, 0 ≤ (x :: l).getD i 0 ∧ (x :: l).getD i 0 ≤ 255 := by
          intro i
          rcases Nat.lt_or_ge i (x :: l).length with hi | hi
          · have e : (x :: l).getD i 0 = (x :: l)[i] := by simp only [List.getD_eq_getElem?_getD, List.getElem?_eq_getElem hi, Option.getD_some]
            rw [e]
            exact hxs _ (List.getElem_mem hi)
          · have e : (x :: l).getD i 0 = 0 := by simp only [List.getD_eq_getElem?_getD, List.getElem?_eq_none hi, Option.getD_none]
            rw [e]; omega
        have e : decV (x :: l) = .tuple #[.agg #[.string (nameI x), .int .i64 (argI (formI x) (x :: l))], .int .i64 (lenI (formI x)), .int .i64 0] := by simp only [decV, decN]; rw [if_neg hlt]; rfl
        rw [e]
        exact code_Decode_core b off _ c x ((x :: l).getD 1 0) ((x :: l).getD 2 0) _ _ w hT hpos hn hc0 hx0 hx1 (fun h => hg 1 (by omega)) (hr 1).1 (hr 1).2 (fun h => hg 2 (by omega)) (hr 2).1 (hr 2).2 rfl rfl (by omega)
end Go.Proofs.YtpjdkdphklgfjaaDoor

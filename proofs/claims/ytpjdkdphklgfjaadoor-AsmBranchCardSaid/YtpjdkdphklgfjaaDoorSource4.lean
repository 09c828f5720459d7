/- The walk of source.Check. -/
import Derived.Test.YtpjdkdphklgfjaaDoorSource3
namespace Go.Proofs.YtpjdkdphklgfjaaDoor
open Go.RowKit Go.Shelf
set_option linter.unusedVariables false
set_option linter.unusedSimpArgs false

set_option maxRecDepth 100000 in
set_option maxHeartbeats 1000000 in
theorem source_Check_long (A : Option Addr) (n c : Nat) (w : World) (hn : 4096 < n) :
    Calls Tryd.prog 32 #[.slice A n c] w (RetSize w 2 0) := by
  have hn' : (4096 : Int) < (n : Int) := by omega
  go_enter Tryd.func32, Tryd.ntmps32
  go_wp2_with fail
  go_ret2
  exact ⟨rfl, Below.refl _ _⟩

theorem badFrom_drop (l : List Item) (k : Nat) (hk : k < l.length) (i : Int) : badFrom (l.drop k) i = if (l[k]).may then badFrom (l.drop (k + 1)) (i + 1) else some i := by
  rw [List.drop_eq_getElem_cons hk]; rfl

set_option maxRecDepth 100000 in
set_option maxHeartbeats 2000000 in
theorem source_Check_walk (b off c : Nat) (l : List Item) (w : World) (hT : Tabs w) (hn : l.length ≤ 4096) (hwf : ∀ x ∈ l, x.wf) (hl : ∀ j x, l[j]? = some x → ItemAt w b (off + j * 6) x) (r : Int × Int)
    (hr : r = match badFrom l 0 with | some i => (130, i) | none => (0, 0)) :
    Calls Tryd.prog 32 #[.slice (some ⟨b, off, none⟩) l.length c] w (RetSize w r.1 r.2) := by
  have HR := Lib.hid hr
  have HL := Lib.hid hl
  have HW := Lib.hid hwf
  clear hr hl hwf
  have hn' : (l.length : Int) ≤ 4096 := by omega
  go_enter Tryd.func32, Tryd.ntmps32
  go_wp2_with fail
  go_loopw [11] (fun i wr => ∃ k : Nat, k ≤ l.length ∧ i = .int .i64 k ∧ Below w.heap.size w wr ∧ badFrom l 0 = badFrom (l.drop k) k) (fun i _ => l.length - (intOf i).toNat)
  case atStart => exact ⟨0, by omega, rfl, Below.refl _ _, rfl⟩
  case round =>
    obtain ⟨k, hk, rfl, hbl, hf⟩ := hrel
    have HF := Lib.hid hf
    clear hf
    by_cases hlt : k < l.length
    · obtain ⟨x, hx⟩ : ∃ x, l[k] = x := ⟨_, rfl⟩
      obtain ⟨A2, c2, x0, x1, x2, x3, x4, x5, _⟩ := (HL.out k x (by rw [List.getElem?_eq_getElem hlt, hx])).below hbl
      obtain ⟨y0, y1, y2, y3, y4, y5, y6, y7, y8, _⟩ := HW.out x (by rw [← hx]; exact List.getElem_mem hlt)
      have HX := Lib.hid hx
      clear hx
      have hlt' : (k : Int) < (l.length : Int) := by omega
      have hmay := source_may x.kind x.arg x.part x.name x.label A2 x.bytes.length c2 (wr.alloc (Obj.cells #[.int .u8 x.kind, .string x.name, .int .i64 x.arg, .string x.label, .int .u8 x.part, .slice A2 x.bytes.length c2] 46)) ((hT.below hbl).alloc _) y3 y4 y2 y5 y8
      cases hm : x.may
      · change mayB x.kind x.name x.arg x.label x.part x.bytes.length = false at hm
        rw [hm] at hmay
        have HM := Lib.hid hm
        clear hm
        go_wp2_with fail
        refine hmay.mono ?_
        rintro e w1 ⟨rfl, hb⟩
        go_wp2_with fail
        go_ret2
        have hf := HF.out
        rw [badFrom_drop l k hlt, HX.out, show x.may = false from HM.out, if_neg (by simp)] at hf
        have hr := HR.out
        rw [hf] at hr
        rw [hr]
        exact ⟨rfl, below_call (below_alloc hbl _ hbl.size) hb (by have := hbl.size; simp; omega)⟩
      · change mayB x.kind x.name x.arg x.label x.part x.bytes.length = true at hm
        rw [hm] at hmay
        have HM := Lib.hid hm
        clear hm
        go_wp2_with fail
        refine hmay.mono ?_
        rintro e w1 ⟨rfl, hb⟩
        go_wp2_with fail
        go_roundw
        case rel =>
          have hf := HF.out
          rw [badFrom_drop l k hlt, HX.out, show x.may = true from HM.out, if_pos rfl] at hf
          exact ⟨k + 1, by omega, by go_num, below_call (below_alloc hbl _ hbl.size) hb (by have := hbl.size; simp; omega), by rw [hf]; rfl⟩
        case measure => simp [intOf]; omega
    · go_wp2_with fail
      go_ret2
      have hf := HF.out
      rw [List.drop_eq_nil_of_le (by omega)] at hf
      have hr := HR.out
      rw [hf] at hr
      rw [hr]
      exact ⟨rfl, hbl⟩

set_option maxRecDepth 100000 in
theorem source_Check_empty (A : Option Addr) (c : Nat) (w : World) :
    Calls Tryd.prog 32 #[.slice A 0 c] w (RetSize w 0 0) := by
  go_enter Tryd.func32, Tryd.ntmps32
  go_wp2_with fail
  refine wp_loop_rounds 1 ?_
  rw [rounds_succ]
  go_wp2_with fail
  go_ret2
  exact ⟨rfl, Below.refl _ _⟩

/-- source.Check, of whatever items. -/
theorem source_Check (A : Option Addr) (c : Nat) (l : List Item) (w : World) (hT : Tabs w) (hwf : ∀ x ∈ l, x.wf) (hl : ItemsAt w A l) :
    Calls Tryd.prog 32 #[.slice A l.length c] w (RetSize w (checkI l).1 (checkI l).2) := by
  unfold checkI
  by_cases hn : 4096 < l.length
  · rw [if_pos hn]; exact source_Check_long A _ c w hn
  · rw [if_neg hn]
    rcases hl with rfl | ⟨b, off, rfl, hc⟩
    · exact source_Check_empty A c w
    · exact source_Check_walk b off c l w hT (by omega) hwf hc _ rfl
end Go.Proofs.YtpjdkdphklgfjaaDoor

/- The walk of the object's making. -/
import Derived.Test.YtpjdkdphklgfjaaDoorObj2c
import Derived.Test.YtpjdkdphklgfjaaDoorFill3
namespace Go.Proofs.YtpjdkdphklgfjaaDoor
open Go.RowKit Go.Shelf Go.Maps
set_option linter.unusedVariables false
set_option linter.unusedSimpArgs false

theorem marks_le (K : Nat → Int) (a : Nat) : (marksTo K a).length ≤ a := by
  unfold marksTo; exact Nat.le_trans (List.length_filterMap_le _ _) (by simp)
theorem blocks_le (K M : Nat → Int) (a : Nat) : (blocksTo K M a).length ≤ a := by
  unfold blocksTo; exact Nat.le_trans (List.length_filterMap_le _ _) (by simp)
theorem plainBl_length (bl : List (Int × Value × List Int)) : (plainBl bl).length = bl.length := by simp [plainBl]

/-- What stands when all addresses are passed. -/
def Scanned (w0 : World) (y m t base : Nat) (lv av : Value) (s : LayS) (M : Nat → Int) (wx : World) : Prop :=
  ∃ bv kv bl, Built w0 wx y m t base lv av s M bv kv (.slice none 0 0) bl (marksTo s.K 65536) [] ∧ plainBl bl = blocksTo s.K M 65536

theorem mid_start {K : Nat → Int} {a a2 : Nat} (hq : a = 0 ∨ a = 65536 ∨ K (a - 1) = 0 ∨ K a = 0) (he : a2 = a ∨ a2 = 65536 ∨ K (a2 - 1) ≠ K a2) (hz : K a2 ≠ 0) (h1 : a < 65536) (h2 : a2 < 65536) : a2 = 0 ∨ K (a2 - 1) ≠ K a2 := by
  rcases he with rfl | h | h
  · rcases hq with h | h | h | h
    · exact .inl h
    · omega
    · exact .inr (by rw [h]; exact Ne.symm hz)
    · exact absurd h hz
  · omega
  · exact .inr h
theorem mid_all {K : Nat → Int} {a a2 n : Nat} (h2 : ∀ i, a ≤ i → i < a2 → K i ≠ 0) (h3 : ∀ i, a2 ≤ i → i < a2 + n → K i = K a2) (hz : K a2 ≠ 0) : ∀ i, a ≤ i → i < a2 + n → K i ≠ 0 := by
  intro i hi1 hi2
  rcases Nat.lt_or_ge i a2 with h | h
  · exact h2 i hi1 h
  · rw [h3 i h hi2]; exact hz
theorem mid_end {K : Nat → Int} {a a2 n : Nat} (h3 : ∀ i, a2 ≤ i → i < a2 + n → K i = K a2) (he : a2 + n = 65536 ∨ a2 + n < 65536 ∧ K (a2 + n) ≠ K a2) (hn : 0 < n) : a2 + n = a ∨ a2 + n = 65536 ∨ K (a2 + n - 1) ≠ K (a2 + n) := by
  rcases he with h | h
  · exact .inr (.inl h)
  · exact .inr (.inr (by rw [h3 (a2 + n - 1) (by omega) (by omega)]; exact Ne.symm h.2))
theorem Bytes_.base {w : World} {b1 b2 : Nat} {v : Value} {bs : List Int} (h : Bytes_ w b1 v bs) (hb : b2 ≤ b1) : Bytes_ w b2 v bs := by
  refine ⟨h.1, ?_⟩
  rcases h.2 with h0 | ⟨g, cap, cur, hv, hg, r⟩
  · exact .inl h0
  · exact .inr ⟨g, cap, cur, hv, Nat.le_trans hb hg, r⟩
theorem plain_add (bl : List (Int × Value × List Int)) (q : Int × Value × List Int) : plainBl (bl ++ [q]) = plainBl bl ++ [(q.1, q.2.2)] := by simp [plainBl]

set_option maxRecDepth 100000 in
set_option maxHeartbeats 8000000 in
theorem asm_object (w0 w : World) (y m g : Nat) (lv av : Value) (s : LayS) (M : Nat → Int) (hf : Fills w0 w y m g lv av s M) (hok : s.ok) (hks : keysOK s.labs) (hll : s.labs.length ≤ 4096) (hy0 : w0.heap.size ≤ y) (hm0 : w0.heap.size ≤ m) (hne : y ≠ m) :
    Calls Tryd.prog 35 #[.pointer (some ⟨y, 0, none⟩)] w (ObjRet w0 (blocksTo s.K M 65536) (marksTo s.K 65536) (sortedLabs s.labs)) := by
  have ylt := hf.lay.lt
  have mlt := hf.own.lt
  have ap : Apart3 w0 y m (w.heap.size + 1) (w.heap.size + 2) := ⟨hy0, hm0, by have := hf.below.size; omega, hne, by omega, by omega, by omega, by omega, by omega, by omega⟩
  obtain ⟨i1, hi1, hx0, hx1, hx2⟩ := info_parts info_mark
  obtain ⟨i2, hi2, hw0, hw1, hw2⟩ := info_parts info_block
  obtain ⟨i3, hi3, hv0, hv1, hv2⟩ := info_parts info_label
  have AP := Lib.hid ap
  have HF := Lib.hid hf
  have HO := Lib.hid hok
  clear hf hok ap
  go_enter Tryd.func35, Tryd.ntmps35
  go_upto_block 0 with fail
  have hb0 : Built w0 ((w.alloc (.cells #[.slice none 0 0, .slice none 0 0, .slice none 0 0] 35)).alloc (.cells #[.slice none 0 0, .slice none 0 0, .slice none 0 0] 35)) y m (w.heap.size + 1) (w.heap.size + 2) lv av s M (.slice none 0 0) (.slice none 0 0) (.slice none 0 0) [] (marksTo s.K 0) [] := by
    have h2 := (HF.out.keep (below_new w (.cells #[.slice none 0 0, .slice none 0 0, .slice none 0 0] 35))).keep (below_new _ (.cells #[.slice none 0 0, .slice none 0 0, .slice none 0 0] 35))
    exact ⟨h2.below, h2.lay, h2.own, by simp, by simp, by simp, by simp, World.ownsRow_nil _ _ _ _, World.ownsRow_nil _ _ _ _, World.ownsRow_nil _ _ _ _, by simp, by simp, by rw [Nat.add_sub_cancel]; exact (heap_alloc_old _ _ (by simp)).trans (heap_alloc_new w _)⟩
  have HB0 := Lib.hid hb0
  clear hb0
  go_cut [4] (fun s4 wx => Hid (Scanned w0 y m (w.heap.size + 1) (w.heap.size + 2) lv av s M wx))
  case first =>
    go_wp2_with fail
    go_loopg [4] 65536 (fun gk s4 wr => ∃ (a : Nat) (bv kv : Value) (bl : List (Int × Value × List Int)), a + gk = 65536 ∧ s4 = .int .i64 a ∧
      Hid (Built w0 wr y m (w.heap.size + 1) (w.heap.size + 2) lv av s M bv kv (.slice none 0 0) bl (marksTo s.K a) []) ∧ Hid (plainBl bl = blocksTo s.K M a) ∧ Hid (a = 0 ∨ a = 65536 ∨ s.K (a - 1) = 0 ∨ s.K a = 0))
    case atStart => exact ⟨0, _, _, [], by omega, rfl, HB0, Lib.hid rfl, Lib.hid (.inl rfl)⟩
    case round =>
      clear HB0
      obtain ⟨a, bv, kv, bl, hag, rfl, HB, HP, HQ⟩ := hrel
      cases gk with
      | zero =>
        obtain rfl : a = 65536 := by omega
        have hend : ¬ ((65536 : Int) < 65536) := by omega
        go_wp2_with fail
        go_meet
        exact Lib.hid ⟨bv, kv, bl, HB.out, HP.out⟩
      | succ g1 =>
        have ha : (a : Int) < 65536 := by omega
        have ha' : a < 65536 := by omega
        have k0 := HB.out.lay.kinds a ha'
        by_cases hz : s.K a = 0
        · have hz' : (s.K a == 0) = true := by rw [hz]; rfl
          have HZ := Lib.hid hz
          clear hz
          go_wp2_with fail
          go_roundg g1
          case measure => omega
          case rel => exact ⟨a + 1, bv, kv, bl, by omega, by go_num, by rw [marks_free _ _ HZ.out]; exact HB, by rw [blocks_free _ _ _ HZ.out]; exact HP, Lib.hid (.inr (.inr (.inl HZ.out)))⟩
        · have hz' : (s.K a == 0) = false := beq_eq_false_iff_ne.2 hz
          have HZ := Lib.hid hz
          clear hz
          go_upto_block 2 with fail
          go_cut [4] (fun s4 wx => ∃ (a2 : Nat) (kv2 : Value), a < a2 ∧ a2 ≤ 65536 ∧ s4 = .int .i64 a2 ∧ Hid (Built w0 wx y m (w.heap.size + 1) (w.heap.size + 2) lv av s M bv kv2 (.slice none 0 0) bl (marksTo s.K a2) []) ∧
            Hid (∀ i, a ≤ i → i < a2 → s.K i ≠ 0) ∧ Hid (a2 = 65536 ∨ s.K a2 = 0))
          case first =>
            go_wp2_with fail
            go_loopg [4] (g1 + 1) (fun g2 s4 wr2 => ∃ (a2 : Nat) (kv2 : Value), a ≤ a2 ∧ a2 + g2 = 65536 ∧ s4 = .int .i64 a2 ∧ Hid (Built w0 wr2 y m (w.heap.size + 1) (w.heap.size + 2) lv av s M bv kv2 (.slice none 0 0) bl (marksTo s.K a2) []) ∧ Hid (∀ i, a ≤ i → i < a2 → s.K i ≠ 0) ∧ Hid (a2 = a ∨ a2 = 65536 ∨ s.K (a2 - 1) ≠ s.K a2))
            case atStart => exact ⟨a, kv, by omega, by omega, rfl, HB, Lib.hid (fun i h1 h2 => by omega), Lib.hid (.inl rfl)⟩
            case round =>
              clear k0
              obtain ⟨a2, kv2, h12, h2g, rfl, HB2, HN2, HE2⟩ := hrel
              by_cases h65 : a2 = 65536
              · have h65' : ¬ (a2 : Int) < 65536 := by omega
                have H65 := Lib.hid h65
                clear h65
                go_wp2_with fail
                go_meet
                exact ⟨a2, kv2, by have := H65.out; omega, by have := H65.out; omega, rfl, HB2, HN2, Lib.hid (.inl H65.out)⟩
              · have h65' : (a2 : Int) < 65536 := by omega
                have k2 := HB2.out.lay.kinds a2 (by omega)
                by_cases hz2 : s.K a2 = 0
                · have hz2' : (s.K a2 != 0) = false := by rw [hz2]; rfl
                  have HZ2 := Lib.hid hz2
                  clear hz2
                  go_wp2_with fail
                  go_meet
                  exact ⟨a2, kv2, by rcases Nat.lt_or_ge a a2 with h | h; exact h; obtain rfl : a2 = a := (by omega); exact absurd HZ2.out HZ.out, by omega, rfl, HB2, HN2, Lib.hid (.inr HZ2.out)⟩
                · have hz2' : (s.K a2 != 0) = true := bne_iff_ne.2 hz2
                  have HZ2 := Lib.hid hz2
                  clear hz2
                  go_upto_block 4 with fail
                  go_cut [4] (fun s4 wx => ∃ a3 : Nat, a2 < a3 ∧ a3 ≤ 65536 ∧ s4 = .int .i64 a3 ∧ Hid (Built w0 wx y m (w.heap.size + 1) (w.heap.size + 2) lv av s M bv kv2 (.slice none 0 0) bl (marksTo s.K a2) []) ∧ Hid (∀ i, a2 ≤ i → i < a3 → s.K i = s.K a2) ∧ Hid (a3 = 65536 ∨ a3 < 65536 ∧ s.K a3 ≠ s.K a2))
                  case first =>
                    clear k2
                    go_wp2_with fail
                    go_loopg [4] (65536 - a2) (fun g3 s4 wr3 => ∃ a3 : Nat, a2 ≤ a3 ∧ a3 + g3 = 65536 ∧ s4 = .int .i64 a3 ∧ Hid (Built w0 wr3 y m (w.heap.size + 1) (w.heap.size + 2) lv av s M bv kv2 (.slice none 0 0) bl (marksTo s.K a2) []) ∧ Hid (∀ i, a2 ≤ i → i < a3 → s.K i = s.K a2))
                    case atStart => exact ⟨a2, Nat.le_refl _, by omega, rfl, HB2, Lib.hid (fun i h1 h2 => by omega)⟩
                    case round =>
                      obtain ⟨a3, h23, h3g, rfl, HB3, HN3⟩ := hrel
                      have HB3d := Lib.hid (HB3.out.keep (Below.refl _ _).drew)
                      cases gk with
                      | zero =>
                        obtain rfl : a3 = 65536 := by omega
                        have hend : ¬ ((65536 : Int) < 65536) := by omega
                        go_wp2_with fail
                        go_region
                        all_goals
                          (go_wp2_with fail
                           go_meet
                           exact ⟨65536, by omega, by omega, rfl, HB3d, HN3, Lib.hid (.inl rfl)⟩)
                      | succ g4 =>
                        have h3' : (a3 : Int) < 65536 := by omega
                        have k3 := HB3.out.lay.kinds a3 (by omega)
                        have k2 := HB3.out.lay.kinds a2 (by omega)
                        by_cases he : s.K a3 = s.K a2
                        · have he' : (s.K a3 == s.K a2) = true := by rw [he]; exact beq_self_eq_true _
                          have HEq := Lib.hid he
                          clear he
                          go_wp2_with fail
                          go_region
                          all_goals
                            (go_wp2_with fail
                             go_roundg g4
                             case measure => omega
                             case rel => exact ⟨a3 + 1, by omega, by omega, by go_num, HB3d, Lib.hid (fun i h1 h2 => by rcases Nat.lt_or_ge i a3 with h | h; exact HN3.out i h1 h; obtain rfl : i = a3 := (by omega); exact HEq.out)⟩)
                        · have he' : (s.K a3 == s.K a2) = false := beq_eq_false_iff_ne.2 he
                          have HEq := Lib.hid he
                          have hne3 : a2 < a3 := by rcases Nat.lt_or_ge a2 a3 with h | h; exact h; obtain rfl : a3 = a2 := (by omega); exact absurd rfl he
                          clear he
                          go_wp2_with fail
                          go_region
                          all_goals
                            (go_wp2_with fail
                             go_meet
                             exact ⟨a3, hne3, by omega, rfl, HB3d, HN3, Lib.hid (.inr ⟨by omega, HEq.out⟩)⟩)
                  case rest =>
                    obtain ⟨a3, h23, h3, rfl, HB3, HN3, HE3⟩ := hcut
                    obtain ⟨n, rfl⟩ : ∃ n, a3 = a2 + n := ⟨a3 - a2, by omega⟩
                    have hsub : IntKind.i64.wrap ((a2 : Int) + (n : Int) - (a2 : Int)) = (n : Int) := by rw [i64_in _ (by omega) (by omega)]; omega
                    have B3d := HB3.out.keep (Below.refl _ _).drew
                    have B3a := B3d.keep (below_new _ (.cells #[.int .i64 a2, .int .i64 n, .bool (s.K a2 == 1)] 93))
                    have ky := HB3.out.lay.kinds a2 (by omega)
                    have ko := HB3.out.o1
                    have kf := HB3.out.ofree 1
                    have kl : y < wc.heap.size := HB3.out.lay.lt
                    have kt : w.heap.size + 1 < wc.heap.size := cell_lt (a := ⟨w.heap.size + 1, 0, none⟩) HB3.out.o0
                    have HBa := Lib.hid B3a
                    clear B3d B3a k2
                    have hks := Lib.hid (marks_le s.K a2)
                    have HMk := Lib.hid (marks_run s.K a2 n (by omega) HZ2.out (mid_start HQ.out HE2.out HZ2.out (by omega) (by omega)) HN3.out HE3.out)
                    have HNz := Lib.hid (mid_all HN2.out HN3.out HZ2.out)
                    have HBd := Lib.hid (mid_end (a := a) HN3.out HE3.out (by omega))
                    go_wp2_with fail
                    go_region_law (
                     (refine step_append_lies _ (by rfl) _ _ _ (by rfl) (w.heap.size + 2) 93 i1 _ 3 24 under_marks hi1 hx0 hx1 hx2 rfl (by omega) kv2 (marksTo s.K a2).length ((marksTo s.K a2).flatMap markCells) (by rfl) HBa.out.krow
                        ⟨wc.heap.size, 0, none⟩ 1 1 [.int .i64 a2, .int .i64 n, .bool (s.K a2 == 1)] (by rfl) (by rfl) (World.news_of_block (cs := #[.int .i64 a2, .int .i64 n, .bool (s.K a2 == 1)]) (t := 93) (fr := (0, 0)) (by exact heap_alloc_at wc _ _ rfl)) (by simp [Value.oneCell'])
                        (by omega) (by have := hks.out; simp [maxLen]; omega) (by have := hks.out; omega) HBa.out.hb _ rfl ?_; intro gg cap w1 hown1 hgrow hat hlt1
                      have e1 := (hgrow.cell_far ⟨w.heap.size + 1, 1, none⟩ (by simp; omega) (row_far HBa.out.krow AP.out.tb)).trans HBa.out.o1
                      have e2 := (hgrow.frozen_far ⟨w.heap.size + 1, 1, none⟩ (by simp; omega) (row_far HBa.out.krow AP.out.tb)).trans (HBa.out.ofree 1)
                      have e3 := (hgrow.cell_far ⟨y, 3 + a2, none⟩ (by simp; omega) (row_far HBa.out.krow AP.out.yb)).trans (HBa.out.lay.kinds a2 (by omega))))
                    all_goals
                      (have hBm := HBa.out.mark AP.out ((a2 : Int), (n : Int), s.K a2 == 1) hown1 hgrow
                       have HBm := Lib.hid hBm
                       clear hBm
                       (try go_wp2_with fail)
                       go_roundg (65536 - (a2 + n))
                       case measure => omega
                       case rel => exact ⟨a2 + n, _, by omega, by omega, by go_num, by rw [HMk.out]; exact HBm, HNz, HBd⟩)
          case rest =>
            obtain ⟨a2, kv2, h12, h2, rfl, HB2, HN2, HE2⟩ := hcut
            obtain ⟨n, rfl⟩ : ∃ n, a2 = a + n := ⟨a2 - a, by omega⟩
            have ko := HB2.out.o0
            have kf := HB2.out.ofree 0
            have kl : y < wc.heap.size := HB2.out.lay.lt
            have kt : w.heap.size + 1 < wc.heap.size := cell_lt (a := ⟨w.heap.size + 1, 0, none⟩) HB2.out.o0
            have kb : w.heap.size + 2 ≤ wc.heap.size := HB2.out.hb
            have hne65 : ¬ (65536 = a) := by omega
            have htn : ((a : Int) + (n : Int)).toNat - a = n := by omega
            have hle1 : (a : Int) ≤ (a : Int) + n := by omega
            have hle2 : (a : Int) + n ≤ 65536 := by omega
            have hcl := clone_bytes y (65539 + a) n (65536 - a) ((List.range n).map fun j => M (a + j)) wc.drew (by simp) (by omega) (by omega) (fun j v hv => by
              simp only [List.map_map] at hv
              obtain ⟨hj, rfl⟩ : j < n ∧ v = .int .u8 (M (a + j)) := by
                rcases Nat.lt_or_ge j n with h | h
                · simp [h] at hv; exact ⟨h, hv.symm⟩
                · rw [List.getElem?_eq_none (by simp; omega)] at hv; cases hv
              rw [Nat.add_assoc]
              exact HB2.out.lay.bytes (a + j) (by omega))
            have HBk := Lib.hid (blocks_run s.K M a n (by omega) (by rcases HQ.out with h | h | h | h; exact .inl h; omega; exact .inr h; exact absurd h HZ.out) HN2.out (by rcases HE2.out with h | h; exact .inl h; rcases Nat.lt_or_ge (a + n) 65536 with h5 | h5; exact .inr ⟨h5, h⟩; exact .inl (by omega)))
            have hbl0 : bl.length ≤ a := by have := blocks_le s.K M a; rw [← HP.out, plainBl_length] at this; exact this
            have HBe := Lib.hid (show a + n = 65536 ∨ s.K (a + n) = 0 from HE2.out)
            have HB2d := Lib.hid (HB2.out.keep (Below.refl _ _).drew)
            clear k0
            go_wp2_with fail
            go_region_law (first
              | (refine step_append_lies _ (by rfl) _ _ _ (by rfl) (w.heap.size + 2) 40 i2 _ 2 32 under_blocks hi2 hw0 hw1 hw2 rfl (by omega) bv bl.length (bl.flatMap blockCells) (by rfl) HB4.out.brow
                  ⟨w3.heap.size, 0, none⟩ 1 1 [.int .i64 a, .slice (some ⟨g3, 0, none⟩) n cap3] (by rfl) (by rfl) (World.news_of_block (cs := #[.int .i64 a, .slice (some ⟨g3, 0, none⟩) n cap3]) (t := 40) (fr := (0, 0)) (by exact heap_alloc_at w3 _ _ rfl)) (by simp [Value.oneCell'])
                  (by omega) (by simp [maxLen]; omega) (by omega) HB4.out.hb _ rfl ?_; intro gg cap w1 hown1 hgrow hat hlt1
                 have e1 := (hgrow.cell_far ⟨w.heap.size + 1, 0, none⟩ (by simp; omega) (row_far HB4.out.brow AP.out.tb)).trans HB4.out.o0
                 have e2 := (hgrow.frozen_far ⟨w.heap.size + 1, 0, none⟩ (by simp; omega) (row_far HB4.out.brow AP.out.tb)).trans (HB4.out.ofree 0))
              | (go_simp
                 go_at_call 36
                 refine hcl.mono ?_
                 rintro e w3 ⟨g3, cap3, rfl, hby, hbel⟩
                 have HB3 := Lib.hid (HB2d.out.keep hbel)
                 have HB4 := Lib.hid (HB3.out.keep (below_new w3 (.cells #[.int .i64 a, .slice (some ⟨g3, 0, none⟩) n cap3] 40)))
                 have HBy := Lib.hid hby
                 have f1 := HB3.out.o0
                 have f2 := HB3.out.ofree 0
                 have f3 : wc.heap.size ≤ w3.heap.size := hbel.size
                 have f4 : w.heap.size + 1 < w3.heap.size := by omega
                 clear hby))
            all_goals
              (have hBb := HB4.out.block AP.out ((a : Int), .slice (some ⟨g3, 0, none⟩) n cap3, (List.range n).map fun j => M (a + j)) (by
                 have hb := (HBy.out.base (b2 := w.heap.size + 2) (by simp; omega))
                 exact hb.alloc _) hown1 hgrow
               have HBb := Lib.hid hBb
               clear hBb
               (try go_wp2_with fail)
               go_roundg (65536 - (a + n))
               case measure => omega
               case rel => exact ⟨a + n, _, kv2, _, by omega, by go_num, HBb, Lib.hid (by rw [plain_add, HP.out, HBk.out]), Lib.hid (by rcases HBe.out with h | h; exact .inr (.inl h); exact .inr (.inr (.inr h)))⟩)
  case rest =>
    obtain ⟨bv, kv, bl, hB, hP⟩ := hcut.out
    have mc := hB.lay.c2
    have HB := Lib.hid hB
    have HP := Lib.hid hP
    clear hB hP hcut HB0
    go_upto_block 6 with (first | (at_range; refine wpList_range_own _ rfl _ _ rfl 9 3 (string_keyed under_string) under_map _ m _ _ rfl HB.out.own ?_; intro w5 hrg5 hg5 hs5) | fail)
    go_frame
    have hb5 : Below wc.heap.size wc w5 := ⟨hg5.os, hg5.tape, hg5.output, hg5.size, fun k hk => hg5.block k hk (by simp)⟩
    have HB5 := Lib.hid (HB.out.keep hb5)
    have HR5 := Lib.hid hrg5
    have kb : w.heap.size + 2 ≤ wc.heap.size := HB.out.hb
    clear hrg5 hg5 hs5 hb5 HB mc
    go_cut [] (fun wx => ∃ (nv : Value) (nl : List (ByteArray × Int)), Hid (Built w0 wx y m (w.heap.size + 1) (w.heap.size + 2) lv av s M bv kv nv bl (marksTo s.K 65536) nl) ∧ Hid (nl.Perm s.labs))
    case first =>
      go_wp2_with fail
      go_loopg [7] (Maps.size (mapOf s.labs)) (fun gk s7 wr => ∃ (left : Lit → Bool) (nv : Value) (nl rest : List (ByteArray × Int)),
        Hid (wr.ranges Tryd.prog 9 (plainElem Tryd.prog 3) m wc.heap.size s.labs.length (mapOf s.labs) left gk) ∧ Hid (Built w0 wr y m (w.heap.size + 1) (w.heap.size + 2) lv av s M bv kv nv bl (marksTo s.K 65536) nl) ∧ Hid (ToCome s.labs nl rest left))
      case atStart => exact ⟨_, _, [], s.labs, HR5, HB5, Lib.hid (ToCome.start hks)⟩
      case round =>
        clear HB5 HR5
        obtain ⟨left, nv, nl, rest, HR, HB, HC⟩ := hrel
        go_wp2_with (first | (at_next; refine wpList_next_ranges _ rfl _ rfl 9 (string_keyed under_string) (plainElem Tryd.prog 3) Value.string (Value.int .i64) (fun key kl h => (inv_str key kl h).imp fun _ h => h.1) (fun v y h => (inv_int v y h).imp fun _ h => h.1) m wc.heap.size _ _ _ _ rfl HR.out ?_ ?_) | fail)
        · intro hc0 hl0
          have HL0 := Lib.hid hl0
          clear hl0
          go_wp2_with fail
          go_meet
          exact ⟨nv, nl, HB, Lib.hid (HC.out.stop HL0.out)⟩
        · intro x c kl ya yb w6 cnt' hkx hlk hRv hat hrg6 hlt6 hg6 hs6 hen
          have HB6 := Lib.hid (HB.out.iter AP.out kb (ranges_iter HR.out) hg6)
          have HR6 := Lib.hid hrg6
          obtain ⟨p, hp1, hp2, hp3, rest', hst⟩ := HC.out.step hks hlk
          have hxp : x = p.1 := by
            obtain ⟨x', e1, e2⟩ := inv_str _ _ hkx
            cases e1
            rw [hp1] at e2
            injection e2 with e2
            exact (Go.WideShapes.bytes_inj e2).symm
          have hcp : c = p.2 := by
            obtain ⟨c', e1, e2⟩ := inv_int _ _ hRv
            cases e1
            have e3 := hat (.lit (.int .i64 0))
            rw [hp1, atKey_mapOf, hp2] at e3
            injection e2 with e4 _
            rw [e4] at e3
            simpa using e3.symm
          subst hxp hcp
          have HSt := Lib.hid hst
          clear hst hp1 hp2 hkx hlk hRv hat hrg6 hg6 hs6
          have hnl : nl.length ≤ 4096 := by have := HC.out.perm.length_eq; simp at this; omega
          have HB7 := Lib.hid (HB6.out.keep (below_new w6 (.cells #[.string p.1, .int .i64 p.2] 79)))
          have HR7 := Lib.hid (HR6.out.alloc (.cells #[.string p.1, .int .i64 p.2] 79))
          have f1 := HB6.out.o2
          have f2 := HB6.out.ofree 2
          have f4 : w.heap.size + 1 < w6.heap.size := cell_lt (a := ⟨w.heap.size + 1, 2, none⟩) f1
          go_wp2_with (first
            | (at_builtin
               refine wpList_append_lies _ rfl _ _ _ rfl (w.heap.size + 2) 79 i3 _ 2 24 under_labels hi3 hv0 hv1 hv2 rfl (by omega) nv nl.length (nl.flatMap labelCells) (by rfl) HB7.out.nrow
                ⟨w6.heap.size, 0, none⟩ 1 1 [.string p.1, .int .i64 p.2] (by rfl) (by rfl) (World.news_of_block (cs := #[.string p.1, .int .i64 p.2]) (t := 79) (fr := (0, 0)) (by exact heap_alloc_at w6 _ _ rfl)) (by simp [Value.oneCell'])
                (by omega) (by simp [maxLen]; omega) (by omega) HB7.out.hb _ rfl ?_
               intro gg cap w8 hown8 hgrow8 hat8 hlt8
               have e1 := (hgrow8.cell_far ⟨w.heap.size + 1, 2, none⟩ (by simp; omega) (row_far HB7.out.nrow AP.out.tb)).trans HB7.out.o2
               have e2 := (hgrow8.frozen_far ⟨w.heap.size + 1, 2, none⟩ (by simp; omega) (row_far HB7.out.nrow AP.out.tb)).trans (HB7.out.ofree 2)
               have HBl := Lib.hid (HB7.out.label AP.out (p.1, p.2) hown8 hgrow8)
               have HRl := Lib.hid ((HR7.out.kept hgrow8 (row_far HB7.out.nrow AP.out.mb) (by rcases row_not_iter HB7.out.nrow (ranges_iter HR7.out) with h | h; rw [h]; simp; exact Ne.symm h)).kept (grown_set w8 (w.heap.size + 1) 2 (.slice (some ⟨gg, 0, none⟩) (nl.length + 1) cap)) (by simp [AP.out.mt]) (by simp; omega))
               clear hown8 hgrow8)
            | fail)
          go_roundg cnt'
          case measure => omega
          case rel => exact ⟨_, _, nl ++ [(p.1, p.2)], rest', HRl, HBl, HSt⟩
    case rest =>
      obtain ⟨nv, nl, HB, HPm⟩ := hcut
      clear HB5 HR5
      obtain ⟨Ab, cb, rfl, _⟩ := row_slice HB.out.brow
      obtain ⟨Ak, ck, rfl, _⟩ := row_slice HB.out.krow
      obtain ⟨An, cn, rfl, _⟩ := row_slice HB.out.nrow
      have hsort := sort_labels HB.out AP.out (by rw [HPm.out.length_eq]; exact hll)
      have ko := HB.out.o2
      have HSo := Lib.hid hsort
      clear hsort
      go_wp2_with (first | (go_at_call 55; refine HSo.out.mono ?_; rintro e w7 ⟨rfl, hbel7, hobj7, ht7, hu7⟩
                            have q0 : w7.cell? ⟨w.heap.size + 1, 0, none⟩ = some _ := (World.cell?_of_block (w := wc) ht7).trans HB.out.o0
                            have q1 : w7.cell? ⟨w.heap.size + 1, 1, none⟩ = some _ := (World.cell?_of_block (w := wc) ht7).trans HB.out.o1
                            have q2 : w7.cell? ⟨w.heap.size + 1, 2, none⟩ = some _ := (World.cell?_of_block (w := wc) ht7).trans HB.out.o2
                            have hu8 : w7.heap[w.heap.size]? = some (.cells #[.slice none 0 0, .slice none 0 0, .slice none 0 0] 35) := hu7.trans HB.out.ub
                            have r0 : w7.cell? ⟨w.heap.size, 0, none⟩ = some (.slice none 0 0) := by simp only [World.cell?, hu8]; rfl
                            have r1 : w7.cell? ⟨w.heap.size, 1, none⟩ = some (.slice none 0 0) := by simp only [World.cell?, hu8]; rfl
                            have r2 : w7.cell? ⟨w.heap.size, 2, none⟩ = some (.slice none 0 0) := by simp only [World.cell?, hu8]; rfl
                            have z0 : ∀ o, w7.frozen? ⟨w.heap.size, o, none⟩ = false := fun o => by simp [World.frozen?, hu8]
                            have z00 := z0 0
                            have z01 := z0 1
                            have z02 := z0 2
                            have HBe7 := Lib.hid hbel7
                            have HOb7 := Lib.hid hobj7
                            clear hobj7 hbel7 z0 ht7 hu7 hu8) | fail)
      have hg8 := grown_set3 w7 w.heap.size 0 1 2 (.slice Ab bl.length cb) (.slice Ak (marksTo s.K 65536).length ck) (.slice An nl.length cn)
      have v0 := (set_other (w := ((w7.setCell ⟨w.heap.size, 0, none⟩ (.slice Ab bl.length cb)).setCell ⟨w.heap.size, 1, none⟩ (.slice Ak (marksTo s.K 65536).length ck))) (b := w.heap.size) (o := 2) (b' := w.heap.size) (o' := 0) (v := .slice An nl.length cn) (by omega)).trans ((set_other (by omega)).trans (set_same r0 (v := .slice Ab bl.length cb)))
      have v1 := (set_other (w := ((w7.setCell ⟨w.heap.size, 0, none⟩ (.slice Ab bl.length cb)).setCell ⟨w.heap.size, 1, none⟩ (.slice Ak (marksTo s.K 65536).length ck))) (b := w.heap.size) (o := 2) (b' := w.heap.size) (o' := 1) (v := .slice An nl.length cn) (by omega)).trans (set_same ((set_other (by omega)).trans r1))
      have v2 := set_same (w := ((w7.setCell ⟨w.heap.size, 0, none⟩ (.slice Ab bl.length cb)).setCell ⟨w.heap.size, 1, none⟩ (.slice Ak (marksTo s.K 65536).length ck))) (b := w.heap.size) (o := 2) (v := .slice An nl.length cn) ((set_other (by omega)).trans ((set_other (by omega)).trans r2))
      have hob8 : ∀ w2, KeptFrom (w.heap.size + 2) (((w7.setCell ⟨w.heap.size, 0, none⟩ (.slice Ab bl.length cb)).setCell ⟨w.heap.size, 1, none⟩ (.slice Ak (marksTo s.K 65536).length ck)).setCell ⟨w.heap.size, 2, none⟩ (.slice An nl.length cn)) w2 → ObjAt w2 (.slice Ab bl.length cb) (.slice Ak (marksTo s.K 65536).length ck) (.slice An nl.length cn) (blocksTo s.K M 65536) (marksTo s.K 65536) (sortedLabs s.labs) := fun w2 k2 => by
        have := HOb7.out w2 ((KeptFrom.set (by omega) hg8).trans k2 hg8.size)
        rw [HP.out, sortedLabs_perm HPm.out] at this
        exact this
      have hbs8 : w0.heap.size ≤ w.heap.size + 2 := by have := HF.out.below.size; omega
      have hbe8 := below_grown HBe7.out hg8 HBe7.out.size (by intro k e; cases e; exact HF.out.below.size)
      generalize (((w7.setCell ⟨w.heap.size, 0, none⟩ (.slice Ab bl.length cb)).setCell ⟨w.heap.size, 1, none⟩ (.slice Ak (marksTo s.K 65536).length ck)).setCell ⟨w.heap.size, 2, none⟩ (.slice An nl.length cn)) = w8 at *
      exact bodyPost_ret (v := .agg #[.slice Ab bl.length cb, .slice Ak (marksTo s.K 65536).length ck, .slice An nl.length cn]) (by simp [results, Tryd.results35, go_sem, v0, v1, v2]) rfl ⟨_, _, _, _, rfl, hob8, hbs8, hbe8⟩
end Go.Proofs.YtpjdkdphklgfjaaDoor

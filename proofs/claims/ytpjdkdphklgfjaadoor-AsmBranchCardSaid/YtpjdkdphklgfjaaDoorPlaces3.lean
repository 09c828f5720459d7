/- The walk of the first pass. -/
import Derived.Test.YtpjdkdphklgfjaaDoorPlaces2
import Derived.StillTailTactics
namespace Go.Proofs.YtpjdkdphklgfjaaDoor
open Go.RowKit Go.Shelf Go.Maps
set_option linter.unusedVariables false
set_option linter.unusedSimpArgs false

/-- What the first pass hands back. -/
def PlacesRet (w0 : World) (y m : Nat) (lv : Value) (r : (Int × Int) ⊕ LayS) (e : Ending) (w' : World) : Prop :=
  match r with
  | .inl p => e = .returned (.tuple #[.int .i64 p.1, .int .i64 p.2]) ∧ Below w0.heap.size w0 w'
  | .inr s => e = .returned (.tuple #[.int .i64 0, .int .i64 0]) ∧ ∃ base box av, Apart w0 y m base ∧ Going w0 w' y m base box lv av s

theorem info_int : (Tryd.prog.info? 3).map (fun i => (i.zero, i.size, i.bytes)) = some (some (.int .i64 0), 1, 8) := by kernel_rfl
theorem under_int : Tryd.prog.underlying 3 = some (.int .i64) := by kernel_rfl
theorem under_ints : Tryd.prog.underlying 71 = some (.slice 3) := by kernel_rfl
theorem under_string : Tryd.prog.underlying 9 = some .string := by kernel_rfl
theorem under_map : Tryd.prog.underlying 70 = some (.map 9 3) := by kernel_rfl

theorem zero_int (w : World) : (zeroValue 3).run Tryd.prog w = .ok (.int .i64 0) w := by kernel_rfl
theorem key_str (s : ByteArray) (hs : s.size ≤ maxLen) : keyOf Tryd.prog 9 (.string s) = some (.string s.data.toList) := by
  simp [keyOf, under_string, mapKey, hs]
theorem heap_alloc_at (W : World) (o : Obj) (n : Nat) (h : n = W.heap.size) : (W.alloc o).heap[n]? = some o := h ▸ heap_alloc_new W o

set_option maxRecDepth 100000 in
set_option maxHeartbeats 4000000 in
theorem asm_places_walk (b off c : Nat) (l : List Item) (w0 w : World) (y m : Nat) (hT : Tabs w0) (hn : l.length ≤ 4096) (hwf : ∀ x ∈ l, x.wf) (hmay : ∀ x ∈ l, x.may = true)
    (hl : ∀ j x, l[j]? = some x → ItemAt w0 b (off + j * 6) x) (hB : Below w0.heap.size w0 w) (hy0 : w0.heap.size ≤ y) (hm0 : w0.heap.size ≤ m) (hne : y ≠ m)
    (hy : LayAt w y (.slice (some ⟨b, off, none⟩) l.length c) (.slice none 0 0) (.map (some m)) (fun _ => 0) (fun _ => 0))
    (hm : w.ownsMap Tryd.prog 9 (plainElem Tryd.prog 3) m 0 (mapOf [])) (r : (Int × Int) ⊕ LayS) (hr : r = layFrom l lay0 0) :
    Calls Tryd.prog 33 #[.pointer (some ⟨y, 0, none⟩)] w (PlacesRet w0 y m (.slice (some ⟨b, off, none⟩) l.length c) r) := by
  obtain ⟨i0, hi0, hz0, hz1, hz2⟩ := info_parts info_int
  have ap : Apart w0 y m (w.heap.size + 1) := ⟨hy0, hm0, hne, by have := hy.lt; omega, by have := hm.lt; omega⟩
  have hbx : w.heap.size ≠ y := by have := hy.lt; omega
  have hbm : w.heap.size ≠ m := by have := hm.lt; omega
  have g0 : Going w0 (w.alloc (.cells #[.pointer (some ⟨y, 0, none⟩)] 69)) y m (w.heap.size + 1) w.heap.size (.slice (some ⟨b, off, none⟩) l.length c) (.slice none 0 0) lay0 :=
    ⟨hB.alloc hB.size _, hy.alloc _, World.ownsRow_nil _ _ _ _, hm.alloc _, by simp, by simp⟩
  have ylt := hy.lt
  have mlt := hm.lt
  have G0 := Lib.hid g0
  have AP := Lib.hid ap
  have HR := Lib.hid hr
  have HL := Lib.hid hl
  have HW := Lib.hid hwf
  have HM := Lib.hid hmay
  have HT := Lib.hid hT
  have HB := Lib.hid hB
  have yc0 := hy.c0
  clear hr hl hwf hmay hT g0 ap hy hm hB
  have hn' : (l.length : Int) ≤ 4096 := by omega
  go_enter Tryd.func33, Tryd.ntmps33
  go_wp2_with fail
  go_loopw [4, 21] (fun p i wr => ∃ (k : Nat) (s : LayS) (av : Value), k ≤ l.length ∧ p = .int .i64 s.place ∧ i = .int .i64 k ∧ Going w0 wr y m (w.heap.size + 1) w.heap.size (.slice (some ⟨b, off, none⟩) l.length c) av s ∧
      layFrom l lay0 0 = layFrom (l.drop k) s k ∧ s.ats.length = k ∧ s.labs.length ≤ k ∧ s.ok) (fun _ i _ => l.length - (intOf i).toNat)
  case atStart => exact ⟨0, lay0, _, by omega, rfl, rfl, G0.out, rfl, rfl, by simp [lay0], ok0⟩
  case round =>
    obtain ⟨k, s, av, hk, rfl, rfl, hg, hf, hal, hll, hok⟩ := hrel
    have HG := Lib.hid hg
    have HF := Lib.hid hf
    have HO := Lib.hid hok
    have hp0 := hok.place0
    have hp1 := hok.place1
    have bx := hg.boxc
    have y1 := hg.lay.c1
    have yf := hg.lay.free 1
    have hyr : y < wr.heap.size := hg.lay.lt
    have hbr : w.heap.size < wr.heap.size := hg.hb
    have hsz : w.heap.size + 1 ≤ wr.heap.size := hg.hb
    clear hg hf hok
    by_cases hlt : k < l.length
    · obtain ⟨x, hx⟩ : ∃ x, l[k] = x := ⟨_, rfl⟩
      have hxm : x ∈ l := by rw [← hx]; exact List.getElem_mem hlt
      obtain ⟨A2, c2, x0, x1, x2, x3, x4, x5, _⟩ := (HL.out k x (by rw [List.getElem?_eq_getElem hlt, hx])).below HG.out.below
      have hxmay := HM.out x hxm
      have hz := Item.size_range hxmay
      have HX := Lib.hid hx
      clear hx
      have hav : ∀ q, q < w.heap.size + 1 → some q ≠ av.ownBlock := fun q hq e => by have := (HG.out.row.lt q e.symm).1; omega
      have hrow2 : (((wr.alloc (.cells #[.int .u8 x.kind, .string x.name, .int .i64 x.arg, .string x.label, .int .u8 x.part, .slice A2 x.bytes.length c2] 46)).drew).alloc (.cells #[.int .i64 s.place] 3)).ownsRow (w.heap.size + 1) 3 1 av k (s.ats.map (Value.int .i64)) := by
        have := ((((HG.out.alloc (.cells #[.int .u8 x.kind, .string x.name, .int .i64 x.arg, .string x.label, .int .u8 x.part, .slice A2 x.bytes.length c2] 46)).drew).alloc (.cells #[.int .i64 s.place] 3))).row
        rw [hal] at this
        exact this
      have hlt' : (k : Int) < (l.length : Int) := by omega
      go_wp2_with fail
      have bx1 := ((HG.out.alloc (.cells #[.int .u8 x.kind, .string x.name, .int .i64 x.arg, .string x.label, .int .u8 x.part, .slice A2 x.bytes.length c2] 46)).drew)
      have hcp0 : Copied ((wr.alloc (.cells #[.int .u8 x.kind, .string x.name, .int .i64 x.arg, .string x.label, .int .u8 x.part, .slice A2 x.bytes.length c2] 46)).drew) wr.heap.size x A2 c2 := by
        unfold Copied; simp
      go_upto_region 6 with fail
      go_cut [] (fun wx => ∃ av1, Hid (Going w0 wx y m (w.heap.size + 1) w.heap.size (.slice (some ⟨b, off, none⟩) l.length c) av1 { s with ats := s.ats ++ [s.place] }) ∧ Hid (Copied wx wr.heap.size x A2 c2) ∧ wr.heap.size < wx.heap.size)
      case first =>
        go_region_law (
         (refine step_append_lies _ (by rfl) _ _ _ (by rfl) (w.heap.size + 1) 3 i0 _ 1 8 under_ints hi0 hz0 hz1 hz2 rfl (by omega) av k (s.ats.map (Value.int .i64)) (by rfl) hrow2
            ⟨wr.heap.size + 1, 0, none⟩ 1 1 [.int .i64 s.place] (by rfl) (by rfl) (World.news_of_block (cs := #[.int .i64 s.place]) (t := 3) (fr := (0, 0)) (heap_alloc_at _ _ _ (by simp))) (by simp [Value.oneCell'])
            (by omega) (by simp [maxLen]; omega) (by omega) (by simp; omega) _ rfl ?_; intro gg cap w1 hown1 hgrow hat hlt1
          have e1 := (hgrow.cell_far ⟨w.heap.size, 0, none⟩ (by simp; omega) (hav _ (by simp))).trans (((bx1).alloc (.cells #[.int .i64 s.place] 3))).boxc
          have e2 := (hgrow.frozen_far ⟨y, 1, none⟩ (by simp; omega) (hav _ (by simp; omega))).trans ((((bx1).alloc (.cells #[.int .i64 s.place] 3))).lay.free 1)
          have e3 := (hgrow.cell_far ⟨y, 1, none⟩ (by simp; omega) (hav _ (by simp; omega))).trans ((((bx1).alloc (.cells #[.int .i64 s.place] 3))).lay.c1)))
        all_goals
          (have hg2 := (bx1.alloc (.cells #[.int .i64 s.place] 3)).append AP.out hbx (by omega) (by rw [hal]; exact hown1) hgrow
           have hcp : Copied (w1.setCell ⟨y, 1, none⟩ (.slice (some ⟨gg, 0, none⟩) (k + 1) cap)) wr.heap.size x A2 c2 := (hcp0.kept ((hgrow.block _ (by simp; omega) (fun e => by have := (HG.out.row.lt _ e.symm).2; omega)).trans (heap_alloc_old _ _ (by simp)))).kept ((grown_set _ _ _ _).block _ (by have := hgrow.size; simp at this; omega) (by simp; omega))
           have hWs : wr.heap.size < (w1.setCell ⟨y, 1, none⟩ (.slice (some ⟨gg, 0, none⟩) (k + 1) cap)).heap.size := by have := hgrow.size; simp at this; simp; omega
           (try go_wp2_with fail)
           go_meet
           exact ⟨_, Lib.hid hg2, Lib.hid hcp, hWs⟩)
      case rest =>
        obtain ⟨av1, HG2, HC, hWs⟩ := hcut
        clear HG bx y1 yf hav hrow2 bx1 hcp0
        obtain ⟨d0, d1, d2, d3, d4, d5⟩ := HC.out
        have hxk := Item.kinds hxmay
        by_cases h4 : x.kind = 4
        · have e4 : (x.kind == 4) = true := by rw [h4]; rfl
          have hstep : layStep s x = .inr ⟨x.arg, s.ats ++ [s.place], s.labs, s.K⟩ := by unfold layStep; rw [if_pos h4]
          have HS := Lib.hid hstep
          clear hstep
          go_wp2_with fail
          go_roundw
          case rel =>
            have hf := HF.out
            rw [layFrom_drop l k hlt, HX.out, HS.out] at hf
            exact ⟨k + 1, ⟨x.arg, s.ats ++ [s.place], s.labs, s.K⟩, av1, by omega, rfl, by go_num, ⟨HG2.out.below, HG2.out.lay, HG2.out.row, HG2.out.own, HG2.out.hb, HG2.out.boxc⟩, by rw [hf]; rfl, by simp [hal], by simp; omega, HO.out.step hxmay HS.out⟩
          case measure => simp [intOf]; omega
        · have e4 : (x.kind == 4) = false := beq_eq_false_iff_ne.2 h4
          go_upto_block 2 with fail
          go_cut [4] (fun s4 wx => s4 = .int .i64 s.place ∧ Hid (Going w0 wx y m (w.heap.size + 1) w.heap.size (.slice (some ⟨b, off, none⟩) l.length c) av1 ⟨s.place, s.ats ++ [s.place], labsOf s x, s.K⟩) ∧ Hid (Copied wx wr.heap.size x A2 c2) ∧ wr.heap.size < wx.heap.size ∧
            Hid (¬ (x.kind = 1 ∧ 65536 ≤ s.place)) ∧ Hid (¬ (x.kind = 1 ∧ (lookL s.labs x.name).isSome = true)))
          case first =>
            by_cases h1 : x.kind = 1
            · have e1 : (x.kind == 1) = true := by rw [h1]; rfl
              have hnm := Item.name1 hxmay h1
              by_cases hpl : 65536 ≤ s.place
              · have hstep : layStep s x = .inl 143 := by unfold layStep; rw [if_neg h4, if_pos ⟨h1, hpl⟩]
                have HS := Lib.hid hstep
                clear hstep
                go_wp2_with fail
                go_ret2
                have hf := HF.out
                rw [layFrom_drop l k hlt, HX.out, HS.out] at hf
                rw [HR.out, hf]
                exact ⟨rfl, HG2.out.below⟩
              · have H1 := Lib.hid h1
                have hlo : labsOf s x = (x.name, s.place) :: s.labs := by unfold labsOf; rw [if_pos h1]
                have HLo := Lib.hid hlo
                clear h1 hlo
                have hsw : (Lit.int .i64 s.place).wf = true := by simp [Lit.wf, IntKind.min, IntKind.max, IntKind.bits, IntKind.signed]; omega
                have hkey := key_str x.name (by simp [maxLen]; omega)
                obtain ⟨v, ps, hlook, hv⟩ := (HG2.out.own.drew).look_ok (string_keyed under_string) under_map (zero_int _) (plainElem_int under_int (by decide)) hkey
                rw [has_mapOf] at hlook
                obtain ⟨a0, rfl, _, _⟩ := plainElem_int_inv under_int hv
                have bx := HG2.out.boxc
                have y2 := HG2.out.lay.c2
                have ylt2 := HG2.out.lay.lt
                have blt2 := cell_lt bx
                cases hlk : (lookL s.labs x.name).isSome
                · rw [hlk] at hlook
                  obtain ⟨w2, hput, hown2, hgrow2⟩ := (HG2.out.own.drew.drew).update (string_keyed under_string) under_map (show s.labs.length < maxLen by simp [maxLen]; omega) hkey (plainElem_int (H := Unit) under_int hsw)
                  have hcp2 := (HC.out.kept (w1 := w2) (hgrow2.block _ hWs (by simp; omega)))
                  have hg3 := HG2.out.drew.drew.put AP.out hbm x.name hown2 hgrow2
                  have hsz2 : wr.heap.size < w2.heap.size := by have := hgrow2.size; simp at this; omega
                  have HG3 := Lib.hid hg3
                  have HC3 := Lib.hid hcp2
                  have HLk := Lib.hid hlk
                  have HPl := Lib.hid hpl
                  clear hg3 hcp2 hlk hown2 hgrow2
                  go_wp2_with fail
                  go_region
                  go_wp2_with fail
                  go_region
                  (try go_wp2_with fail)
                  go_meet
                  exact ⟨rfl, by rw [HLo.out]; exact HG3, HC3, hsz2, Lib.hid fun h => by have := HPl.out; have := h.2; omega, Lib.hid fun h => by rw [HLk.out] at h; cases h.2⟩
                · rw [hlk] at hlook
                  have hstep : layStep s x = .inl 140 := by unfold layStep; rw [if_neg h4, if_neg (fun h => hpl h.2), if_pos ⟨H1.out, hlk⟩]
                  have HS := Lib.hid hstep
                  clear hstep
                  go_wp2_with fail
                  go_region
                  go_wp2_with fail
                  go_ret2
                  have hf := HF.out
                  rw [layFrom_drop l k hlt, HX.out, HS.out] at hf
                  rw [HR.out, hf]
                  exact ⟨rfl, HG2.out.drew.below⟩
            · have e1 : (x.kind == 1) = false := beq_eq_false_iff_ne.2 h1
              have hlo : labsOf s x = s.labs := by unfold labsOf; rw [if_neg h1]
              have HLo := Lib.hid hlo
              clear hlo
              go_wp2_with fail
              go_meet
              exact ⟨rfl, by rw [HLo.out]; exact HG2, HC, hWs, Lib.hid fun h => h1 h.1, Lib.hid fun h => h1 h.1⟩
          case rest =>
            obtain ⟨rfl, HG3, HC3, hW3, HP, HQ⟩ := hcut
            clear HG2 HC d0 d1 d2 d3 d4 d5 hWs
            obtain ⟨d0, d1, d2, d3, d4, d5⟩ := HC3.out
            obtain ⟨y0, y1, y2, y3, y4, y5, y6, y7, y8, _⟩ := HW.out x hxm
            have hsize := size_yes x.kind x.arg x.part x.name x.label A2 x.bytes.length c2 wc (HT.out.below HG3.out.below) y3 y4 y2 y5 y8 hxmay
            change Calls _ _ _ _ (RetSize _ x.size 0) at hsize
            go_wp2_with fail
            refine hsize.mono ?_
            rintro e w4 ⟨rfl, hb4⟩
            have hcp4 : Copied w4 wr.heap.size x A2 c2 := HC3.out.kept (hb4.block _ hW3)
            have hg4 := HG3.out.keep hb4
            have HG4 := Lib.hid hg4
            have HC4 := Lib.hid hcp4
            have hW4 : wr.heap.size < w4.heap.size := by have := hb4.size; omega
            clear hg4 hcp4 HG3 HC3 hsize d0 d1 d2 d3 d4 d5 hb4 hW3
            obtain ⟨d0, d1, d2, d3, d4, d5⟩ := HC4.out
            by_cases hbig : 0 < x.size ∧ 65536 < s.place + x.size
            · have hstep : layStep s x = .inl 143 := by unfold layStep; rw [if_neg h4, if_neg HP.out, if_neg HQ.out, if_pos hbig]
              have HS := Lib.hid hstep
              clear hstep
              obtain ⟨hb1, hb2⟩ := hbig
              go_wp2_with fail
              go_ret2
              have hf := HF.out
              rw [layFrom_drop l k hlt, HX.out, HS.out] at hf
              rw [HR.out, hf]
              exact ⟨rfl, HG4.out.below⟩
            · have hfit : s.place + x.size ≤ 65536 := by omega
              have hbig' : ¬ 65536 < s.place + x.size := by omega
              have HBig := Lib.hid hbig
              clear hbig
              obtain ⟨p, hp⟩ : ∃ p : Nat, s.place = p := ⟨s.place.toNat, by omega⟩
              obtain ⟨n, hn2⟩ : ∃ n : Nat, x.size = n := ⟨x.size.toNat, by omega⟩
              rw [hp, hn2] at hfit hbig'
              rw [hp] at hp0 hp1
              have HPp := Lib.hid hp
              have HNn := Lib.hid hn2
              rw [hp, hn2]
              clear hp hn2 hz
              have HE := HG4.out
              have bx := HE.boxc
              have bf := HE.lay.lt
              have hnc : ((0 : Int) < (n : Int)) ↔ 0 < n := by omega
              have HKd := Lib.hid (show kindOf x = if x.kind = 2 then 1 else 2 from rfl)
              have hdo : ∀ hs0 : Prop, True := fun _ => trivial
              have hgo : (decide ((0 : Int) < (n : Int)) && decide (65536 < (p : Int) + (n : Int))) = false := by
                rw [decide_eq_false hbig', Bool.and_false]
              by_cases hpos : (0 : Int) < (n : Int)
              all_goals
                (go_upto_if 82 with fail
                 go_cut [12] (fun s12 wx => w4 = wx ∧ s12 = .int .u8 (kindOf x))
                 case first =>
                   by_cases h2 : x.kind = 2
                   · have e2 : (x.kind == 2) = true := by rw [h2]; rfl
                     go_wp2_with fail
                     go_meet
                     exact ⟨rfl, by rw [HKd.out, if_pos h2]⟩
                   · have e2 : (x.kind == 2) = false := beq_eq_false_iff_ne.2 h2
                     go_wp2_with fail
                     go_meet
                     exact ⟨rfl, by rw [HKd.out, if_neg h2]⟩
                 case rest =>
                   obtain ⟨rfl, rfl⟩ := hcut
                   clear HKd HC4 d0 d1 d2 d3 d4 d5
                   obtain ⟨kd, hkd⟩ : ∃ kd, kindOf x = kd := ⟨_, rfl⟩
                   have HKd := Lib.hid hkd
                   rw [hkd]
                   clear hkd
                   go_wp2_with fail
                   go_loopg [13] n (fun g s13 wx => w4 = wx ∧ ∃ j : Nat, j + g = n ∧ s13 = .int .i64 ((p : Int) + j) ∧ takenK s.K p j = false)
                   case atStart => exact ⟨rfl, 0, by omega, by simp, rfl⟩
                   case round =>
                     obtain ⟨rfl, j, hj, rfl, htk⟩ := hrel
                     have HTk := Lib.hid htk
                     clear htk
                     cases gk with
                     | zero =>
                       obtain rfl : j = n := by omega
                       have hend : ¬ ((p : Int) + (j : Int) < (p : Int) + (j : Int)) := by omega
                       go_wp2_with fail
                       go_loopg [14] j (fun g s14 wx => ∃ q : Nat, q + g = j ∧ s14 = .int .i64 ((p : Int) + q) ∧ Hid (Going w0 wx y m (w.heap.size + 1) w.heap.size (.slice (some ⟨b, off, none⟩) l.length c) av1 ⟨s.place, s.ats ++ [s.place], labsOf s x, setK s.K p q kd⟩))
                       case atStart => exact ⟨0, by omega, by simp, by rw [setK_zero]; exact HG4⟩
                       case round =>
                         obtain ⟨q, hq, rfl, HG5⟩ := hrel
                         cases gk with
                         | zero =>
                           obtain rfl : q = j := by omega
                           have hstep : layStep s x = .inr ⟨s.place + x.size, s.ats ++ [s.place], labsOf s x, setK s.K p q kd⟩ := by
                             have e5 : s.place.toNat = p := by rw [HPp.out]; rfl
                             have e6 : x.size.toNat = q := by rw [HNn.out]; rfl
                             unfold layStep
                             rw [if_neg h4, if_neg HP.out, if_neg HQ.out, if_neg HBig.out, e5, e6, HTk.out, if_neg (by simp), HKd.out]
                           have HS := Lib.hid hstep
                           clear hstep
                           go_wp2_with fail
                           go_roundw
                           case rel =>
                             have hf := HF.out
                             rw [layFrom_drop l k hlt, HX.out, HS.out] at hf
                             exact ⟨k + 1, ⟨s.place + x.size, s.ats ++ [s.place], labsOf s x, setK s.K p q kd⟩, av1, by omega, by rw [HPp.out, HNn.out], by go_num, ⟨HG5.out.below, HG5.out.lay, HG5.out.row, HG5.out.own, HG5.out.hb, HG5.out.boxc⟩, by rw [hf]; rfl, by simp [hal], Nat.le_trans (labs_step HS.out) (by omega), HO.out.step hxmay HS.out⟩
                           case measure => simp [intOf]; omega
                         | succ g' =>
                           have hnext := HG5.out.setKind AP.out hbx (p + q) (by omega) kd
                           obtain ⟨i, hi⟩ : ∃ i : Int, (p : Int) + q = i := ⟨_, rfl⟩
                           have hit : 3 + (p + q) = 3 + i.toNat := by omega
                           have hcell : wr.cell? ⟨y, 3 + i.toNat, none⟩ = some (.int .u8 (setK s.K p q kd (p + q))) := by
                             rw [← hit]
                             exact HG5.out.lay.kinds (p + q) (by omega)
                           have hfree := HG5.out.lay.free (3 + i.toNat)
                           have bx5 := HG5.out.boxc
                           have hidx : i < 65536 := by omega
                           have hidx0 : (0 : Int) ≤ i := by omega
                           have hlim : i < (p : Int) + (j : Int) := by omega
                           rw [hit] at hnext
                           have HN := Lib.hid hnext
                           have HI := Lib.hid (show i = (p : Int) + q ∧ q + (g' + 1) = j from ⟨hi.symm, hq⟩)
                           rw [hi]
                           clear hnext hi hit hq bx bf hnc hgo
                           generalize setK s.K p q kd (p + q) = old at *
                           go_wp2_with fail
                           go_roundg g'
                           case measure => omega
                           case rel =>
                             obtain ⟨rfl, hq⟩ := HI.out
                             refine ⟨q + 1, by omega, by go_num, ?_⟩
                             rw [← setK_step]
                             exact HN
                     | succ g' =>
                       have hjn : (p : Int) + j < (p : Int) + n := by omega
                       have hcell : w4.cell? ⟨y, 3 + ((p : Int) + j).toNat, none⟩ = some (.int .u8 (s.K (p + j))) := by
                         rw [show ((p : Int) + j).toNat = p + j by omega]
                         exact HG4.out.lay.kinds (p + j) (by omega)
                       have htaken := asm_taken ((p : Int) + j) (s.K (p + j)) y w.heap.size w4 (by omega) (by omega) bx hcell
                       by_cases hv : s.K (p + j) = 0
                       · have hv2 : (s.K (p + j) != 0) = false := by rw [hv]; rfl
                         rw [hv2] at htaken
                         have HV := Lib.hid hv2
                         clear hv hv2
                         go_wp2_with fail
                         refine htaken.mono ?_
                         rintro e w5 ⟨rfl, rfl⟩
                         go_wp2_with fail
                         go_roundg g'
                         case measure => omega
                         case rel => exact ⟨rfl, j + 1, by omega, by go_num, by unfold takenK; rw [HTk.out, HV.out]; rfl⟩
                       · have hv2 : (s.K (p + j) != 0) = true := bne_iff_ne.2 hv
                         rw [hv2] at htaken
                         have hstep : layStep s x = .inl 144 := by
                           have e5 : s.place.toNat = p := by rw [HPp.out]; rfl
                           have e6 : x.size.toNat = n := by rw [HNn.out]; rfl
                           unfold layStep
                           rw [if_neg h4, if_neg HP.out, if_neg HQ.out, if_neg HBig.out, e5, e6, if_pos (takenK_more (j := j + 1) (by unfold takenK; rw [hv2, Bool.or_true]) n (by omega))]
                         have HS := Lib.hid hstep
                         clear hstep hv hv2
                         go_wp2_with fail
                         refine htaken.mono ?_
                         rintro e w5 ⟨rfl, rfl⟩
                         go_wp2_with fail
                         go_ret2
                         have hf := HF.out
                         rw [layFrom_drop l k hlt, HX.out, HS.out] at hf
                         rw [HR.out, hf]
                         exact ⟨rfl, HG4.out.below⟩)
    · go_wp2_with fail
      go_ret2
      have hf := HF.out
      rw [List.drop_eq_nil_of_le (by omega)] at hf
      have hr := HR.out
      rw [hf] at hr
      rw [hr]
      exact ⟨rfl, _, _, _, AP.out, HG.out⟩
end Go.Proofs.YtpjdkdphklgfjaaDoor

/- The walk of the second pass. -/
import Derived.Test.YtpjdkdphklgfjaaDoorFill1
namespace Go.Proofs.YtpjdkdphklgfjaaDoor
open Go.RowKit Go.Shelf Go.Maps
set_option linter.unusedVariables false
set_option linter.unusedSimpArgs false

/-- What the second pass hands back. -/
def FillRet (w0 : World) (y m g : Nat) (lv av : Value) (s : LayS) (r : (Int × Int) ⊕ (Nat → Int)) (e : Ending) (w' : World) : Prop :=
  match r with
  | .inl p => e = .returned (.tuple #[.int .i64 p.1, .int .i64 p.2]) ∧ Below w0.heap.size w0 w'
  | .inr M => e = .returned (.tuple #[.int .i64 0, .int .i64 0]) ∧ Fills w0 w' y m g lv av s M

theorem fillFrom_drop (labs : List (ByteArray × Int)) (l : List Item) (ps : List Int) (k : Nat) (hk : k < l.length) (hp : k < ps.length) (M : Nat → Int) (i : Int) :
    fillFrom labs (l.drop k) (ps.drop k) M i = match fillStep labs l[k] ps[k] M with | .inl e => .inl (e, i) | .inr M' => fillFrom labs (l.drop (k + 1)) (ps.drop (k + 1)) M' (i + 1) := by
  rw [List.drop_eq_getElem_cons hk, List.drop_eq_getElem_cons hp]; rfl

theorem lookL_range {labs : List (ByteArray × Int)} (h : ∀ p ∈ labs, 0 ≤ p.2 ∧ p.2 ≤ 65535 ∧ p.1.size ≤ 16) {s : ByteArray} {a : Int} (hl : lookL labs s = some a) : 0 ≤ a ∧ a ≤ 65535 := by
  induction labs with
  | nil => cases hl
  | cons p l ih =>
    unfold lookL at hl
    by_cases e : p.1 = s
    · rw [if_pos e] at hl
      cases hl
      exact ⟨(h p (by simp)).1, (h p (by simp)).2.1⟩
    · rw [if_neg e] at hl
      exact ih (fun q hq => h q (by simp [hq])) hl
theorem Item.label_size {x : Item} (h : x.may = true) {s : ByteArray} (hs : asksI x = some s) : s.size ≤ 16 := by
  unfold asksI at hs
  unfold Item.may mayB at h
  by_cases h2 : x.kind = 2
  · rw [if_pos h2] at hs h
    by_cases hp : x.part = 0
    · rw [if_pos hp] at hs; cases hs
    · rw [if_neg hp] at hs
      cases hs
      unfold instrB at h
      split at h
      · cases h
      · split at h
        · cases h
        · split at h
          · cases h
          · split at h
            · cases h
            · rename_i h5
              exact isName_size (by simpa using h5)
  · rw [if_neg h2] at hs h
    by_cases h5 : x.kind = 5
    · rw [if_pos h5] at hs
      cases hs
      split at h
      · cases h
      · simp [h5] at h
        exact isName_size h
    · rw [if_neg h5] at hs; cases hs

set_option maxRecDepth 100000 in
set_option maxHeartbeats 4000000 in
theorem asm_fill_walk (b off c : Nat) (l : List Item) (w0 w : World) (y m g cg : Nat) (s : LayS) (M0 : Nat → Int) (hT : Tabs w0) (hn : l.length ≤ 4096) (hwf : ∀ x ∈ l, x.wf) (hmay : ∀ x ∈ l, x.may = true)
    (hl : ∀ j x, l[j]? = some x → ItemAt w0 b (off + j * 6) x) (hy0 : w0.heap.size ≤ y) (hm0 : w0.heap.size ≤ m) (hne : y ≠ m) (hyg : y ≠ g)
    (hf : Fills w0 w y m g (.slice (some ⟨b, off, none⟩) l.length c) (.slice (some ⟨g, 0, none⟩) l.length cg) s M0) (hok : s.ok) (hal : s.ats.length = l.length)
    (r : (Int × Int) ⊕ (Nat → Int)) (hr : r = fillFrom s.labs l s.ats M0 0) :
    Calls Tryd.prog 34 #[.pointer (some ⟨y, 0, none⟩)] w (FillRet w0 y m g (.slice (some ⟨b, off, none⟩) l.length c) (.slice (some ⟨g, 0, none⟩) l.length cg) s r) := by
  have HR := Lib.hid hr
  have HL := Lib.hid hl
  have HW := Lib.hid hwf
  have HM := Lib.hid hmay
  have HT := Lib.hid hT
  have HF0 := Lib.hid hf
  have HO := Lib.hid hok
  have HA := Lib.hid hal
  have yc0 := hf.lay.c0
  clear hr hl hwf hmay hT hf hok hal
  have hn' : (l.length : Int) ≤ 4096 := by omega
  go_enter Tryd.func34, Tryd.ntmps34
  go_wp2_with fail
  go_loopw [18] (fun i wr => ∃ (k : Nat) (M : Nat → Int), k ≤ l.length ∧ i = .int .i64 k ∧ Fills w0 wr y m g (.slice (some ⟨b, off, none⟩) l.length c) (.slice (some ⟨g, 0, none⟩) l.length cg) s M ∧
      fillFrom s.labs l s.ats M0 0 = fillFrom s.labs (l.drop k) (s.ats.drop k) M k) (fun i _ => l.length - (intOf i).toNat)
  case atStart => exact ⟨0, M0, by omega, rfl, HF0.out, rfl⟩
  case round =>
    obtain ⟨k, M, hk, rfl, hfl, hff⟩ := hrel
    have HG := Lib.hid hfl
    have HF := Lib.hid hff
    clear hfl hff
    by_cases hlt : k < l.length
    · obtain ⟨x, hx⟩ : ∃ x, l[k] = x := ⟨_, rfl⟩
      have hka : k < s.ats.length := by rw [HA.out]; exact hlt
      obtain ⟨a, ha⟩ : ∃ a, s.ats[k] = a := ⟨_, rfl⟩
      have hxm : x ∈ l := by rw [← hx]; exact List.getElem_mem hlt
      have hpr := HO.out.ats a (by rw [← ha]; exact List.getElem_mem hka)
      obtain ⟨A2, c2, x0, x1, x2, x3, x4, x5, xb⟩ := (HL.out k x (by rw [List.getElem?_eq_getElem hlt, hx])).below HG.out.below
      have XB := Lib.hid xb
      clear xb
      have hxmay := HM.out x hxm
      obtain ⟨ty, pv, f, pv2, nm, hth, hasks, hnm, hf4, hnil, hmeth, hlay⟩ := thing_is x A2 c2 hxmay (HW.out x hxm)
      have hthing := asm_thingOf x.kind x.arg x.part x.name x.label A2 x.bytes.length c2
      rw [hth] at hthing
      have hdrop := fillFrom_drop s.labs l s.ats k hlt hka M k
      rw [hx, ha] at hdrop
      have HD := Lib.hid hdrop
      have HX := Lib.hid hx
      have HXa := Lib.hid (show s.ats[k]? = some a by rw [List.getElem?_eq_getElem hka, ha])
      have HTh := Lib.hid hthing
      have HAs := Lib.hid hasks
      have HNm := Lib.hid hnm
      have HLay := Lib.hid hlay
      clear hx ha hth hthing hasks hnm hlay hka hdrop
      have hlt' : (k : Int) < (l.length : Int) := by omega
      go_wp2_with fail
      refine (HTh.out _).mono ?_
      rintro e w1 ⟨rfl, hb1⟩
      have h1 : Below wr.heap.size wr w1 := below_call (below_new _ _) hb1 (by simp)
      go_wp2_with fail
      refine (HAs.out _).mono ?_
      rintro e w2 ⟨rfl, hb2⟩
      have h2 : Below wr.heap.size wr w2 := below_call h1 hb2 h1.size
      have HG2 := Lib.hid (HG.out.keep h2)
      clear hb1 hb2 h1 HTh HAs
      have bx := HG2.out.lay.c2
      go_upto_if 30 with fail
      go_cut [7, 9] (fun s7 s9 wx => ∃ v : Int, s7 = .int .i64 v ∧ 0 ≤ v ∧ v ≤ 65535 ∧ w2 = wx ∧ Hid (wantI s.labs x = some v))
      case first =>
        cases hdoes : (asksI x).isSome
        · have hw : wantI s.labs x = some 0 := by unfold wantI; rw [show asksI x = none from by cases hq : asksI x with | none => rfl | some _ => rw [hq] at hdoes; cases hdoes]
          have HWa := Lib.hid hw
          clear hw
          go_wp2_with fail
          go_meet
          exact ⟨0, rfl, by omega, by omega, rfl, HWa⟩
        · obtain ⟨sn, hsn⟩ := Option.isSome_iff_exists.1 hdoes
          obtain rfl := HNm.out sn hsn
          have hw : wantI s.labs x = lookL s.labs nm := by unfold wantI; rw [hsn]
          have hkey := key_str nm (by have := Item.label_size hxmay hsn; simp [maxLen]; omega)
          obtain ⟨v, ps, hlook, hv⟩ := HG2.out.own.look_ok (string_keyed under_string) under_map (zero_int _) (plainElem_int under_int (by decide)) hkey
          rw [has_mapOf] at hlook
          rw [atKey_mapOf] at hv
          cases hlk : lookL s.labs nm with
          | none =>
            rw [hlk] at hlook hv hw
            obtain ⟨a0, rfl, _, _⟩ := plainElem_int_inv under_int hv
            have hstep : fillStep s.labs x a M = .inl 141 := by unfold fillStep; rw [hw]
            have HS := Lib.hid hstep
            have HWa := Lib.hid hw
            clear hw hstep hlk hsn
            simp only [Option.isSome_none] at hlook
            go_wp2_with fail
            go_ret2
            have hf := HF.out
            rw [HD.out, HS.out] at hf
            rw [HR.out, hf]
            exact ⟨rfl, HG2.out.below⟩
          | some a1 =>
            rw [hlk] at hlook hv hw
            obtain ⟨a0, rfl, e0, _⟩ := plainElem_int_inv under_int hv
            simp only [Prod.mk.injEq, DataW.lit.injEq, Lit.int.injEq, true_and] at e0
            obtain rfl := e0.1
            have hr1 := lookL_range HO.out.labs hlk
            have HWa := Lib.hid hw
            clear hw hlk hsn e0
            simp only [Option.isSome_some] at hlook
            go_wp2_with fail
            go_meet
            exact ⟨_, rfl, hr1.1, hr1.2, rfl, HWa⟩
      case rest =>
        obtain ⟨v, rfl, hv0, hv1, rfl, HWa⟩ := hcut
        have y1 := HG2.out.lay.c1
        have ga := HG2.out.ats k a HXa.out
        have hka' : (k : Int) < (l.length : Int) := hlt'
        go_wp2_with fail
        have hcall := HLay.out w2.drew a v ((HT.out.below HG2.out.below).drew) ((XB.out.below h2).below (Below.refl _ _).drew) hv0 hv1 hpr.1 hpr.2
        obtain ⟨bs, er, hbe⟩ : ∃ bs er, layBytes x a v = (bs, er) := ⟨_, _, rfl⟩
        rw [hbe] at hcall
        simp only at hcall
        have HBe := Lib.hid hbe
        clear hbe
        go_upto_region 12 with fail
        go_cut [11, 12] (fun s11 s12 wx => ∃ A3 c3, s11 = .slice A3 bs.length c3 ∧ s12 = .int .i64 er ∧ Hid (BytesAt wx A3 bs) ∧ Hid (Fills w0 wx y m g (.slice (some ⟨b, off, none⟩) l.length c) (.slice (some ⟨g, 0, none⟩) l.length cg) s M))
        case first =>
          rcases hf4 with rfl | rfl | rfl | rfl
          all_goals
            (go_region_with (refine hcall.mono ?_; rintro e w3 ⟨A3, c3, rfl, hb3, hbl3⟩)
             all_goals
               ((try go_wp2_with fail)
                go_meet
                exact ⟨A3, c3, rfl, rfl, Lib.hid hb3, Lib.hid ((HG2.out.keep (Below.refl _ _).drew).keep hbl3)⟩))
        case rest =>
          obtain ⟨A3, c3, rfl, rfl, HB3, HG3⟩ := hcut
          by_cases he : er = 0
          · subst he
            have hstep : fillStep s.labs x a M = .inr (setM M a.toNat bs) := by unfold fillStep; rw [HWa.out]; simp only; rw [HBe.out]; rfl
            have HS := Lib.hid hstep
            clear hstep
            have y1 := HG3.out.lay.c1
            have ga := HG3.out.ats k a HXa.out
            have ylt := HG3.out.lay.lt
            have glt := cell_lt ga
            have hmin : min a 65536 = a := by omega
            have hmin2 : ¬ (65536 : Int) < a := by omega
            obtain ⟨ha0, ha1⟩ := hpr
            obtain ⟨nn, w4, hcopy, hG4⟩ := (HG3.out.keep (Below.refl _ _).drew).copy hy0 hne hyg A3 bs c3 a.toNat (by omega) (HB3.out.below (Below.refl _ _).drew) (65536 - a.toNat) (65536 - a.toNat) rfl
            have HG4 := Lib.hid hG4
            clear hG4
            go_wp2_with fail
            go_region_law (first | (refine step_copy_runI (by rfl) _ _ _ _ (by rfl) _ _ (by rfl) (by rfl) hcopy ?_) | fail)
            all_goals
              (go_wp2_with fail
               go_roundw
               case rel =>
                 have hf := HF.out
                 rw [HD.out, HS.out] at hf
                 exact ⟨k + 1, _, by omega, by go_num, HG4.out, by rw [hf]; rfl⟩
               case measure => simp [intOf]; omega)
          · have he2 : (er != 0) = true := bne_iff_ne.2 he
            have hstep : fillStep s.labs x a M = .inl er := by unfold fillStep; rw [HWa.out]; simp only; rw [HBe.out]; simp only; rw [if_neg he]
            have HS := Lib.hid hstep
            clear hstep
            go_wp2_with fail
            go_ret2
            have hf := HF.out
            rw [HD.out, HS.out] at hf
            rw [HR.out, hf]
            exact ⟨rfl, HG3.out.below⟩
    · go_wp2_with fail
      go_ret2
      have hf := HF.out
      rw [List.drop_eq_nil_of_le (by omega)] at hf
      have hr := HR.out
      rw [hf] at hr
      rw [hr]
      exact ⟨rfl, HG.out⟩
end Go.Proofs.YtpjdkdphklgfjaaDoor

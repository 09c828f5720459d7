/- The walk of asm.marked. -/
import Derived.Test.YtpjdkdphklgfjaaDoorObjMem
import Derived.BigQuiet
import Derived.Deep.QuietTactic
namespace Go.Proofs.YtpjdkdphklgfjaaDoor
open Go.RowKit Go.Shelf Go.Maps
set_option linter.unusedVariables false
set_option linter.unusedSimpArgs false

/-- The kind of the mark ahead. -/
def prevOf (mk : List (Int × Int × Bool)) (k pos : Nat) : Option Bool := if pos = 0 then none else (mk[k - 1]?).map (·.2.2)

theorem markedB_drop (bs : List (Int × List Int)) (mk : List (Int × Int × Bool)) (i : Nat) (hi : i < bs.length) : markedB (bs.drop i) mk = match marksIn (bs[i]).1 (bs[i]).2 mk 0 none with | none => false | some t => markedB (bs.drop (i + 1)) t := by
  rw [List.drop_eq_getElem_cons hi]; rfl
theorem marksIn_nil (A : Int) (bs : List Int) (pos : Nat) (prev : Option Bool) : marksIn A bs [] pos prev = if pos < bs.length then none else some [] := rfl
theorem marksIn_drop (A : Int) (bs : List Int) (mk : List (Int × Int × Bool)) (k pos : Nat) (prev : Option Bool) (hk : k < mk.length) (hp : pos < bs.length) :
    marksIn A bs (mk.drop k) pos prev = if markOk A bs pos prev mk[k] then marksIn A bs (mk.drop (k + 1)) (pos + (mk[k]).2.1.toNat) (some (mk[k]).2.2) else none := by
  rw [List.drop_eq_getElem_cons hk]
  show (if pos < bs.length then _ else _) = _
  rw [if_pos hp]
theorem marksIn_out (A : Int) (bs : List Int) (mk : List (Int × Int × Bool)) (pos : Nat) (prev : Option Bool) (hp : ¬ pos < bs.length) : marksIn A bs mk pos prev = some mk := by
  cases mk with
  | nil => rw [marksIn_nil, if_neg hp]
  | cons m t => show (if pos < bs.length then _ else _) = _; rw [if_neg hp]

theorem mo1 {A : Int} {bs : List Int} {pos : Nat} {prev : Option Bool} {ma mn : Int} {mo : Bool} (h : (ma != A + (pos : Int)) = true) : markOk A bs pos prev (ma, mn, mo) = false := by
  rw [bne_iff_ne] at h
  simp [markOk, h]
theorem mo2 {A : Int} {bs : List Int} {pos : Nat} {prev : Option Bool} {ma mn : Int} {mo : Bool} (h : decide (mn < 1) = true) : markOk A bs pos prev (ma, mn, mo) = false := by
  rw [decide_eq_true_eq] at h
  simp [markOk, show ¬ 1 ≤ mn by omega]
theorem mo3 {A : Int} {bs : List Int} {pos : Nat} {prev : Option Bool} {ma mn : Int} {mo : Bool} (h : decide ((bs.length : Int) - pos < mn) = true) : markOk A bs pos prev (ma, mn, mo) = false := by
  rw [decide_eq_true_eq] at h
  simp [markOk, show ¬ mn ≤ (bs.length : Int) - pos by omega]
theorem mo5 {A : Int} {bs : List Int} {pos : Nat} {prev : Option Bool} {ma mn : Int} {mo qo : Bool} (hp : prev = some qo) (h : (qo == mo) = true) : markOk A bs pos prev (ma, mn, mo) = false := by
  rw [beq_iff_eq] at h
  subst hp h
  simp [markOk]
theorem mo6 {A : Int} {bs : List Int} {pos : Nat} {prev : Option Bool} {ma mn : Int} (h : wholeB ((bs.drop pos).take mn.toNat) = false) : markOk A bs pos prev (ma, mn, true) = false := by
  simp [markOk, h]
theorem mo_ok {A : Int} {bs : List Int} {pos : Nat} {prev : Option Bool} {ma mn : Int} {mo : Bool} (h1 : (ma != A + (pos : Int)) = false) (h2 : decide (mn < 1) = false) (h3 : decide ((bs.length : Int) - pos < mn) = false) (h4 : prev ≠ some mo)
    (h5 : mo = true → wholeB ((bs.drop pos).take mn.toNat) = true) : markOk A bs pos prev (ma, mn, mo) = true := by
  rw [bne_eq_false_iff_eq] at h1
  rw [decide_eq_false_iff_not] at h2 h3
  cases mo with
  | false => simp [markOk, h1, show 1 ≤ mn by omega, show mn ≤ (bs.length : Int) - pos by omega, h4]
  | true => simp [markOk, h1, show 1 ≤ mn by omega, show mn ≤ (bs.length : Int) - pos by omega, h4, h5 rfl]
theorem slice_part {w : World} {A : Option Addr} {c : Nat} {xs : List Int} (h : BytesAt w A xs) (hc : xs.length ≤ c) (pos : Nat) (mn : Int) (h0 : 0 ≤ mn) (h1 : (pos : Int) + mn ≤ xs.length) :
    ∃ A3 c3, (∀ W, (Instr.slice 22 (.slice A xs.length c) (some (.int .i64 (pos : Int))) (some (.int .i64 ((pos : Int) + mn))) none).run Tryd.prog W = .ok (.slice A3 ((xs.drop pos).take mn.toNat).length c3) W) ∧ BytesAt w A3 ((xs.drop pos).take mn.toNat) ∧ ((xs.drop pos).take mn.toNat).length ≤ c3 := by
  obtain ⟨A3, h2, h3⟩ := slice_cut h hc (pos : Int) ((pos : Int) + mn) (by omega) (by omega) h1
  have e : ((pos : Int) + mn).toNat - ((pos : Int)).toNat = mn.toNat := by omega
  have e2 : ((xs.drop pos).take mn.toNat).length = mn.toNat := by rw [List.length_take, List.length_drop]; omega
  rw [e] at h2 h3
  rw [Int.toNat_natCast] at h2 h3
  exact ⟨A3, c - pos, by rw [e2]; exact h2, h3, by rw [e2]; omega⟩

set_option maxRecDepth 100000 in
set_option maxHeartbeats 8000000 in
theorem asm_marked_walk (b off c : Nat) (kv nv : Value) (bl : List (Int × Value × List Int)) (mk : List (Int × Int × Bool)) (ns : List (ByteArray × Int)) (w : World) (hT : Tabs w)
    (hin : ObjIn (plainBl bl) mk ns) (hbk : blocksB (-1) (plainBl bl) = true)
    (hrow : ∀ i x, bl[i]? = some x → ∀ r u, (blockCells x)[r]? = some u → w.cell? ⟨b, off + i * 2 + r, none⟩ = some u)
    (hby : ∀ p ∈ bl, ∃ A c, p.2.1 = .slice A p.2.2.length c ∧ BytesAt w A p.2.2 ∧ p.2.2.length ≤ c)
    (mb moff mc : Nat) (An : Option Addr) (nn cn : Nat)
    (hmk : ∀ i x, mk[i]? = some x → ∀ r u, (markCells x)[r]? = some u → w.cell? ⟨mb, moff + i * 3 + r, none⟩ = some u) :
    Calls Tryd.prog 37 #[.agg #[.slice (some ⟨b, off, none⟩) bl.length c, .slice (some ⟨mb, moff, none⟩) mk.length mc, .slice An nn cn]] w (RetB w (markedB (plainBl bl) mk)) := by
  have HI := Lib.hid hin
  have HB := Lib.hid hbk
  have HR := Lib.hid hrow
  have HY := Lib.hid hby
  have HM := Lib.hid hmk
  have hn1 : bl.length ≤ 140737488355328 := by have := hin.many.1; simpa [plainBl] using this
  have hn2 : mk.length ≤ 140737488355328 := hin.many.2.1
  clear hin hbk hrow hby hmk
  go_enter Tryd.func37, Tryd.ntmps37
  go_wp2_with fail
  go_loopg [3, 11] bl.length (fun gk s3 s11 wr => ∃ (i k : Nat), i + gk = bl.length ∧ s11 = .int .i64 i ∧ s3 = .int .i64 k ∧ k ≤ mk.length ∧ Hid (markedB (plainBl bl) mk = markedB ((plainBl bl).drop i) (mk.drop k)) ∧
    Below (w.alloc (.cells #[.slice (some ⟨b, off, none⟩) bl.length c, .slice (some ⟨mb, moff, none⟩) mk.length mc, .slice An nn cn] 35)).heap.size (w.alloc (.cells #[.slice (some ⟨b, off, none⟩) bl.length c, .slice (some ⟨mb, moff, none⟩) mk.length mc, .slice An nn cn] 35)) wr)
  case atStart => exact ⟨0, 0, by omega, rfl, rfl, by omega, Lib.hid rfl, Below.refl _ _⟩
  case round =>
    obtain ⟨wo, rfl⟩ : ∃ wo : World, wo = wr := ⟨_, rfl⟩
    obtain ⟨i, k, hig, rfl, rfl, hk, HF, hbl⟩ := hrel
    have p0 := own_cell hbl 0 rfl
    have p1 := own_cell hbl 1 rfl
    cases gk with
    | zero =>
      obtain rfl : i = bl.length := by omega
      have hlt : ¬ (bl.length : Int) < (bl.length : Int) := by omega
      go_wp2_with fail
      go_ret
      refine ⟨?_, below_call (below_new _ _) hbl (by simp)⟩
      rw [HF.out, List.drop_eq_nil_of_le (by simp [plainBl])]
      refine ret_bool ?_
      show _ = (mk.drop k).isEmpty
      rw [Bool.eq_iff_iff, List.isEmpty_iff, List.drop_eq_nil_iff]
      simp
      omega
    | succ g1 =>
      have hlt : i < bl.length := by omega
      have hlt' : (i : Int) < (bl.length : Int) := by omega
      obtain ⟨x, hx⟩ : ∃ x, bl[i] = x := ⟨_, rfl⟩
      obtain ⟨xa, xv, xs⟩ := x
      have hmem : (xa, xv, xs) ∈ bl := by rw [← hx]; exact List.getElem_mem hlt
      obtain ⟨A2, c2, hxv, hby, hcap⟩ := HY.out _ hmem
      simp only at hxv hby hcap
      subst hxv
      have hx? : bl[i]? = some (xa, .slice A2 xs.length c2, xs) := by rw [List.getElem?_eq_getElem hlt, hx]
      have hW : Below w.heap.size w wo := below_call (below_new _ _) hbl (by simp)
      have y0 := cell_below hW (HR.out i _ hx? 0 _ rfl)
      have y1 := cell_below hW (HR.out i _ hx? 1 _ rfl)
      have hmp : (xa, xs) ∈ plainBl bl := List.mem_map.2 ⟨_, hmem, rfl⟩
      obtain ⟨r1, r2, r3, r4⟩ := blocksB_mem _ _ HB.out _ hmp
      simp only at r1 r2 r3 r4
      have HXs := Lib.hid (HI.out.bytes _ hmp)
      have hdr := markedB_drop (plainBl bl) (mk.drop k) i (by simpa [plainBl] using hlt)
      rw [show (plainBl bl)[i]'(by simpa [plainBl] using hlt) = (xa, xs) by simp [plainBl, hx]] at hdr
      simp only at hdr
      have HDr := Lib.hid hdr
      have HX := Lib.hid hx
      have HBy := Lib.hid (hby.below hW)
      clear hx hx? hdr hby hmem hmp
      simp only [Nat.add_zero] at y0
      go_wp2_with fail
      go_loopg [3, 6] xs.length (fun gk s3 s6 wr => ∃ (k2 pos : Nat), s3 = .int .i64 k2 ∧ s6 = .int .i64 pos ∧ k2 ≤ mk.length ∧ pos ≤ xs.length ∧ xs.length ≤ pos + gk ∧ Hid (pos = 0 ∨ 1 ≤ k2) ∧
        Hid (marksIn xa xs (mk.drop k) 0 none = marksIn xa xs (mk.drop k2) pos (prevOf mk k2 pos)) ∧ Below (wo.alloc (.cells #[.int .i64 xa, .slice A2 xs.length c2] 40)).heap.size (wo.alloc (.cells #[.int .i64 xa, .slice A2 xs.length c2] 40)) wr)
      case atStart => exact ⟨k, 0, rfl, rfl, hk, by omega, by omega, Lib.hid (.inl rfl), Lib.hid rfl, Below.refl _ _⟩
      case round =>
        clear y0 y1
        obtain ⟨k2, pos, rfl, rfl, hk2, hpos, hg2, HZ, HMi, hbl2⟩ := hrel
        have b0 := own_cell hbl2 0 rfl
        have b1 := own_cell hbl2 1 rfl
        have hW2 : Below w.heap.size w wr := below_call (below_alloc hW _ hW.size) hbl2 (by have := hW.size; simp; omega)
        have hV2 : Below wo.heap.size wo wr := below_call (below_new _ _) hbl2 (by simp)
        have hs1 : wo.heap.size < wr.heap.size := size_call hbl2
        have hs0 : w.heap.size < wo.heap.size := size_call hbl
        have hs2 : w.heap.size < wr.heap.size := by omega
        clear hs0
        have q0 := cell_below hV2 p0
        have q1 := cell_below hV2 p1
        by_cases hin : pos < xs.length
        · have hin' : (pos : Int) < (xs.length : Int) := by omega
          by_cases hkm : k2 < mk.length
          · have hkm' : (k2 : Int) < (mk.length : Int) := by omega
            obtain ⟨m, hm⟩ : ∃ m, mk[k2] = m := ⟨_, rfl⟩
            obtain ⟨ma, mn, mo⟩ := m
            have hm? : mk[k2]? = some (ma, mn, mo) := by rw [List.getElem?_eq_getElem hkm, hm]
            have z0 := cell_below hW2 (HM.out k2 _ hm? 0 _ rfl)
            have z1 := cell_below hW2 (HM.out k2 _ hm? 1 _ rfl)
            have z2 := cell_below hW2 (HM.out k2 _ hm? 2 _ rfl)
            have hs3 : mb < wr.heap.size := cell_lt z0
            obtain ⟨⟨e1, e2⟩, e3, e4⟩ := HI.out.marks (ma, mn, mo) (by rw [← hm]; exact List.getElem_mem hkm)
            simp only [Nat.add_zero] at z0 e1 e2 e3 e4
            have hdr := marksIn_drop xa xs mk k2 pos (prevOf mk k2 pos) hkm hin
            rw [hm] at hdr
            have HDm := Lib.hid hdr
            have HMm := Lib.hid hm
            clear hdr hm hm?
            have hfin : markOk xa xs pos (prevOf mk k2 pos) (ma, mn, mo) = false → markedB (plainBl bl) mk = false := fun h => by
              rw [HF.out, HDr.out, HMi.out, HDm.out, if_neg (by rw [h]; simp)]
            have HFin := Lib.hid hfin
            clear hfin
            cases hc1 : (ma != xa + (pos : Int))
            · cases hc2 : decide (mn < 1)
              · cases hc3 : decide ((xs.length : Int) - (pos : Int) < mn)
                · have m1 : 1 ≤ mn := by simpa using hc2
                  have m2 : (pos : Int) + mn ≤ xs.length := by have : ¬ ((xs.length : Int) - pos < mn) := by simpa using hc3
                                                               omega
                  obtain ⟨A3, c3, hsl, hb3, hc3'⟩ := slice_part (HBy.out.below hV2) hcap pos mn (by omega) m2
                  have hzn : ((xs.drop pos).take mn.toNat).length ≤ 9223372036854775807 := by
                    have := List.length_take_le mn.toNat (xs.drop pos)
                    have := List.length_drop (i := pos) (l := xs)
                    omega
                  have hzx : ∀ y ∈ (xs.drop pos).take mn.toNat, 0 ≤ y ∧ y ≤ 255 := fun y hy => HXs.out y (List.mem_of_mem_drop (List.mem_of_mem_take hy))
                  have hw6 : wholeB ((xs.drop pos).take mn.toNat) = false → markOk xa xs pos (prevOf mk k2 pos) (ma, mn, true) = false := mo6
                  have hw7 : (mo = true → wholeB ((xs.drop pos).take mn.toNat) = true) → prevOf mk k2 pos ≠ some mo → markOk xa xs pos (prevOf mk k2 pos) (ma, mn, mo) = true := fun h5 h4 => mo_ok hc1 hc2 hc3 h4 h5
                  generalize (xs.drop pos).take mn.toNat = zs at hsl hb3 hc3' hzn hzx hw6 hw7
                  have HZx := Lib.hid hzx
                  have HW6 := Lib.hid hw6
                  have HW7 := Lib.hid hw7
                  clear hzx hw6 hw7
                  have hpar : (pos = 0 ∧ decide (0 < pos) = false) ∨ ∃ k3 qa qn qo, k2 = k3 + 1 ∧ 0 < pos ∧ decide (0 < pos) = true ∧ mk[k3]? = some (qa, qn, qo) := by
                    rcases Nat.eq_zero_or_pos pos with h | h
                    · exact .inl ⟨h, by simp [h]⟩
                    · right
                      have : 1 ≤ k2 := by rcases HZ.out with h' | h' <;> omega
                      refine ⟨k2 - 1, mk[k2 - 1].1, mk[k2 - 1].2.1, mk[k2 - 1].2.2, by omega, h, by simp; omega, ?_⟩
                      rw [List.getElem?_eq_getElem (by omega)]
                  have hnx : markOk xa xs pos (prevOf mk k2 pos) (ma, mn, mo) = true → marksIn xa xs (mk.drop k) 0 none = marksIn xa xs (mk.drop (k2 + 1)) (pos + mn.toNat) (prevOf mk (k2 + 1) (pos + mn.toNat)) := fun h => by
                    rw [HMi.out, HDm.out, if_pos h]
                    unfold prevOf
                    rw [if_neg (by omega), Nat.add_sub_cancel, List.getElem?_eq_getElem hkm, HMm.out]
                    rfl
                  have HNx := Lib.hid hnx
                  have HPar := Lib.hid hpar
                  have HB3 := Lib.hid hb3
                  clear hpar hb3 hnx
                  rcases HPar.out with ⟨hp0, hp1⟩ | ⟨k3, qa, qn, qo, rfl, hp0, hp1, hq⟩
                  · have HPv : Hid (prevOf mk k2 pos ≠ some mo) := Lib.hid (by unfold prevOf; rw [if_pos hp0]; simp)
                    clear hp0
                    cases mo
                    · have HN := Lib.hid (HNx.out (HW7.out (fun h => by cases h) HPv.out))
                      go_wp2_with fail
                      have g1 : IntKind.i64.wrap (xa + (pos : Int)) = xa + (pos : Int) := i64_in _ (by omega) (by omega)
                      have g2 : IntKind.i64.wrap ((xs.length : Int) - (pos : Int)) = (xs.length : Int) - (pos : Int) := i64_in _ (by omega) (by omega)
                      go_quiet (fail)
                      clear g1 g2
                      go_wp2_with fail
                      go_roundg (gk - 1)
                      case measure => omega
                      case rel => exact ⟨k2 + 1, pos + mn.toNat, by go_num, by rw [show ((pos + mn.toNat : Nat) : Int) = (pos : Int) + mn by omega], by omega, by omega, by omega, Lib.hid (.inr (by omega)), HN, by repeat (first | exact hbl2 | refine Below.drew ?_ | refine below_drewN ?_ _ | refine below_set ?_ _ (by omega) | refine below_alloc ?_ _ (by simp; omega) | refine below_alloc ?_ _ (by omega) | refine below_alloc ?_ _ (by simp))⟩
                    · cases hw : wholeB zs
                      · have HC := Lib.hid (HFin.out (HW6.out hw))
                        have HWh := Lib.hid hw
                        clear hw
                        go_wp2_with fail
                        have g1 : IntKind.i64.wrap (xa + (pos : Int)) = xa + (pos : Int) := i64_in _ (by omega) (by omega)
                        have g2 : IntKind.i64.wrap ((xs.length : Int) - (pos : Int)) = (xs.length : Int) - (pos : Int) := i64_in _ (by omega) (by omega)
                        go_quiet (fail)
                        clear g1 g2
                        go_wp2_with fail
                        (with_reducible refine (asm_whole A3 c3 _ _ (hT.below (by repeat (first | exact hW2 | refine Below.drew ?_ | refine below_drewN ?_ _ | refine below_set ?_ _ (by omega) | refine below_alloc ?_ _ (by simp; omega) | refine below_alloc ?_ _ (by omega) | refine below_alloc ?_ _ (by simp)))) hzn hc3' HZx.out (HB3.out.below (by repeat (first | exact Below.refl _ _ | refine Below.drew ?_ | refine below_drewN ?_ _ | refine below_set ?_ _ (by omega) | refine below_alloc ?_ _ (by simp; omega) | refine below_alloc ?_ _ (by omega) | refine below_alloc ?_ _ (by simp))))).mono ?_)
                        rw [HWh.out]
                        rintro e w5 ⟨rfl, hb5⟩
                        go_wp2_with fail
                        go_ret
                        rw [HC.out]
                        exact ⟨rfl, below_call (by repeat (first | exact hW2 | refine Below.drew ?_ | refine below_drewN ?_ _ | refine below_set ?_ _ (by omega) | refine below_alloc ?_ _ (by simp; omega) | refine below_alloc ?_ _ (by omega) | refine below_alloc ?_ _ (by simp))) hb5 (by simp; have := hW2.size; omega)⟩
                      · have HN := Lib.hid (HNx.out (HW7.out (fun _ => hw) HPv.out))
                        have HWh := Lib.hid hw
                        clear hw
                        go_wp2_with fail
                        have g1 : IntKind.i64.wrap (xa + (pos : Int)) = xa + (pos : Int) := i64_in _ (by omega) (by omega)
                        have g2 : IntKind.i64.wrap ((xs.length : Int) - (pos : Int)) = (xs.length : Int) - (pos : Int) := i64_in _ (by omega) (by omega)
                        go_quiet (fail)
                        clear g1 g2
                        go_wp2_with fail
                        (with_reducible refine (asm_whole A3 c3 _ _ (hT.below (by repeat (first | exact hW2 | refine Below.drew ?_ | refine below_drewN ?_ _ | refine below_set ?_ _ (by omega) | refine below_alloc ?_ _ (by simp; omega) | refine below_alloc ?_ _ (by omega) | refine below_alloc ?_ _ (by simp)))) hzn hc3' HZx.out (HB3.out.below (by repeat (first | exact Below.refl _ _ | refine Below.drew ?_ | refine below_drewN ?_ _ | refine below_set ?_ _ (by omega) | refine below_alloc ?_ _ (by simp; omega) | refine below_alloc ?_ _ (by omega) | refine below_alloc ?_ _ (by simp))))).mono ?_)
                        rw [HWh.out]
                        rintro e w5 ⟨rfl, hb5⟩
                        have k5 := fun o (v : Value) (h : (wr.alloc (.cells #[.int .i64 ma, .int .i64 mn, .bool true] 93)).cell? ⟨wr.heap.size, o, none⟩ = some v) => cell_below hb5 (a := ⟨wr.heap.size, o, none⟩) (v := v) (by simpa using h)
                        have k51 := k5 1 (.int .i64 mn) (by simp)
                        clear k5
                        go_wp2_with fail
                        go_roundg (gk - 1)
                        case measure => omega
                        case rel => exact ⟨k2 + 1, pos + mn.toNat, by go_num, by rw [show ((pos + mn.toNat : Nat) : Int) = (pos : Int) + mn by omega], by omega, by omega, by omega, Lib.hid (.inr (by omega)), HN, below_call (by repeat (first | exact hbl2 | refine Below.drew ?_ | refine below_drewN ?_ _ | refine below_set ?_ _ (by omega) | refine below_alloc ?_ _ (by simp; omega) | refine below_alloc ?_ _ (by omega) | refine below_alloc ?_ _ (by simp))) hb5 (by simp; have := hbl2.size; simp at this; omega)⟩
                  · have t2 := cell_below hW2 (HM.out k3 _ hq 2 _ rfl)
                    have hpv : prevOf mk (k3 + 1) pos = some qo := by unfold prevOf; rw [if_neg (by omega), Nat.add_sub_cancel, hq]; rfl
                    have HQ := Lib.hid hpv
                    clear hq hpv
                    cases hqo : (qo == mo)
                    · have HPv : Hid (prevOf mk (k3 + 1) pos ≠ some mo) := Lib.hid (by rw [HQ.out]; intro e; cases e; simp at hqo)
                      cases mo
                      · have HN := Lib.hid (HNx.out (HW7.out (fun h => by cases h) HPv.out))
                        go_wp2_with fail
                        have g1 : IntKind.i64.wrap (xa + (pos : Int)) = xa + (pos : Int) := i64_in _ (by omega) (by omega)
                        have g2 : IntKind.i64.wrap ((xs.length : Int) - (pos : Int)) = (xs.length : Int) - (pos : Int) := i64_in _ (by omega) (by omega)
                        go_quiet (fail)
                        clear g1 g2
                        go_wp2_with fail
                        go_roundg (gk - 1)
                        case measure => omega
                        case rel => exact ⟨(k3 + 1) + 1, pos + mn.toNat, by go_num, by rw [show ((pos + mn.toNat : Nat) : Int) = (pos : Int) + mn by omega], by omega, by omega, by omega, Lib.hid (.inr (by omega)), HN, by repeat (first | exact hbl2 | refine Below.drew ?_ | refine below_drewN ?_ _ | refine below_set ?_ _ (by omega) | refine below_alloc ?_ _ (by simp; omega) | refine below_alloc ?_ _ (by omega) | refine below_alloc ?_ _ (by simp))⟩
                      · cases hw : wholeB zs
                        · have HC := Lib.hid (HFin.out (HW6.out hw))
                          have HWh := Lib.hid hw
                          clear hw
                          go_wp2_with fail
                          have g1 : IntKind.i64.wrap (xa + (pos : Int)) = xa + (pos : Int) := i64_in _ (by omega) (by omega)
                          have g2 : IntKind.i64.wrap ((xs.length : Int) - (pos : Int)) = (xs.length : Int) - (pos : Int) := i64_in _ (by omega) (by omega)
                          go_quiet (fail)
                          clear g1 g2
                          go_wp2_with fail
                          (with_reducible refine (asm_whole A3 c3 _ _ (hT.below (by repeat (first | exact hW2 | refine Below.drew ?_ | refine below_drewN ?_ _ | refine below_set ?_ _ (by omega) | refine below_alloc ?_ _ (by simp; omega) | refine below_alloc ?_ _ (by omega) | refine below_alloc ?_ _ (by simp)))) hzn hc3' HZx.out (HB3.out.below (by repeat (first | exact Below.refl _ _ | refine Below.drew ?_ | refine below_drewN ?_ _ | refine below_set ?_ _ (by omega) | refine below_alloc ?_ _ (by simp; omega) | refine below_alloc ?_ _ (by omega) | refine below_alloc ?_ _ (by simp))))).mono ?_)
                          rw [HWh.out]
                          rintro e w5 ⟨rfl, hb5⟩
                          go_wp2_with fail
                          go_ret
                          rw [HC.out]
                          exact ⟨rfl, below_call (by repeat (first | exact hW2 | refine Below.drew ?_ | refine below_drewN ?_ _ | refine below_set ?_ _ (by omega) | refine below_alloc ?_ _ (by simp; omega) | refine below_alloc ?_ _ (by omega) | refine below_alloc ?_ _ (by simp))) hb5 (by simp; have := hW2.size; omega)⟩
                        · have HN := Lib.hid (HNx.out (HW7.out (fun _ => hw) HPv.out))
                          have HWh := Lib.hid hw
                          clear hw
                          go_wp2_with fail
                          have g1 : IntKind.i64.wrap (xa + (pos : Int)) = xa + (pos : Int) := i64_in _ (by omega) (by omega)
                          have g2 : IntKind.i64.wrap ((xs.length : Int) - (pos : Int)) = (xs.length : Int) - (pos : Int) := i64_in _ (by omega) (by omega)
                          go_quiet (fail)
                          clear g1 g2
                          go_wp2_with fail
                          (with_reducible refine (asm_whole A3 c3 _ _ (hT.below (by repeat (first | exact hW2 | refine Below.drew ?_ | refine below_drewN ?_ _ | refine below_set ?_ _ (by omega) | refine below_alloc ?_ _ (by simp; omega) | refine below_alloc ?_ _ (by omega) | refine below_alloc ?_ _ (by simp)))) hzn hc3' HZx.out (HB3.out.below (by repeat (first | exact Below.refl _ _ | refine Below.drew ?_ | refine below_drewN ?_ _ | refine below_set ?_ _ (by omega) | refine below_alloc ?_ _ (by simp; omega) | refine below_alloc ?_ _ (by omega) | refine below_alloc ?_ _ (by simp))))).mono ?_)
                          rw [HWh.out]
                          rintro e w5 ⟨rfl, hb5⟩
                          have k5 := fun o (v : Value) (h : (wr.alloc (.cells #[.int .i64 ma, .int .i64 mn, .bool true] 93)).cell? ⟨wr.heap.size, o, none⟩ = some v) => cell_below hb5 (a := ⟨wr.heap.size, o, none⟩) (v := v) (by simpa using h)
                          have k51 := k5 1 (.int .i64 mn) (by simp)
                          clear k5
                          go_wp2_with fail
                          go_roundg (gk - 1)
                          case measure => omega
                          case rel => exact ⟨(k3 + 1) + 1, pos + mn.toNat, by go_num, by rw [show ((pos + mn.toNat : Nat) : Int) = (pos : Int) + mn by omega], by omega, by omega, by omega, Lib.hid (.inr (by omega)), HN, below_call (by repeat (first | exact hbl2 | refine Below.drew ?_ | refine below_drewN ?_ _ | refine below_set ?_ _ (by omega) | refine below_alloc ?_ _ (by simp; omega) | refine below_alloc ?_ _ (by omega) | refine below_alloc ?_ _ (by simp))) hb5 (by simp; have := hbl2.size; simp at this; omega)⟩
                    · have HC := Lib.hid (HFin.out (mo5 HQ.out hqo))
                      go_wp2_with fail
                      have g1 : IntKind.i64.wrap (xa + (pos : Int)) = xa + (pos : Int) := i64_in _ (by omega) (by omega)
                      have g2 : IntKind.i64.wrap ((xs.length : Int) - (pos : Int)) = (xs.length : Int) - (pos : Int) := i64_in _ (by omega) (by omega)
                      go_quiet (fail)
                      clear g1 g2
                      go_wp2_with fail
                      go_ret
                      rw [HC.out]
                      exact ⟨rfl, by repeat (first | exact hW2 | refine Below.drew ?_ | refine below_drewN ?_ _ | refine below_set ?_ _ (by omega) | refine below_alloc ?_ _ (by simp; omega) | refine below_alloc ?_ _ (by omega) | refine below_alloc ?_ _ (by simp))⟩
                · have HC := Lib.hid (HFin.out (mo3 hc3))
                  go_wp2_with fail
                  have g1 : IntKind.i64.wrap (xa + (pos : Int)) = xa + (pos : Int) := i64_in _ (by omega) (by omega)
                  have g2 : IntKind.i64.wrap ((xs.length : Int) - (pos : Int)) = (xs.length : Int) - (pos : Int) := i64_in _ (by omega) (by omega)
                  go_quiet (fail)
                  clear g1 g2
                  go_wp2_with fail
                  go_ret
                  rw [HC.out]
                  exact ⟨rfl, by repeat (first | exact hW2 | refine Below.drew ?_ | refine below_drewN ?_ _ | refine below_set ?_ _ (by omega) | refine below_alloc ?_ _ (by simp; omega) | refine below_alloc ?_ _ (by omega) | refine below_alloc ?_ _ (by simp))⟩
              · have HC := Lib.hid (HFin.out (mo2 hc2))
                go_wp2_with fail
                have g1 : IntKind.i64.wrap (xa + (pos : Int)) = xa + (pos : Int) := i64_in _ (by omega) (by omega)
                go_quiet (fail)
                clear g1
                go_wp2_with fail
                go_ret
                rw [HC.out]
                exact ⟨rfl, by repeat (first | exact hW2 | refine Below.drew ?_ | refine below_drewN ?_ _ | refine below_set ?_ _ (by omega) | refine below_alloc ?_ _ (by simp; omega) | refine below_alloc ?_ _ (by omega) | refine below_alloc ?_ _ (by simp))⟩
            · have HC := Lib.hid (HFin.out (mo1 hc1))
              go_wp2_with fail
              have g1 : IntKind.i64.wrap (xa + (pos : Int)) = xa + (pos : Int) := i64_in _ (by omega) (by omega)
              go_quiet (fail)
              clear g1
              go_wp2_with fail
              go_ret
              rw [HC.out]
              exact ⟨rfl, by repeat (first | exact hW2 | refine Below.drew ?_ | refine below_drewN ?_ _ | refine below_set ?_ _ (by omega) | refine below_alloc ?_ _ (by simp; omega) | refine below_alloc ?_ _ (by omega) | refine below_alloc ?_ _ (by simp))⟩
          · have hkm' : ¬ (k2 : Int) < (mk.length : Int) := by omega
            have hkm2 : (mk.length : Int) ≤ (k2 : Int) := by omega
            have hfin : markedB (plainBl bl) mk = false := by
              rw [HF.out, HDr.out, HMi.out, List.drop_eq_nil_of_le (by omega), marksIn_nil, if_pos hin]
            have HC := Lib.hid hfin
            clear hfin
            go_wp2_with fail
            go_ret
            rw [HC.out]
            exact ⟨rfl, hW2⟩
        · have hin' : ¬ (pos : Int) < (xs.length : Int) := by omega
          have hfin : markedB (plainBl bl) mk = markedB ((plainBl bl).drop (i + 1)) (mk.drop k2) := by
            rw [HF.out, HDr.out, HMi.out, marksIn_out _ _ _ _ _ hin]
          have HC := Lib.hid hfin
          clear hfin
          go_wp2_with fail
          go_roundg g1
          case measure => omega
          case rel => exact ⟨i + 1, k2, by omega, by go_num, rfl, hk2, HC, below_call (below_alloc hbl _ hbl.size) hbl2 (by have := hbl.size; simp at this ⊢; omega)⟩
end Go.Proofs.YtpjdkdphklgfjaaDoor

/- The walk of asm.marked: no blocks, no marks; of whatever object. -/
namespace Go.Proofs.YtpjdkdphklgfjaaDoor
open Go.RowKit Go.Shelf Go.Maps
set_option linter.unusedVariables false
set_option linter.unusedSimpArgs false

set_option maxRecDepth 100000 in
set_option maxHeartbeats 1000000 in
theorem marked_noblocks (Ab Ak An : Option Addr) (c nk ck nn cn : Nat) (w : World) :
    Calls Tryd.prog 37 #[.agg #[.slice Ab 0 c, .slice Ak nk ck, .slice An nn cn]] w (RetB w (decide (nk = 0))) := by
  have hz : ((0 : Int) == (nk : Int)) = decide (nk = 0) := by rw [Bool.eq_iff_iff]; simp; omega
  have HZ := Lib.hid hz
  clear hz
  go_enter Tryd.func37, Tryd.ntmps37
  go_wp2_with fail
  refine wp_loop_rounds 1 ?_
  rw [rounds_succ]
  go_wp2_with fail
  go_ret
  exact ⟨ret_bool HZ.out, below_new _ _⟩

set_option maxRecDepth 100000 in
set_option maxHeartbeats 1000000 in
theorem marked_nomarks (b off c : Nat) (Ak An : Option Addr) (ck nn cn : Nat) (bl : List (Int × Value × List Int)) (w : World) (hne : 0 < bl.length)
    (hbk : blocksB (-1) (plainBl bl) = true)
    (hrow : ∀ i x, bl[i]? = some x → ∀ r u, (blockCells x)[r]? = some u → w.cell? ⟨b, off + i * 2 + r, none⟩ = some u)
    (hby : ∀ p ∈ bl, ∃ A c, p.2.1 = .slice A p.2.2.length c ∧ BytesAt w A p.2.2 ∧ p.2.2.length ≤ c) :
    Calls Tryd.prog 37 #[.agg #[.slice (some ⟨b, off, none⟩) bl.length c, .slice Ak 0 ck, .slice An nn cn]] w (RetB w false) := by
  obtain ⟨x, hx⟩ : ∃ x, bl[0] = x := ⟨_, rfl⟩
  obtain ⟨xa, xv, xs⟩ := x
  have hmem : (xa, xv, xs) ∈ bl := by rw [← hx]; exact List.getElem_mem hne
  obtain ⟨A2, c2, hxv, _, _⟩ := hby _ hmem
  simp only at hxv
  subst hxv
  have hx? : bl[0]? = some (xa, .slice A2 xs.length c2, xs) := by rw [List.getElem?_eq_getElem hne, hx]
  have y0 := hrow 0 _ hx? 0 _ rfl
  have y1 := hrow 0 _ hx? 1 _ rfl
  obtain ⟨_, _, r3, _⟩ := blocksB_mem _ _ hbk _ (List.mem_map.2 ⟨_, hmem, rfl⟩ : (xa, xs) ∈ plainBl bl)
  simp only [Nat.zero_mul, Nat.add_zero] at y0 y1 r3
  have hne' : (0 : Int) < (bl.length : Int) := by omega
  have r3' : (0 : Int) < (xs.length : Int) := by omega
  have hbw := cell_lt y0
  clear hx hx? hmem hbk hrow hby
  go_enter Tryd.func37, Tryd.ntmps37
  go_wp2_with fail
  refine wp_loop_rounds 1 ?_
  rw [rounds_succ]
  go_wp2_with fail
  refine wp_loop_rounds 1 ?_
  rw [rounds_succ]
  go_wp2_with fail
  go_ret
  exact ⟨rfl, by repeat (first | exact Below.refl _ _ | refine Below.drew ?_ | refine below_drewN ?_ _ | refine below_set ?_ _ (by omega) | refine below_alloc ?_ _ (by simp; omega) | refine below_alloc ?_ _ (by omega) | refine below_alloc ?_ _ (by simp))⟩

/-- asm.marked, of whatever object whose blocks may be. -/
theorem asm_marked (bv kv nv : Value) (bs : List (Int × List Int)) (mk : List (Int × Int × Bool)) (ns : List (ByteArray × Int)) (w : World) (hT : Tabs w)
    (hin : ObjIn bs mk ns) (hbk : blocksB (-1) bs = true) (hob : ObjAt w bv kv nv bs mk ns) :
    Calls Tryd.prog 37 #[.agg #[bv, kv, nv]] w (RetB w (markedB bs mk)) := by
  obtain ⟨⟨bl, rfl, hrow, hby⟩, hmk, hns⟩ := hob
  obtain ⟨An, cn, rfl, _⟩ := hns
  rcases hrow.rows blockCells 2 (by omega) (fun _ => rfl) with ⟨rfl, Ab, cb, rfl⟩ | ⟨b, off, c, rfl, hrow'⟩
  · obtain ⟨Ak, ck, rfl, _⟩ := hmk
    have := marked_noblocks Ab Ak An cb mk.length ck ns.length cn w
    rwa [show decide (mk.length = 0) = markedB (plainBl []) mk from by cases mk <;> rfl] at this
  · rcases hmk.rows markCells 3 (by omega) (fun _ => rfl) with ⟨rfl, Ak, ck, rfl⟩ | ⟨mb, moff, mc, rfl, hmk'⟩
    · rcases Nat.eq_zero_or_pos bl.length with h0 | h0
      · have e : bl = [] := List.eq_nil_of_length_eq_zero h0
        subst e
        exact marked_noblocks _ Ak An c 0 ck ns.length cn w
      · have e : markedB (plainBl bl) [] = false := by
          cases bl with
          | nil => simp at h0
          | cons x l =>
            have := blocksB_mem _ _ hbk (x.1, x.2.2) (by simp [plainBl])
            show (match marksIn x.1 x.2.2 [] 0 none with | none => false | some t => markedB (plainBl l) t) = false
            rw [marksIn_nil, if_pos this.2.2.1]
        rw [e]
        exact marked_nomarks b off c Ak An ck ns.length cn bl w h0 hbk hrow' hby
    · exact asm_marked_walk b off c (.slice none 0 0) (.slice none 0 0) bl mk ns w hT hin hbk hrow' hby mb moff mc An ns.length cn hmk'
end Go.Proofs.YtpjdkdphklgfjaaDoor

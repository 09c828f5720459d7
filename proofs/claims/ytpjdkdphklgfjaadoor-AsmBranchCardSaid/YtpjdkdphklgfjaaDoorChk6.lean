/- The walk of asm.Check. -/
import Derived.Test.YtpjdkdphklgfjaaDoorChk4
import Derived.Test.YtpjdkdphklgfjaaDoorPlaces4
import Derived.Lib.QuietBelow
import Derived.BigQuiet
namespace Go.Proofs.YtpjdkdphklgfjaaDoor
open Go.RowKit Go.Shelf Go.Maps Go.Sort
set_option linter.unusedVariables false
set_option linter.unusedSimpArgs false

theorem below_grow {B : Nat} {a w : World} (h : Below B a w) (os : Array Obj) (hk : B ≤ w.heap.size) : Below B a (grow w os) := by
  refine ⟨h.os, h.tape, h.output, by simp [grow]; have := h.size; omega, fun k hk' => ?_⟩
  rw [← h.block k hk']
  simp only [grow]
  rw [Array.getElem?_append_left (by omega)]

/-- Check's answer: 0 or ErrArg. -/
def chkN (bs : List (Int × List Int)) (mk : List (Int × Int × Bool)) (ns : List (ByteArray × Int)) : Int := if objB bs mk ns then 0 else 1
/-- What a call that answers a number leaves: new memory alone. -/
def RetI (w : World) (n : Int) (e : Ending) (w' : World) : Prop := e = .returned (.int .i64 n) ∧ Below w.heap.size w w'
theorem blocksB_drop (bs : List (Int × List Int)) (e : Int) (i : Nat) (hi : i < bs.length) : blocksB e (bs.drop i) = if (bs[i]).1 ≤ e ∨ (bs[i]).1 < 0 ∨ (bs[i]).2.length = 0 ∨ 65536 ≤ (bs[i]).1 ∨ 65536 - (bs[i]).1 < (bs[i]).2.length then false else blocksB ((bs[i]).1 + (bs[i]).2.length) (bs.drop (i + 1)) := by
  rw [List.drop_eq_getElem_cons hi]; rfl
/-- The label ahead. -/
def prevLab (ns : List (ByteArray × Int)) (i : Nat) : Option (ByteArray × Int) := if i = 0 then none else ns[i - 1]?
theorem labelsB_drop (seen : List ByteArray) (prev : Option (ByteArray × Int)) (ns : List (ByteArray × Int)) (i : Nat) (hi : i < ns.length) : labelsB seen prev (ns.drop i) = if labelOk seen prev ns[i] then labelsB ((ns[i]).1 :: seen) (some ns[i]) (ns.drop (i + 1)) else false := by
  rw [List.drop_eq_getElem_cons hi]; rfl

theorem lookL_seen : ∀ (seen : List ByteArray) (nm : ByteArray), lookL (seenL seen) nm = if (lookL (seenL seen) nm).isSome = true then some 1 else none
  | [], _ => rfl
  | q :: l, nm => by
    show (if q = nm then some (1 : Int) else lookL (seenL l) nm) = if (if q = nm then some (1 : Int) else lookL (seenL l) nm).isSome = true then some 1 else none
    by_cases h : q = nm
    · rw [if_pos h, if_pos (by rfl)]
    · rw [if_neg h]; exact lookL_seen l nm
/-- How often a name was met, as the map tells it. -/
theorem look_seen {w : World} {b n : Nat} {seen : List ByteArray} (h : w.ownsMap Tryd.prog 9 (plainElem Tryd.prog 3) b n (mapOf (seenL seen))) (nm : ByteArray) (hs : nm.size ≤ 140737488355328) (bb : Bool) (hb : (lookL (seenL seen) nm).isSome = bb) :
    (Instr.lookup 70 (.map (some b)) (.string nm) false).run Tryd.prog w = .ok (.int .i64 (if bb then 1 else 0)) w := by
  obtain ⟨c, hrun, hat, _⟩ := h.lookup_int (string_keyed under_string) under_map under_int (zero_int _) (key_str nm (by simp [maxLen]; omega))
  rw [hrun]
  rw [atKey_mapOf, lookL_seen, hb] at hat
  cases bb
  · simp at hat; simp [hat]
  · simp at hat; simp [hat]

theorem named_is (s : ByteArray) (w : World) (b : Bool) (hb : isName s = b) (hT : Tabs w) (hs : s.size ≤ 9223372036854775807) :
    Calls Tryd.prog 38 #[.string s] w fun e w' => e = .returned (.bool b) ∧ Below w.heap.size w w' := hb ▸ asm_named s w hT hs
theorem ordered_is (p q : ByteArray × Int) (w : World) (n : Int) (hn : labCmp p q = n) :
    Calls Tryd.prog 39 #[.agg #[.string p.1, .int .i64 p.2], .agg #[.string q.1, .int .i64 q.2]] w fun e w' => e = .returned (.int .i64 n) ∧ Below w.heap.size w w' :=
  (asm_ordered p q w).mono fun e w' ⟨he, n', os', hw⟩ => ⟨hn ▸ he, hw ▸ below_grow (below_drewN (Below.refl _ _) _) _ (by simp)⟩

set_option maxRecDepth 100000 in
set_option maxHeartbeats 8000000 in
theorem asm_Check_walk (Ab Ak An : Option Addr) (b off c ck nb noff cn : Nat) (bl : List (Int × Value × List Int)) (mk : List (Int × Int × Bool)) (ns : List (ByteArray × Int)) (w : World) (hT : Tabs w)
    (hin : ObjIn (plainBl bl) mk ns)
    (hrow : ∀ i x, bl[i]? = some x → Ab = some ⟨b, off, none⟩ ∧ ∀ r u, (blockCells x)[r]? = some u → w.cell? ⟨b, off + i * 2 + r, none⟩ = some u)
    (hby : ∀ p ∈ bl, ∃ A c, p.2.1 = .slice A p.2.2.length c ∧ BytesAt w A p.2.2 ∧ p.2.2.length ≤ c)
    (hmk : ∀ wx, Below w.heap.size w wx → blocksB (-1) (plainBl bl) = true → Calls Tryd.prog 37 #[.agg #[.slice Ab bl.length c, .slice Ak mk.length ck, .slice An ns.length cn]] wx (RetB wx (markedB (plainBl bl) mk)))
    (hlab : ∀ i x, ns[i]? = some x → An = some ⟨nb, noff, none⟩ ∧ ∀ r u, (labelCells x)[r]? = some u → w.cell? ⟨nb, noff + i * 2 + r, none⟩ = some u) :
    Calls Tryd.prog 22 #[.agg #[.slice Ab bl.length c, .slice Ak mk.length ck, .slice An ns.length cn]] w (RetI w (chkN (plainBl bl) mk ns)) := by
  have HI := Lib.hid hin
  have HR := Lib.hid hrow
  have HY := Lib.hid hby
  have HM := Lib.hid hmk
  have HL := Lib.hid hlab
  have hmm := @run_makeMap Tryd.prog
  have hn1 : bl.length ≤ 140737488355328 := by have := hin.many.1; simpa [plainBl] using this
  have hn3 : ns.length ≤ 140737488355328 := hin.many.2.2
  clear hin hrow hby hmk hlab
  go_enter Tryd.func22, Tryd.ntmps22
  go_wp2_with fail
  go_loopg [3, 12] bl.length (fun gk s3 s12 wr => ∃ (i : Nat) (en : Int), i + gk = bl.length ∧ s12 = .int .i64 i ∧ s3 = .int .i64 en ∧ -1 ≤ en ∧ en ≤ 65536 ∧ Hid (blocksB (-1) (plainBl bl) = blocksB en ((plainBl bl).drop i)) ∧
    Below (w.alloc (.cells #[.slice Ab bl.length c, .slice Ak mk.length ck, .slice An ns.length cn] 35)).heap.size (w.alloc (.cells #[.slice Ab bl.length c, .slice Ak mk.length ck, .slice An ns.length cn] 35)) wr)
  case atStart => exact ⟨0, -1, by omega, rfl, rfl, by omega, by omega, Lib.hid rfl, Below.refl _ _⟩
  case round =>
    obtain ⟨wo, rfl⟩ : ∃ wo : World, wo = wr := ⟨_, rfl⟩
    obtain ⟨i, en, hig, rfl, rfl, hen0, hen1, HF, hbl⟩ := hrel
    have p0 := own_cell hbl 0 rfl
    have p1 := own_cell hbl 1 rfl
    have p2 := own_cell hbl 2 rfl
    have hW : Below w.heap.size w wo := below_call (below_new _ _) hbl (by simp)
    have hs0 : w.heap.size < wo.heap.size := size_call hbl
    cases gk with
    | zero =>
      obtain rfl : i = bl.length := by omega
      have hlt : ¬ (bl.length : Int) < (bl.length : Int) := by omega
      have hbt : blocksB (-1) (plainBl bl) = true := by
        rw [HF.out, List.drop_eq_nil_of_le (by simp [plainBl])]; rfl
      have HBt := Lib.hid hbt
      clear hbt
      go_wp2_with fail
      refine (HM.out _ hW HBt.out).mono ?_
      cases hmb : markedB (plainBl bl) mk
      · have hfin : chkN (plainBl bl) mk ns = 1 := by unfold chkN objB; rw [hmb, Bool.and_false, Bool.false_and]; rfl
        have HFin := Lib.hid hfin
        clear hfin hmb
        rintro e w1 ⟨rfl, hb1⟩
        go_wp2_with fail
        go_ret
        rw [HFin.out]
        exact ⟨rfl, below_call hW hb1 (by omega)⟩
      · have HMb := Lib.hid hmb
        clear hmb
        rintro e w1 ⟨rfl, hb1⟩
        have q2 := cell_below hb1 p2
        have hs1 := hb1.size
        have hW1 : Below w.heap.size w w1 := below_call hW hb1 (by omega)
        have hs2 : w.heap.size < w1.heap.size := by omega
        clear p0 p1 p2
        go_wp2_with fail
        have HW1 := Lib.hid hW1
        have hs3 := hs1
        clear hs1
        go_loopg [59] ns.length (fun gk s59 wr => ∃ (i : Nat) (seen : List ByteArray), i + gk = ns.length ∧ s59 = .int .i64 i ∧ Hid (labelsB [] none ns = labelsB seen (prevLab ns i) (ns.drop i)) ∧ Hid (wr.ownsMap Tryd.prog 9 (plainElem Tryd.prog 3) w1.heap.size i (mapOf (seenL seen))) ∧ w1.heap.size < wr.heap.size ∧ Below w1.heap.size w1 wr)
        case atStart => exact ⟨0, [], by omega, rfl, Lib.hid rfl, Lib.hid (World.ownsMap_made _ _ _ _), by simp, by repeat (first | exact Below.refl _ _ | refine Below.drew ?_ | refine below_drewN ?_ _ | refine below_set ?_ _ (by omega) | refine below_alloc ?_ _ (by simp; omega) | refine below_alloc ?_ _ (by omega) | refine below_alloc ?_ _ (by simp))⟩
        case round =>
          obtain ⟨j, seen, hjg, rfl, HS, HO, hsz, hbl2⟩ := hrel
          have hV : Below w.heap.size w wr := HW1.out.trans (hbl2.mono (by omega))
          have r2 : wr.cell? ⟨w.heap.size, 2, none⟩ = some (.slice An ns.length cn) := cell_below hbl2 q2
          cases gk with
          | zero =>
            obtain rfl : j = ns.length := by omega
            have hlt : ¬ (ns.length : Int) < (ns.length : Int) := by omega
            have hfin : chkN (plainBl bl) mk ns = 0 := by
              unfold chkN objB
              rw [HBt.out, HMb.out, HS.out, List.drop_eq_nil_of_le (Nat.le_refl _)]
              rfl
            have HFin := Lib.hid hfin
            clear hfin
            go_wp2_with fail
            go_ret
            rw [HFin.out]
            exact ⟨rfl, hV⟩
          | succ g1 =>
            have hlt : j < ns.length := by omega
            have hlt' : (j : Int) < (ns.length : Int) := by omega
            obtain ⟨x, hx⟩ : ∃ x, ns[j] = x := ⟨_, rfl⟩
            obtain ⟨nm, a⟩ := x
            have hx? : ns[j]? = some (nm, a) := by rw [List.getElem?_eq_getElem hlt, hx]
            obtain ⟨hAn, hcell⟩ := HL.out j _ hx?
            have y0 := cell_below hV (hcell 0 _ rfl)
            have y1 := cell_below hV (hcell 1 _ rfl)
            obtain ⟨e0, e1, e2⟩ := HI.out.labels (nm, a) (by rw [← hx]; exact List.getElem_mem hlt)
            have hdr := labelsB_drop seen (prevLab ns j) ns j hlt
            rw [hx] at hdr
            simp only [Nat.add_zero] at y0 e0 e1 e2 hdr
            have HDr := Lib.hid hdr
            have HX := Lib.hid hx?
            subst hAn
            clear hx hx? hdr hcell
            have hfin : labelOk seen (prevLab ns j) (nm, a) = false → chkN (plainBl bl) mk ns = 1 := fun h => by
              unfold chkN objB
              rw [HS.out, HDr.out, if_neg (by rw [h]; simp)]
            have HFin := Lib.hid hfin
            clear hfin
            go_wp2_with fail
            -- PART BEGIN
            go_upto_if 99 with fail
            go_cut [99] (fun s99 wx => ∃ bb : Bool, s99 = .bool bb ∧ Below (wr.alloc (.cells #[.string nm, .int .i64 a] 79)).heap.size (wr.alloc (.cells #[.string nm, .int .i64 a] 79)) wx ∧ Hid (labelOk seen (prevLab ns j) (nm, a) = !bb))
            case first =>
              have HNmH : ∀ b, isName nm = b → Hid (isName nm = b) := fun _ h => Lib.hid h
              cases hse : (lookL (seenL seen) nm).isSome
              · have HSe := Lib.hid hse
                clear hse
                cases hnm : isName nm
                · have HNm := Lib.hid hnm
                  clear hnm
                  have HC : Hid (labelOk seen (prevLab ns j) (nm, a) = !true) := Lib.hid (by unfold labelOk; rw [HNm.out]; try rfl)
                  have hof : ∀ d os, Below wr.heap.size wr (grow (redrawn (wr.alloc (.cells #[.string nm, .int .i64 a] 79)) d) os) := fun d os => below_call (below_new _ _) (below_regrown _ _ _) (by simp)
                  have c0 : ∀ d os, (grow (redrawn (wr.alloc (.cells #[.string nm, .int .i64 a] 79)) d) os).cell? ⟨wr.heap.size, 0, none⟩ = some (.string nm) := fun d os => own_cell (below_regrown _ d os) 0 rfl
                  have c1 : ∀ d os, (grow (redrawn (wr.alloc (.cells #[.string nm, .int .i64 a] 79)) d) os).cell? ⟨wr.heap.size, 1, none⟩ = some (.int .i64 a) := fun d os => own_cell (below_regrown _ d os) 1 rfl
                  have c2 : ∀ d os, (grow (redrawn (wr.alloc (.cells #[.string nm, .int .i64 a] 79)) d) os).cell? ⟨w.heap.size, 2, none⟩ = some (.slice (some ⟨nb, noff, none⟩) ns.length cn) := fun d os => cell_below (hof d os) r2
                  have c3 : ∀ d os, (Instr.lookup 70 (.map (some w1.heap.size)) (.string nm) false).run Tryd.prog (grow (redrawn (wr.alloc (.cells #[.string nm, .int .i64 a] 79)) d) os) = .ok (.int .i64 0) (grow (redrawn (wr.alloc (.cells #[.string nm, .int .i64 a] 79)) d) os) := fun d os => look_seen (HO.out.kept (grown_below (hof d os) none) (by simp)) nm e0 false HSe.out
                  have HOf := Lib.hid hof
                  clear hof r2
                  refine wp_region_quiet_below (by kernel_rfl) (by kernel_rfl) ?_
                  repeat (go_big_quiet_step ((first | (go_at_call 38; exact Calls.regrown_of (named_is nm _ false HNm.out (hT.below (hV.trans ((HOf.out _ _).mono hV.size))) (by omega))) | fail)))
                  refine wpQuiet_nil ?_
                  intro wx hx
                  obtain ⟨px, hx⟩ := hx
                  have hbx : Below (wr.alloc (.cells #[.string nm, .int .i64 a] 79)).heap.size (wr.alloc (.cells #[.string nm, .int .i64 a] 79)) wx := by rw [hx]; exact below_regrown _ _ _
                  clear hx c0 c1 c2 c3
                  go_wp2_with fail
                  go_meet
                  exact ⟨true, rfl, hbx, HC⟩
                · have HNm := Lib.hid hnm
                  clear hnm
                  by_cases ha0 : a < 0
                  · have HC : Hid (labelOk seen (prevLab ns j) (nm, a) = !true) := Lib.hid (by unfold labelOk; rw [decide_eq_false (by show ¬ 0 ≤ a; omega), Bool.and_false]; try rfl)
                    have hof : ∀ d os, Below wr.heap.size wr (grow (redrawn (wr.alloc (.cells #[.string nm, .int .i64 a] 79)) d) os) := fun d os => below_call (below_new _ _) (below_regrown _ _ _) (by simp)
                    have c0 : ∀ d os, (grow (redrawn (wr.alloc (.cells #[.string nm, .int .i64 a] 79)) d) os).cell? ⟨wr.heap.size, 0, none⟩ = some (.string nm) := fun d os => own_cell (below_regrown _ d os) 0 rfl
                    have c1 : ∀ d os, (grow (redrawn (wr.alloc (.cells #[.string nm, .int .i64 a] 79)) d) os).cell? ⟨wr.heap.size, 1, none⟩ = some (.int .i64 a) := fun d os => own_cell (below_regrown _ d os) 1 rfl
                    have c2 : ∀ d os, (grow (redrawn (wr.alloc (.cells #[.string nm, .int .i64 a] 79)) d) os).cell? ⟨w.heap.size, 2, none⟩ = some (.slice (some ⟨nb, noff, none⟩) ns.length cn) := fun d os => cell_below (hof d os) r2
                    have c3 : ∀ d os, (Instr.lookup 70 (.map (some w1.heap.size)) (.string nm) false).run Tryd.prog (grow (redrawn (wr.alloc (.cells #[.string nm, .int .i64 a] 79)) d) os) = .ok (.int .i64 0) (grow (redrawn (wr.alloc (.cells #[.string nm, .int .i64 a] 79)) d) os) := fun d os => look_seen (HO.out.kept (grown_below (hof d os) none) (by simp)) nm e0 false HSe.out
                    have HOf := Lib.hid hof
                    clear hof r2
                    refine wp_region_quiet_below (by kernel_rfl) (by kernel_rfl) ?_
                    repeat (go_big_quiet_step ((first | (go_at_call 38; exact Calls.regrown_of (named_is nm _ true HNm.out (hT.below (hV.trans ((HOf.out _ _).mono hV.size))) (by omega))) | fail)))
                    refine wpQuiet_nil ?_
                    intro wx hx
                    obtain ⟨px, hx⟩ := hx
                    have hbx : Below (wr.alloc (.cells #[.string nm, .int .i64 a] 79)).heap.size (wr.alloc (.cells #[.string nm, .int .i64 a] 79)) wx := by rw [hx]; exact below_regrown _ _ _
                    clear hx c0 c1 c2 c3
                    go_wp2_with fail
                    go_meet
                    exact ⟨true, rfl, hbx, HC⟩
                  · by_cases ha1 : 65536 ≤ a
                    · have HC : Hid (labelOk seen (prevLab ns j) (nm, a) = !true) := Lib.hid (by unfold labelOk; rw [decide_eq_false (p := (nm, a).2 < 65536) (by show ¬ a < 65536; omega), Bool.and_false]; try rfl)
                      have hof : ∀ d os, Below wr.heap.size wr (grow (redrawn (wr.alloc (.cells #[.string nm, .int .i64 a] 79)) d) os) := fun d os => below_call (below_new _ _) (below_regrown _ _ _) (by simp)
                      have c0 : ∀ d os, (grow (redrawn (wr.alloc (.cells #[.string nm, .int .i64 a] 79)) d) os).cell? ⟨wr.heap.size, 0, none⟩ = some (.string nm) := fun d os => own_cell (below_regrown _ d os) 0 rfl
                      have c1 : ∀ d os, (grow (redrawn (wr.alloc (.cells #[.string nm, .int .i64 a] 79)) d) os).cell? ⟨wr.heap.size, 1, none⟩ = some (.int .i64 a) := fun d os => own_cell (below_regrown _ d os) 1 rfl
                      have c2 : ∀ d os, (grow (redrawn (wr.alloc (.cells #[.string nm, .int .i64 a] 79)) d) os).cell? ⟨w.heap.size, 2, none⟩ = some (.slice (some ⟨nb, noff, none⟩) ns.length cn) := fun d os => cell_below (hof d os) r2
                      have c3 : ∀ d os, (Instr.lookup 70 (.map (some w1.heap.size)) (.string nm) false).run Tryd.prog (grow (redrawn (wr.alloc (.cells #[.string nm, .int .i64 a] 79)) d) os) = .ok (.int .i64 0) (grow (redrawn (wr.alloc (.cells #[.string nm, .int .i64 a] 79)) d) os) := fun d os => look_seen (HO.out.kept (grown_below (hof d os) none) (by simp)) nm e0 false HSe.out
                      have HOf := Lib.hid hof
                      clear hof r2
                      refine wp_region_quiet_below (by kernel_rfl) (by kernel_rfl) ?_
                      repeat (go_big_quiet_step ((first | (go_at_call 38; exact Calls.regrown_of (named_is nm _ true HNm.out (hT.below (hV.trans ((HOf.out _ _).mono hV.size))) (by omega))) | fail)))
                      refine wpQuiet_nil ?_
                      intro wx hx
                      obtain ⟨px, hx⟩ := hx
                      have hbx : Below (wr.alloc (.cells #[.string nm, .int .i64 a] 79)).heap.size (wr.alloc (.cells #[.string nm, .int .i64 a] 79)) wx := by rw [hx]; exact below_regrown _ _ _
                      clear hx c0 c1 c2 c3
                      go_wp2_with fail
                      go_meet
                      exact ⟨true, rfl, hbx, HC⟩
                    · rcases Nat.eq_zero_or_pos j with hj | hj
                      · have hj' : ¬ (0 : Int) < (j : Int) := by omega
                        have hjd : decide (0 < j) = false := by simp [hj]
                        have HOk : Hid (labelOk seen (prevLab ns j) (nm, a) = true) := Lib.hid (by unfold labelOk; rw [HNm.out, HSe.out, decide_eq_true (p := 0 ≤ (nm, a).2) (by show 0 ≤ a; omega), decide_eq_true (p := (nm, a).2 < 65536) (by show a < 65536; omega)]; unfold prevLab; rw [if_pos hj]; try rfl)
                        clear hj
                        have hof : ∀ d os, Below wr.heap.size wr (grow (redrawn (wr.alloc (.cells #[.string nm, .int .i64 a] 79)) d) os) := fun d os => below_call (below_new _ _) (below_regrown _ _ _) (by simp)
                        have c0 : ∀ d os, (grow (redrawn (wr.alloc (.cells #[.string nm, .int .i64 a] 79)) d) os).cell? ⟨wr.heap.size, 0, none⟩ = some (.string nm) := fun d os => own_cell (below_regrown _ d os) 0 rfl
                        have c1 : ∀ d os, (grow (redrawn (wr.alloc (.cells #[.string nm, .int .i64 a] 79)) d) os).cell? ⟨wr.heap.size, 1, none⟩ = some (.int .i64 a) := fun d os => own_cell (below_regrown _ d os) 1 rfl
                        have c2 : ∀ d os, (grow (redrawn (wr.alloc (.cells #[.string nm, .int .i64 a] 79)) d) os).cell? ⟨w.heap.size, 2, none⟩ = some (.slice (some ⟨nb, noff, none⟩) ns.length cn) := fun d os => cell_below (hof d os) r2
                        have c3 : ∀ d os, (Instr.lookup 70 (.map (some w1.heap.size)) (.string nm) false).run Tryd.prog (grow (redrawn (wr.alloc (.cells #[.string nm, .int .i64 a] 79)) d) os) = .ok (.int .i64 0) (grow (redrawn (wr.alloc (.cells #[.string nm, .int .i64 a] 79)) d) os) := fun d os => look_seen (HO.out.kept (grown_below (hof d os) none) (by simp)) nm e0 false HSe.out
                        have HOf := Lib.hid hof
                        clear hof r2
                        refine wp_region_quiet_below (by kernel_rfl) (by kernel_rfl) ?_
                        repeat (go_big_quiet_step ((first | (go_at_call 38; exact Calls.regrown_of (named_is nm _ true HNm.out (hT.below (hV.trans ((HOf.out _ _).mono hV.size))) (by omega))) | fail)))
                        refine wpQuiet_nil ?_
                        intro wx hx
                        obtain ⟨px, hx⟩ := hx
                        have hbx : Below (wr.alloc (.cells #[.string nm, .int .i64 a] 79)).heap.size (wr.alloc (.cells #[.string nm, .int .i64 a] 79)) wx := by rw [hx]; exact below_regrown _ _ _
                        clear hx c0 c1 c2 c3
                        go_wp2_with fail
                        go_meet
                        exact ⟨false, rfl, hbx, HOk⟩
                      · obtain ⟨j0, rfl⟩ : ∃ j0, j = j0 + 1 := ⟨j - 1, by omega⟩
                        obtain ⟨p, hp⟩ : ∃ p, ns[j0] = p := ⟨_, rfl⟩
                        obtain ⟨pn, pa⟩ := p
                        have hp? : ns[j0]? = some (pn, pa) := by rw [List.getElem?_eq_getElem (by omega), hp]
                        have t0 := cell_below hV ((HL.out j0 _ hp?).2 0 _ rfl)
                        have t1 := cell_below hV ((HL.out j0 _ hp?).2 1 _ rfl)
                        simp only [Nat.add_zero] at t0
                        have hpl : prevLab ns (j0 + 1) = some (pn, pa) := by unfold prevLab; rw [if_neg (by omega), Nat.add_sub_cancel, hp?]
                        have HPl := Lib.hid hpl
                        have hnb := cell_lt t0
                        have hj' : (0 : Int) < ((j0 + 1 : Nat) : Int) := by omega
                        have hjd : decide (0 < j0 + 1) = true := by simp
                        obtain ⟨cm, hcm⟩ : ∃ cm, labCmp (pn, pa) (nm, a) = cm := ⟨_, rfl⟩
                        have HCm := Lib.hid hcm
                        clear hp hp? hpl hcm hj
                        have hof : ∀ d os, Below wr.heap.size wr (grow (redrawn (wr.alloc (.cells #[.string nm, .int .i64 a] 79)) d) os) := fun d os => below_call (below_new _ _) (below_regrown _ _ _) (by simp)
                        have c0 : ∀ d os, (grow (redrawn (wr.alloc (.cells #[.string nm, .int .i64 a] 79)) d) os).cell? ⟨wr.heap.size, 0, none⟩ = some (.string nm) := fun d os => own_cell (below_regrown _ d os) 0 rfl
                        have c1 : ∀ d os, (grow (redrawn (wr.alloc (.cells #[.string nm, .int .i64 a] 79)) d) os).cell? ⟨wr.heap.size, 1, none⟩ = some (.int .i64 a) := fun d os => own_cell (below_regrown _ d os) 1 rfl
                        have c2 : ∀ d os, (grow (redrawn (wr.alloc (.cells #[.string nm, .int .i64 a] 79)) d) os).cell? ⟨w.heap.size, 2, none⟩ = some (.slice (some ⟨nb, noff, none⟩) ns.length cn) := fun d os => cell_below (hof d os) r2
                        have c3 : ∀ d os, (Instr.lookup 70 (.map (some w1.heap.size)) (.string nm) false).run Tryd.prog (grow (redrawn (wr.alloc (.cells #[.string nm, .int .i64 a] 79)) d) os) = .ok (.int .i64 0) (grow (redrawn (wr.alloc (.cells #[.string nm, .int .i64 a] 79)) d) os) := fun d os => look_seen (HO.out.kept (grown_below (hof d os) none) (by simp)) nm e0 false HSe.out
                        have c4 : ∀ d os, (grow (redrawn (wr.alloc (.cells #[.string nm, .int .i64 a] 79)) d) os).cell? ⟨nb, noff + j0 * 2, none⟩ = some (.string pn) := fun d os => cell_below (hof d os) t0
                        have c5 : ∀ d os, (grow (redrawn (wr.alloc (.cells #[.string nm, .int .i64 a] 79)) d) os).cell? ⟨nb, noff + j0 * 2 + 1, none⟩ = some (.int .i64 pa) := fun d os => cell_below (hof d os) t1
                        have HOf := Lib.hid hof
                        clear hof r2 t0 t1
                        by_cases hc0 : 0 < cm
                        · have HC : Hid (labelOk seen (prevLab ns (j0 + 1)) (nm, a) = !true) := Lib.hid (by unfold labelOk; rw [HPl.out]; simp only [HCm.out]; rw [decide_eq_false (p := cm ≤ 0) (by omega), Bool.and_false]; try rfl)
                          refine wp_region_quiet_below (by kernel_rfl) (by kernel_rfl) ?_
                          repeat (go_big_quiet_step ((first | (go_at_call 38; exact Calls.regrown_of (named_is nm _ true HNm.out (hT.below (hV.trans ((HOf.out _ _).mono hV.size))) (by omega))) | (go_at_call 39; exact Calls.regrown_of (ordered_is (pn, pa) (nm, a) _ cm HCm.out)) | fail)))
                          refine wpQuiet_nil ?_
                          intro wx hx
                          obtain ⟨px, hx⟩ := hx
                          have hbx : Below (wr.alloc (.cells #[.string nm, .int .i64 a] 79)).heap.size (wr.alloc (.cells #[.string nm, .int .i64 a] 79)) wx := by rw [hx]; exact below_regrown _ _ _
                          clear hx c0 c1 c2 c3 c4 c5
                          go_wp2_with fail
                          go_meet
                          exact ⟨true, rfl, hbx, HC⟩
                        · have HOk : Hid (labelOk seen (prevLab ns (j0 + 1)) (nm, a) = true) := Lib.hid (by unfold labelOk; rw [HNm.out, HSe.out, decide_eq_true (p := 0 ≤ (nm, a).2) (by show 0 ≤ a; omega), decide_eq_true (p := (nm, a).2 < 65536) (by show a < 65536; omega)]; rw [HPl.out]; simp only [HCm.out]; rw [decide_eq_true (p := cm ≤ 0) (by omega)]; try rfl)
                          refine wp_region_quiet_below (by kernel_rfl) (by kernel_rfl) ?_
                          repeat (go_big_quiet_step ((first | (go_at_call 38; exact Calls.regrown_of (named_is nm _ true HNm.out (hT.below (hV.trans ((HOf.out _ _).mono hV.size))) (by omega))) | (go_at_call 39; exact Calls.regrown_of (ordered_is (pn, pa) (nm, a) _ cm HCm.out)) | fail)))
                          refine wpQuiet_nil ?_
                          intro wx hx
                          obtain ⟨px, hx⟩ := hx
                          have hbx : Below (wr.alloc (.cells #[.string nm, .int .i64 a] 79)).heap.size (wr.alloc (.cells #[.string nm, .int .i64 a] 79)) wx := by rw [hx]; exact below_regrown _ _ _
                          clear hx c0 c1 c2 c3 c4 c5
                          go_wp2_with fail
                          go_meet
                          exact ⟨false, rfl, hbx, HOk⟩
              · have HSe := Lib.hid hse
                clear hse
                cases hnm : isName nm
                · have HNm := Lib.hid hnm
                  clear hnm
                  have HC : Hid (labelOk seen (prevLab ns j) (nm, a) = !true) := Lib.hid (by unfold labelOk; rw [HNm.out]; try rfl)
                  have hof : ∀ d os, Below wr.heap.size wr (grow (redrawn (wr.alloc (.cells #[.string nm, .int .i64 a] 79)) d) os) := fun d os => below_call (below_new _ _) (below_regrown _ _ _) (by simp)
                  have c0 : ∀ d os, (grow (redrawn (wr.alloc (.cells #[.string nm, .int .i64 a] 79)) d) os).cell? ⟨wr.heap.size, 0, none⟩ = some (.string nm) := fun d os => own_cell (below_regrown _ d os) 0 rfl
                  have c1 : ∀ d os, (grow (redrawn (wr.alloc (.cells #[.string nm, .int .i64 a] 79)) d) os).cell? ⟨wr.heap.size, 1, none⟩ = some (.int .i64 a) := fun d os => own_cell (below_regrown _ d os) 1 rfl
                  have c2 : ∀ d os, (grow (redrawn (wr.alloc (.cells #[.string nm, .int .i64 a] 79)) d) os).cell? ⟨w.heap.size, 2, none⟩ = some (.slice (some ⟨nb, noff, none⟩) ns.length cn) := fun d os => cell_below (hof d os) r2
                  have c3 : ∀ d os, (Instr.lookup 70 (.map (some w1.heap.size)) (.string nm) false).run Tryd.prog (grow (redrawn (wr.alloc (.cells #[.string nm, .int .i64 a] 79)) d) os) = .ok (.int .i64 1) (grow (redrawn (wr.alloc (.cells #[.string nm, .int .i64 a] 79)) d) os) := fun d os => look_seen (HO.out.kept (grown_below (hof d os) none) (by simp)) nm e0 true HSe.out
                  have HOf := Lib.hid hof
                  clear hof r2
                  refine wp_region_quiet_below (by kernel_rfl) (by kernel_rfl) ?_
                  repeat (go_big_quiet_step ((first | (go_at_call 38; exact Calls.regrown_of (named_is nm _ false HNm.out (hT.below (hV.trans ((HOf.out _ _).mono hV.size))) (by omega))) | fail)))
                  refine wpQuiet_nil ?_
                  intro wx hx
                  obtain ⟨px, hx⟩ := hx
                  have hbx : Below (wr.alloc (.cells #[.string nm, .int .i64 a] 79)).heap.size (wr.alloc (.cells #[.string nm, .int .i64 a] 79)) wx := by rw [hx]; exact below_regrown _ _ _
                  clear hx c0 c1 c2 c3
                  go_wp2_with fail
                  go_meet
                  exact ⟨true, rfl, hbx, HC⟩
                · have HNm := Lib.hid hnm
                  clear hnm
                  by_cases ha0 : a < 0
                  · have HC : Hid (labelOk seen (prevLab ns j) (nm, a) = !true) := Lib.hid (by unfold labelOk; rw [decide_eq_false (by show ¬ 0 ≤ a; omega), Bool.and_false]; try rfl)
                    have hof : ∀ d os, Below wr.heap.size wr (grow (redrawn (wr.alloc (.cells #[.string nm, .int .i64 a] 79)) d) os) := fun d os => below_call (below_new _ _) (below_regrown _ _ _) (by simp)
                    have c0 : ∀ d os, (grow (redrawn (wr.alloc (.cells #[.string nm, .int .i64 a] 79)) d) os).cell? ⟨wr.heap.size, 0, none⟩ = some (.string nm) := fun d os => own_cell (below_regrown _ d os) 0 rfl
                    have c1 : ∀ d os, (grow (redrawn (wr.alloc (.cells #[.string nm, .int .i64 a] 79)) d) os).cell? ⟨wr.heap.size, 1, none⟩ = some (.int .i64 a) := fun d os => own_cell (below_regrown _ d os) 1 rfl
                    have c2 : ∀ d os, (grow (redrawn (wr.alloc (.cells #[.string nm, .int .i64 a] 79)) d) os).cell? ⟨w.heap.size, 2, none⟩ = some (.slice (some ⟨nb, noff, none⟩) ns.length cn) := fun d os => cell_below (hof d os) r2
                    have c3 : ∀ d os, (Instr.lookup 70 (.map (some w1.heap.size)) (.string nm) false).run Tryd.prog (grow (redrawn (wr.alloc (.cells #[.string nm, .int .i64 a] 79)) d) os) = .ok (.int .i64 1) (grow (redrawn (wr.alloc (.cells #[.string nm, .int .i64 a] 79)) d) os) := fun d os => look_seen (HO.out.kept (grown_below (hof d os) none) (by simp)) nm e0 true HSe.out
                    have HOf := Lib.hid hof
                    clear hof r2
                    refine wp_region_quiet_below (by kernel_rfl) (by kernel_rfl) ?_
                    repeat (go_big_quiet_step ((first | (go_at_call 38; exact Calls.regrown_of (named_is nm _ true HNm.out (hT.below (hV.trans ((HOf.out _ _).mono hV.size))) (by omega))) | fail)))
                    refine wpQuiet_nil ?_
                    intro wx hx
                    obtain ⟨px, hx⟩ := hx
                    have hbx : Below (wr.alloc (.cells #[.string nm, .int .i64 a] 79)).heap.size (wr.alloc (.cells #[.string nm, .int .i64 a] 79)) wx := by rw [hx]; exact below_regrown _ _ _
                    clear hx c0 c1 c2 c3
                    go_wp2_with fail
                    go_meet
                    exact ⟨true, rfl, hbx, HC⟩
                  · by_cases ha1 : 65536 ≤ a
                    · have HC : Hid (labelOk seen (prevLab ns j) (nm, a) = !true) := Lib.hid (by unfold labelOk; rw [decide_eq_false (p := (nm, a).2 < 65536) (by show ¬ a < 65536; omega), Bool.and_false]; try rfl)
                      have hof : ∀ d os, Below wr.heap.size wr (grow (redrawn (wr.alloc (.cells #[.string nm, .int .i64 a] 79)) d) os) := fun d os => below_call (below_new _ _) (below_regrown _ _ _) (by simp)
                      have c0 : ∀ d os, (grow (redrawn (wr.alloc (.cells #[.string nm, .int .i64 a] 79)) d) os).cell? ⟨wr.heap.size, 0, none⟩ = some (.string nm) := fun d os => own_cell (below_regrown _ d os) 0 rfl
                      have c1 : ∀ d os, (grow (redrawn (wr.alloc (.cells #[.string nm, .int .i64 a] 79)) d) os).cell? ⟨wr.heap.size, 1, none⟩ = some (.int .i64 a) := fun d os => own_cell (below_regrown _ d os) 1 rfl
                      have c2 : ∀ d os, (grow (redrawn (wr.alloc (.cells #[.string nm, .int .i64 a] 79)) d) os).cell? ⟨w.heap.size, 2, none⟩ = some (.slice (some ⟨nb, noff, none⟩) ns.length cn) := fun d os => cell_below (hof d os) r2
                      have c3 : ∀ d os, (Instr.lookup 70 (.map (some w1.heap.size)) (.string nm) false).run Tryd.prog (grow (redrawn (wr.alloc (.cells #[.string nm, .int .i64 a] 79)) d) os) = .ok (.int .i64 1) (grow (redrawn (wr.alloc (.cells #[.string nm, .int .i64 a] 79)) d) os) := fun d os => look_seen (HO.out.kept (grown_below (hof d os) none) (by simp)) nm e0 true HSe.out
                      have HOf := Lib.hid hof
                      clear hof r2
                      refine wp_region_quiet_below (by kernel_rfl) (by kernel_rfl) ?_
                      repeat (go_big_quiet_step ((first | (go_at_call 38; exact Calls.regrown_of (named_is nm _ true HNm.out (hT.below (hV.trans ((HOf.out _ _).mono hV.size))) (by omega))) | fail)))
                      refine wpQuiet_nil ?_
                      intro wx hx
                      obtain ⟨px, hx⟩ := hx
                      have hbx : Below (wr.alloc (.cells #[.string nm, .int .i64 a] 79)).heap.size (wr.alloc (.cells #[.string nm, .int .i64 a] 79)) wx := by rw [hx]; exact below_regrown _ _ _
                      clear hx c0 c1 c2 c3
                      go_wp2_with fail
                      go_meet
                      exact ⟨true, rfl, hbx, HC⟩
                    · have HC : Hid (labelOk seen (prevLab ns j) (nm, a) = !true) := Lib.hid (by unfold labelOk; rw [HSe.out, Bool.not_true, Bool.and_false, Bool.false_and]; try rfl)
                      have hof : ∀ d os, Below wr.heap.size wr (grow (redrawn (wr.alloc (.cells #[.string nm, .int .i64 a] 79)) d) os) := fun d os => below_call (below_new _ _) (below_regrown _ _ _) (by simp)
                      have c0 : ∀ d os, (grow (redrawn (wr.alloc (.cells #[.string nm, .int .i64 a] 79)) d) os).cell? ⟨wr.heap.size, 0, none⟩ = some (.string nm) := fun d os => own_cell (below_regrown _ d os) 0 rfl
                      have c1 : ∀ d os, (grow (redrawn (wr.alloc (.cells #[.string nm, .int .i64 a] 79)) d) os).cell? ⟨wr.heap.size, 1, none⟩ = some (.int .i64 a) := fun d os => own_cell (below_regrown _ d os) 1 rfl
                      have c2 : ∀ d os, (grow (redrawn (wr.alloc (.cells #[.string nm, .int .i64 a] 79)) d) os).cell? ⟨w.heap.size, 2, none⟩ = some (.slice (some ⟨nb, noff, none⟩) ns.length cn) := fun d os => cell_below (hof d os) r2
                      have c3 : ∀ d os, (Instr.lookup 70 (.map (some w1.heap.size)) (.string nm) false).run Tryd.prog (grow (redrawn (wr.alloc (.cells #[.string nm, .int .i64 a] 79)) d) os) = .ok (.int .i64 1) (grow (redrawn (wr.alloc (.cells #[.string nm, .int .i64 a] 79)) d) os) := fun d os => look_seen (HO.out.kept (grown_below (hof d os) none) (by simp)) nm e0 true HSe.out
                      have HOf := Lib.hid hof
                      clear hof r2
                      refine wp_region_quiet_below (by kernel_rfl) (by kernel_rfl) ?_
                      repeat (go_big_quiet_step ((first | (go_at_call 38; exact Calls.regrown_of (named_is nm _ true HNm.out (hT.below (hV.trans ((HOf.out _ _).mono hV.size))) (by omega))) | fail)))
                      refine wpQuiet_nil ?_
                      intro wx hx
                      obtain ⟨px, hx⟩ := hx
                      have hbx : Below (wr.alloc (.cells #[.string nm, .int .i64 a] 79)).heap.size (wr.alloc (.cells #[.string nm, .int .i64 a] 79)) wx := by rw [hx]; exact below_regrown _ _ _
                      clear hx c0 c1 c2 c3
                      go_wp2_with fail
                      go_meet
                      exact ⟨true, rfl, hbx, HC⟩
            case rest =>
              obtain ⟨bb, rfl, hbx, HC⟩ := hcut
              have hbw : Below wr.heap.size wr wc := below_call (below_new _ _) hbx (by simp)
              have hVx : Below w.heap.size w wc := hV.trans (hbw.mono hV.size)
              cases bb with
              | true =>
                have hC := HFin.out HC.out
                have HC2 := Lib.hid hC
                clear hC
                go_wp2_with fail
                go_ret
                rw [HC2.out]
                exact ⟨rfl, hVx⟩
              | false =>
                have k0 := own_cell hbx 0 rfl
                have own' := HO.out.kept (grown_below hbw none) (by simp)
                obtain ⟨w5, hput, hown5, hgrow5⟩ := own'.update (string_keyed under_string) under_map (show j < maxLen by simp [maxLen]; omega) (key_str nm (by simp [maxLen]; omega)) (plainElem_int (H := Unit) under_int (show (Lit.int .i64 1).wf = true by decide))
                have HN : Hid (labelsB [] none ns = labelsB (nm :: seen) (prevLab ns (j + 1)) (ns.drop (j + 1))) := Lib.hid (by
                  have hp : prevLab ns (j + 1) = some (nm, a) := by
                    unfold prevLab
                    rw [if_neg (by omega), Nat.add_sub_cancel, HX.out]
                  rw [HS.out, HDr.out, HC.out, hp]
                  rfl)
                have HO5 := Lib.hid hown5
                have HG5 := Lib.hid hgrow5
                have hs5 : w1.heap.size < w5.heap.size := by have := hgrow5.size; have := hbw.size; omega
                clear hown5 hgrow5 own' r2
                go_wp2_with fail
                go_roundg g1
                case measure => omega
                case rel => exact ⟨j + 1, nm :: seen, by omega, by go_num, HN, HO5, hs5, below_grown (hbl2.trans (hbw.mono hbl2.size)) HG5.out (Nat.le_trans hbl2.size hbw.size) (by intro k e; cases e; exact Nat.le_refl _)⟩
            -- PART END
    | succ g1 =>
      have hlt : i < bl.length := by omega
      have hlt' : (i : Int) < (bl.length : Int) := by omega
      obtain ⟨x, hx⟩ : ∃ x, bl[i] = x := ⟨_, rfl⟩
      obtain ⟨xa, xv, xs⟩ := x
      have hmem : (xa, xv, xs) ∈ bl := by rw [← hx]; exact List.getElem_mem hlt
      obtain ⟨A2, c2, hxv, _, hcap⟩ := HY.out _ hmem
      simp only at hxv hcap
      subst hxv
      have hx? : bl[i]? = some (xa, .slice A2 xs.length c2, xs) := by rw [List.getElem?_eq_getElem hlt, hx]
      obtain ⟨hAb, hcell⟩ := HR.out i _ hx?
      have y0 := cell_below hW (hcell 0 _ rfl)
      have y1 := cell_below hW (hcell 1 _ rfl)
      have hmp : (xa, xs) ∈ plainBl bl := List.mem_map.2 ⟨_, hmem, rfl⟩
      obtain ⟨r1, r2, r3⟩ := HI.out.ats _ hmp
      have hdr := blocksB_drop (plainBl bl) en i (by simpa [plainBl] using hlt)
      rw [show (plainBl bl)[i]'(by simpa [plainBl] using hlt) = (xa, xs) by simp [plainBl, hx]] at hdr
      simp only [Nat.add_zero] at y0 r1 r2 r3 hdr
      have HDr := Lib.hid hdr
      subst hAb
      clear hx hx? hdr hcell hmem hmp
      by_cases hok : xa ≤ en ∨ xa < 0 ∨ xs.length = 0 ∨ 65536 ≤ xa ∨ 65536 - xa < xs.length
      · have hfin : chkN (plainBl bl) mk ns = 1 := by
          unfold chkN objB
          rw [HF.out, HDr.out, if_pos hok, Bool.false_and, Bool.false_and]
          rfl
        have HFin := Lib.hid hfin
        clear hfin
        by_cases h1 : xa ≤ en
        · go_wp2_with fail
          go_ret
          rw [HFin.out]
          exact ⟨rfl, by repeat (first | exact hW | refine Below.drew ?_ | refine below_drewN ?_ _ | refine below_set ?_ _ (by omega) | refine below_alloc ?_ _ (by simp; omega) | refine below_alloc ?_ _ (by omega) | refine below_alloc ?_ _ (by simp))⟩
        · by_cases h2 : xa < 0
          · exfalso; omega
          · by_cases h3 : xs.length = 0
            · have e : xs = [] := List.eq_nil_of_length_eq_zero h3
              subst e
              clear h3 hok HDr
              simp only [List.length_nil] at y1
              go_wp2_with fail
              go_ret
              rw [HFin.out]
              exact ⟨rfl, by repeat (first | exact hW | refine Below.drew ?_ | refine below_drewN ?_ _ | refine below_set ?_ _ (by omega) | refine below_alloc ?_ _ (by simp; omega) | refine below_alloc ?_ _ (by omega) | refine below_alloc ?_ _ (by simp))⟩
            · have h3' : ((xs.length : Int) == 0) = false := by simp; intro e; exact h3 (by rw [e]; rfl)
              by_cases h4 : 65536 ≤ xa
              · clear h3 hok
                go_wp2_with fail
                go_ret
                rw [HFin.out]
                exact ⟨rfl, by repeat (first | exact hW | refine Below.drew ?_ | refine below_drewN ?_ _ | refine below_set ?_ _ (by omega) | refine below_alloc ?_ _ (by simp; omega) | refine below_alloc ?_ _ (by omega) | refine below_alloc ?_ _ (by simp))⟩
              · have h5 : 65536 - xa < (xs.length : Int) := by omega
                clear h3 hok
                go_wp2_with fail
                go_ret
                rw [HFin.out]
                exact ⟨rfl, by repeat (first | exact hW | refine Below.drew ?_ | refine below_drewN ?_ _ | refine below_set ?_ _ (by omega) | refine below_alloc ?_ _ (by simp; omega) | refine below_alloc ?_ _ (by omega) | refine below_alloc ?_ _ (by simp))⟩
      · have h1 : ¬ xa ≤ en := fun h => hok (.inl h)
        have h2 : ¬ xa < 0 := fun h => hok (.inr (.inl h))
        have h3 : ((xs.length : Int) == 0) = false := by simp; intro e; exact hok (.inr (.inr (.inl (by rw [e]; rfl))))
        have h4 : ¬ 65536 ≤ xa := fun h => hok (.inr (.inr (.inr (.inl h))))
        have h5 : ¬ 65536 - xa < (xs.length : Int) := fun h => hok (.inr (.inr (.inr (.inr h))))
        have hnx : blocksB (-1) (plainBl bl) = blocksB (xa + xs.length) ((plainBl bl).drop (i + 1)) := by rw [HF.out, HDr.out, if_neg hok]
        have HN := Lib.hid hnx
        clear hnx hok
        go_wp2_with fail
        go_roundg g1
        case measure => omega
        case rel => exact ⟨i + 1, xa + xs.length, by omega, by go_num, rfl, by omega, by omega, HN, by repeat (first | exact hbl | refine Below.drew ?_ | refine below_drewN ?_ _ | refine below_set ?_ _ (by omega) | refine below_alloc ?_ _ (by simp; omega) | refine below_alloc ?_ _ (by omega) | refine below_alloc ?_ _ (by simp))⟩
end Go.Proofs.YtpjdkdphklgfjaaDoor

/- asm.Check, of whatever object in memory. -/
namespace Go.Proofs.YtpjdkdphklgfjaaDoor
open Go.RowKit Go.Shelf Go.Maps
set_option linter.unusedVariables false
set_option linter.unusedSimpArgs false

theorem SliceOf.rows' {α : Type} {w : World} {v : Value} {l : List α} (f : α → List Value) (n : Nat) (hn : 0 < n) (hf : ∀ x, (f x).length = n) (h : SliceOf w v l.length (l.flatMap f)) :
    ∃ A c b off, v = .slice A l.length c ∧ ∀ i x, l[i]? = some x → A = some ⟨b, off, none⟩ ∧ ∀ r u, (f x)[r]? = some u → w.cell? ⟨b, off + i * n + r, none⟩ = some u := by
  rcases h.rows f n hn hf with ⟨rfl, A, c, rfl⟩ | ⟨b, off, c, rfl, hc⟩
  · exact ⟨A, c, 0, 0, rfl, by simp⟩
  · exact ⟨_, c, b, off, rfl, fun i x hx => ⟨rfl, hc i x hx⟩⟩

/-- asm.Check. -/
theorem asm_Check (bv kv nv : Value) (bs : List (Int × List Int)) (mk : List (Int × Int × Bool)) (ns : List (ByteArray × Int)) (w : World) (hT : Tabs w) (hin : ObjIn bs mk ns) (hob : ObjAt w bv kv nv bs mk ns) :
    Calls Tryd.prog 22 #[.agg #[bv, kv, nv]] w (RetI w (chkN bs mk ns)) := by
  have hob' := hob
  obtain ⟨⟨bl, rfl, hrow, hby⟩, hmk, hns⟩ := hob
  obtain ⟨Ab, c, b, off, rfl, hrow'⟩ := hrow.rows' blockCells 2 (by omega) (fun _ => rfl)
  obtain ⟨An, cn, nb, noff, rfl, hns'⟩ := hns.rows' labelCells 2 (by omega) (fun _ => rfl)
  obtain ⟨Ak, ck, rfl, _⟩ := hmk
  exact asm_Check_walk Ab Ak An b off c ck nb noff cn bl mk ns w hT hin hrow' hby (fun wx hb hbk => asm_marked _ _ _ _ mk ns wx (hT.below hb) hin hbk (hob'.below hb)) hns'
end Go.Proofs.YtpjdkdphklgfjaaDoor

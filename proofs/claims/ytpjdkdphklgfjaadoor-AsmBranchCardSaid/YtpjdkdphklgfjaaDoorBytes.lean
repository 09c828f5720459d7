/- The walk of asm.Bytes, of an object that may be. -/
import Derived.Test.YtpjdkdphklgfjaaDoorChk6
import Derived.Test.YtpjdkdphklgfjaaDoorObjOk
import Derived.Deep.RegionLaw
namespace Go.Proofs.YtpjdkdphklgfjaaDoor
open Go.RowKit Go.Shelf Go.Maps
set_option linter.unusedVariables false
set_option linter.unusedSimpArgs false

/-- Memory of bytes of a call's own. -/
structure MemAt (w : World) (g n : Nat) (M : Nat → Int) : Prop where
  cells : ∀ i, i < n → w.cell? ⟨g, i, none⟩ = some (.int .u8 (M i))
  free : ∀ o, w.frozen? ⟨g, o, none⟩ = false
  lt : g < w.heap.size
theorem MemAt.below {w w1 : World} {g n : Nat} {M : Nat → Int} (h : MemAt w g n M) (hb : Below w.heap.size w w1) : MemAt w1 g n M :=
  ⟨fun i hi => cell_below hb (h.cells i hi), fun o => (hb.frozen (p := ⟨g, o, none⟩) h.lt).trans (h.free o), Nat.lt_of_lt_of_le h.lt hb.size⟩
theorem MemAt.same {w : World} {g n : Nat} {M M' : Nat → Int} (h : MemAt w g n M) (e : ∀ i, i < n → M i = M' i) : MemAt w g n M' := ⟨fun i hi => by rw [← e i hi]; exact h.cells i hi, h.free, h.lt⟩
theorem MemAt.setByte {w : World} {g n : Nat} {M : Nat → Int} (h : MemAt w g n M) (p : Nat) (hp : p < n) (v : Int) : MemAt (w.setCell ⟨g, p, none⟩ (.int .u8 v)) g n (fun j => if j = p then v else M j) := by
  refine ⟨fun i hi => ?_, fun o => set_frozen.trans (h.free o), Nat.lt_of_lt_of_le h.lt (grown_set w g p _).size⟩
  by_cases e : i = p
  · subst e
    rw [if_pos rfl]
    exact set_same (h.cells i hi)
  · rw [if_neg e]
    exact (set_other (fun hh => e hh.2.symm)).trans (h.cells i hi)
theorem MemAt.setRow {g n : Nat} : ∀ (bs : List Int) {w : World} {M : Nat → Int} (h : MemAt w g n M) (p : Nat) (hp : p + bs.length ≤ n), MemAt (w.setCells g p (bs.map (Value.int .u8))) g n (setM M p bs)
  | [], w, M, h, p, hp => by
    refine h.same fun i hi => ?_
    unfold setM
    rw [if_neg (by simp)]
  | v :: r, w, M, h, p, hp => by
    simp at hp
    have := (MemAt.setRow r (h.setByte p (by omega) v) (p + 1) (by omega))
    rw [setM_cons] at this
    exact this

theorem make_all (w : World) : ∃ w', (∀ k k', (Instr.makeSlice 22 (.int k 65536) (.int k' 65536)).run Tryd.prog w = .ok (.slice (some ⟨w.heap.size, 0, none⟩) 65536 65536) w') ∧ MemAt w' w.heap.size 65536 (fun _ => 0) ∧ Below w.heap.size w w' := by
  obtain ⟨i0, hi0, hz0, hz1, hz2⟩ := info_parts info_byte
  have hr := fun k k' => run_make (P := Tryd.prog) w 22 5 i0 _ under_bytes hi0 hz0 k k' 65536 65536 (by decide) (by decide) (by rw [hz2]; decide) (by decide)
  refine ⟨_, hr, ⟨fun i hi => ?_, fun o => ?_, by simp⟩, below_new _ _⟩
  · rw [hz1]
    refine (World.cell?_alloc_new w _ _ i).trans ?_
    unfold madeCells
    rw [Array.getElem?_map, Array.getElem?_eq_getElem (by simpa using hi)]
    simp only [Array.getElem_range, Option.map_some]
    rw [show (Value.int .u8 0).cells = #[Value.int .u8 0] from rfl]
    simp [Nat.mod_one]
  · simp
theorem MemAt.copy {w : World} {g : Nat} {M : Nat → Int} (h : MemAt w g 65536 M) (A : Option Addr) (bs : List Int) (c p d2 : Nat) (hp : p < 65536) (hl : p + bs.length ≤ 65536) (h0 : 0 < bs.length) (hb : BytesAt w A bs) :
    ∃ (n : Int) (w' : World), (Builtin.copy_ #[22, 22] 3 #[.slice (some ⟨g, p, none⟩) (65536 - p) d2, .slice A bs.length c]).run Tryd.prog w = .ok (.int .i64 n) w' ∧ MemAt w' g 65536 (setM M p bs) ∧ w.grownBy w' (some g) := by
  rcases hb with rfl | ⟨b, off, rfl, hc⟩
  · simp at h0
  · refine ⟨_, _, run_copy_cells w _ _ _ _ g p _ _ ⟨b, off, none⟩ _ _ (bs.map (Value.int .u8)) under_bytes info_u8 (by rw [List.length_map]; exact (Nat.min_eq_left (by omega)).symm) ?_ ?_ ?_ ?_, h.setRow bs p hl, setCells_heap g _ p w⟩
    · intro j v hv
      have hadd : (⟨b, off, none⟩ : Addr).add j = ⟨b, off + j, none⟩ := by unfold Addr.add; simp
      rw [hadd]
      exact hc j v hv
    · intro j hj
      simp at hj
      rw [h.cells (p + j) (by omega)]
      rfl
    · intro j hj
      exact h.free _
    · intro v hv
      obtain ⟨a, _, rfl⟩ := List.mem_map.1 hv
      rfl

/-- What Bytes answers of an object that may be. -/
def BytesRet (w : World) (xs : List Int) (e : Ending) (w' : World) : Prop :=
  ∃ g cap, e = .returned (.tuple #[.slice (some ⟨g, 0, none⟩) xs.length cap, .int .i64 0]) ∧ w'.ownsRow w.heap.size 5 1 (.slice (some ⟨g, 0, none⟩) xs.length cap) xs.length (xs.map (Value.int .u8)) ∧ Below w.heap.size w w'
theorem layBl_drop (M : Nat → Int) (l : List (Int × List Int)) (i : Nat) (hi : i < l.length) : layBl M (l.drop i) = layBl (setM M (l[i]).1.toNat (l[i]).2) (l.drop (i + 1)) := by
  rw [List.drop_eq_getElem_cons hi]; rfl

set_option maxRecDepth 100000 in
set_option maxHeartbeats 4000000 in
theorem asm_Bytes_walk (Ab Ak An : Option Addr) (b off c nk ck nn cn : Nat) (bl : List (Int × Value × List Int)) (w : World) (fr tt : Nat) (hft : fr < tt) (hto : tt ≤ 65536) (hn : bl.length ≤ 140737488355328)
    (hbk : blocksB (-1) (plainBl bl) = true)
    (hrow : ∀ i x, bl[i]? = some x → Ab = some ⟨b, off, none⟩ ∧ ∀ r u, (blockCells x)[r]? = some u → w.cell? ⟨b, off + i * 2 + r, none⟩ = some u)
    (hby : ∀ p ∈ bl, ∃ A c, p.2.1 = .slice A p.2.2.length c ∧ BytesAt w A p.2.2 ∧ p.2.2.length ≤ c)
    (hck : ∀ wx, Below w.heap.size w wx → Calls Tryd.prog 22 #[.agg #[.slice Ab bl.length c, .slice Ak nk ck, .slice An nn cn]] wx (RetI wx 0)) :
    Calls Tryd.prog 16 #[.agg #[.slice Ab bl.length c, .slice Ak nk ck, .slice An nn cn], .int .i64 (fr : Int), .int .i64 (tt : Int)] w (BytesRet w ((List.range (tt - fr)).map fun j => layBl (fun _ => 0) (plainBl bl) (fr + j))) := by
  have HB := Lib.hid hbk
  have HR := Lib.hid hrow
  have HY := Lib.hid hby
  have HC := Lib.hid hck
  clear hbk hrow hby hck
  have h1 : ¬ (fr : Int) < 0 := by omega
  have h2 : ¬ (tt : Int) < (fr : Int) := by omega
  have h3 : ¬ (65536 : Int) < (tt : Int) := by omega
  have d1 : decide ((fr : Int) < 0) = false := decide_eq_false h1
  have d2 : decide (tt < fr) = false := decide_eq_false (by omega)
  have d3 : decide ((65536 : Int) < (tt : Int)) = false := decide_eq_false h3
  go_enter Tryd.func16, Tryd.ntmps16
  go_wp2_with fail
  refine (HC.out _ (below_new _ _)).mono ?_
  rintro e w1 ⟨rfl, hb1⟩
  have p0 := own_cell hb1 0 rfl
  have hs1 : w.heap.size < w1.heap.size := size_call hb1
  have hW1 : Below w.heap.size w w1 := below_call (below_new _ _) hb1 (by simp)
  obtain ⟨w2, hmk, hmem, hb2⟩ := make_all w1
  have hW2 : Below w.heap.size w w2 := hW1.trans (hb2.mono hW1.size)
  have hs2 : w.heap.size < w2.heap.size := by have := hb2.size; omega
  have q0 := cell_below hb2 p0
  have HW2 := Lib.hid hW2
  have HMm := Lib.hid hmem
  have HB2 := Lib.hid hb2
  clear hb1 hmem p0 hb2 hW2
  go_wp2_with fail
  have hs12 : w1.heap.size < w2.heap.size := HMm.out.lt
  go_loopg [32] bl.length (fun gk s32 wr => ∃ (i : Nat) (M : Nat → Int), i + gk = bl.length ∧ s32 = .int .i64 i ∧ Hid (MemAt wr w1.heap.size 65536 M) ∧ Hid (∀ a, layBl (fun _ => 0) (plainBl bl) a = layBl M ((plainBl bl).drop i) a) ∧ Below w1.heap.size w1 wr ∧ w1.heap.size < wr.heap.size)
  case atStart => exact ⟨0, _, by omega, rfl, HMm, Lib.hid (fun _ => rfl), HB2.out, hs12⟩
  case round =>
    clear HMm hmk q0
    obtain ⟨i, M, hig, rfl, HM, HL, hbl, hsz⟩ := hrel
    have hW : Below w.heap.size w wr := hW1.trans (hbl.mono hW1.size)
    cases gk with
    | zero =>
      obtain rfl : i = bl.length := by omega
      have hlt : ¬ (bl.length : Int) < (bl.length : Int) := by omega
      have hne : ¬ 65536 = fr := by omega
      have hcl := clone_bytes w1.heap.size fr (tt - fr) (65536 - fr) ((List.range (tt - fr)).map fun j => M (fr + j)) wr (by simp) (by omega) (by omega) (by
        intro j v hv
        rw [List.getElem?_map, List.getElem?_map] at hv
        have hj : j < tt - fr := by
          rcases Nat.lt_or_ge j (tt - fr) with h | h
          · exact h
          · rw [List.getElem?_eq_none (by simpa using h)] at hv; cases hv
        rw [List.getElem?_range hj] at hv
        cases hv
        exact HM.out.cells _ (by omega))
      have HCl := Lib.hid hcl
      have HHl : Hid (((List.range (tt - fr)).map fun j => layBl (fun _ => 0) (plainBl bl) (fr + j)) = (List.range (tt - fr)).map fun j => M (fr + j)) := Lib.hid (by
        refine List.map_congr_left fun j _ => ?_
        rw [HL.out, List.drop_eq_nil_of_le (by simp [plainBl])]
        rfl)
      clear hcl
      go_wp2_with fail
      refine HCl.out.mono ?_
      rintro e w5 ⟨g, cap, rfl, hby5, hb5⟩
      have HBy5 := Lib.hid hby5
      clear hby5
      go_wp2_with fail
      go_ret2
      rw [HHl.out]
      have hl : ((List.range (tt - fr)).map fun j => M (fr + j)).length = tt - fr := by simp
      refine ⟨g, cap, by rw [hl]; rfl, ?_, hW.trans (hb5.mono hW.size)⟩
      have := HBy5.out
      unfold Bytes_ at this
      rw [hl] at this ⊢
      refine ⟨this.1, ?_⟩
      rcases this.2 with ⟨h, _⟩ | ⟨g', cap', cur, h, hg, r⟩
      · cases h
      · exact .inr ⟨g', cap', cur, h, Nat.le_trans hW.size hg, r⟩
    | succ g1 =>
      have hlt : i < bl.length := by omega
      have hlt' : (i : Int) < (bl.length : Int) := by omega
      obtain ⟨x, hx⟩ : ∃ x, bl[i] = x := ⟨_, rfl⟩
      obtain ⟨xa, xv, xs⟩ := x
      have hmem : (xa, xv, xs) ∈ bl := by rw [← hx]; exact List.getElem_mem hlt
      obtain ⟨A2, c2, hxv, hby, _⟩ := HY.out _ hmem
      simp only at hxv hby
      subst hxv
      have hx? : bl[i]? = some (xa, .slice A2 xs.length c2, xs) := by rw [List.getElem?_eq_getElem hlt, hx]
      obtain ⟨hAb, hcell⟩ := HR.out i _ hx?
      obtain ⟨r1, r2, r3, r4⟩ := blocksB_mem _ _ HB.out _ (List.mem_map.2 ⟨_, hmem, rfl⟩ : (xa, xs) ∈ plainBl bl)
      have hdr := layBl_drop M (plainBl bl) i (by simpa [plainBl] using hlt)
      rw [show (plainBl bl)[i]'(by simpa [plainBl] using hlt) = (xa, xs) by simp [plainBl, hx]] at hdr
      simp only at r1 r2 r3 r4 hdr
      obtain ⟨an, rfl⟩ : ∃ an : Nat, xa = (an : Int) := ⟨xa.toNat, by omega⟩
      rw [Int.toNat_natCast] at hdr
      have y0 := cell_below hW (hcell 0 _ rfl)
      have y1 := cell_below hW (hcell 1 _ rfl)
      simp only [Nat.add_zero] at y0
      have hne : ¬ 65536 = an := by omega
      have han : (an : Int) ≤ 65536 := by omega
      have HN : Hid (∀ a, layBl (fun _ => 0) (plainBl bl) a = layBl (setM M an xs) ((plainBl bl).drop (i + 1)) a) := Lib.hid fun a => by rw [HL.out, hdr]
      have hby' := (hby.below hW).below ((below_new wr (.cells #[.int .i64 (an : Int), .slice A2 xs.length c2] 40)).drew)
      obtain ⟨nn', w4, hcopy, hM4, hg4⟩ := (HM.out.below ((below_new wr (.cells #[.int .i64 (an : Int), .slice A2 xs.length c2] 40)).drew)).copy A2 xs c2 an (65536 - an) (by omega) (by omega) r3 hby'
      have hs4 : w1.heap.size < w4.heap.size := hM4.lt
      have hb4 : Below w1.heap.size w1 w4 := below_grown (hbl.trans ((below_new wr _).drew.mono hbl.size)) hg4 (by have := hbl.size; simp; omega) (by intro k e; cases e; exact Nat.le_refl _)
      have HM4 := Lib.hid hM4
      have HB4 := Lib.hid hb4
      subst hAb
      clear hx hx? hdr hcell hmem hby hby' hM4 hg4 hb4
      go_wp2_with fail
      go_region_law (first | (refine step_copy_runI (by rfl) _ _ _ _ (by rfl) _ _ (by rfl) (by rfl) hcopy ?_) | fail)
      all_goals
        (go_wp2_with fail
         go_roundg g1
         case measure => omega
         case rel => exact ⟨i + 1, _, by omega, by go_num, HM4, HN, HB4.out, hs4⟩)
/-- asm.Bytes, of an object that may be. -/
theorem asm_Bytes (bv kv nv : Value) (bs : List (Int × List Int)) (mk : List (Int × Int × Bool)) (ns : List (ByteArray × Int)) (w : World) (hT : Tabs w) (hin : ObjIn bs mk ns) (hob : ObjAt w bv kv nv bs mk ns) (hok : objB bs mk ns = true)
    (f t : Int) (h0 : 0 ≤ f) (h1 : f < t) (h2 : t ≤ 65536) :
    Calls Tryd.prog 16 #[.agg #[bv, kv, nv], .int .i64 f, .int .i64 t] w (BytesRet w ((List.range (t - f).toNat).map fun j => layBl (fun _ => 0) bs (f.toNat + j))) := by
  obtain ⟨fr, rfl⟩ : ∃ fr : Nat, f = (fr : Int) := ⟨f.toNat, by omega⟩
  obtain ⟨tt, rfl⟩ : ∃ tt : Nat, t = (tt : Int) := ⟨t.toNat, by omega⟩
  have hc : chkN bs mk ns = 0 := by unfold chkN; rw [hok]; rfl
  have hck := fun wx hb => asm_Check bv kv nv bs mk ns wx (hT.below hb) hin (hob.below hb)
  rw [hc] at hck
  have hbk : blocksB (-1) bs = true := by
    unfold objB at hok
    rw [Bool.and_eq_true, Bool.and_eq_true] at hok
    exact hok.1.1
  obtain ⟨⟨bl, rfl, hrow, hby⟩, hmk, hns⟩ := hob
  obtain ⟨Ab, c, b, off, rfl, hrow'⟩ := hrow.rows' blockCells 2 (by omega) (fun _ => rfl)
  obtain ⟨An, cn, rfl, _⟩ := hns
  obtain ⟨Ak, ck, rfl, _⟩ := hmk
  have hn : bl.length ≤ 140737488355328 := by have := hin.many.1; simpa [plainBl] using this
  rw [show ((tt : Int) - (fr : Int)).toNat = tt - fr by omega, Int.toNat_natCast]
  exact asm_Bytes_walk Ab Ak An b off c mk.length ck ns.length cn bl w fr tt (by omega) (by omega) hn hbk hrow' hby hck
end Go.Proofs.YtpjdkdphklgfjaaDoor

/- asm.Assemble, of a source that may be. -/
import Derived.Test.YtpjdkdphklgfjaaDoorAsm3
namespace Go.Proofs.YtpjdkdphklgfjaaDoor
open Go.RowKit Go.Shelf Go.Maps
set_option linter.unusedVariables false
set_option linter.unusedSimpArgs false

set_option maxRecDepth 100000 in
set_option maxHeartbeats 2000000 in
theorem asm_good (A : Option Addr) (c : Nat) (l : List Item) (w : World) (hT : Tabs w) (hwf : ∀ x ∈ l, x.wf) (hl : ItemsAt w A l) (hck : (checkI l).1 = 0) :
    Calls Tryd.prog 14 #[.slice A l.length c] w (AsmRet w (asmI l)) := by
  obtain ⟨hn, hmay, hc0⟩ := check_ok hck
  have hmm := @run_makeMap Tryd.prog
  have hcon := source_Check A c l (w.alloc (.cells #[.slice none 0 0, .slice none 0 0, .slice none 0 0] 35)) (hT.alloc _) hwf (hl.below (below_new _ _))
  rw [hc0] at hcon
  have hT0 := hT.alloc (.cells #[.slice none 0 0, .slice none 0 0, .slice none 0 0] 35)
  have hl0 := hl.below (below_new w (.cells #[.slice none 0 0, .slice none 0 0, .slice none 0 0] 35))
  have hpl := fun W y m => asm_places A c l _ W y m hT0 hn hwf hmay hl0
  have HPl := Lib.hid hpl
  have HL := Lib.hid hl0
  have HT := Lib.hid hT0
  have HW := Lib.hid hwf
  have HM := Lib.hid hmay
  have HN := Lib.hid hn
  have hr : asmI l = match layFrom l lay0 0 with
    | .inl e => .inl e
    | .inr s => match fillFrom s.labs l s.ats (fun _ => 0) 0 with
      | .inl e => .inl e
      | .inr M => .inr (s, M) := if_pos hck
  have HR := Lib.hid hr
  clear hck hwf hl hmay hn hc0 hpl hl0 hT0 hT hr
  go_enter Tryd.func14, Tryd.ntmps14
  go_wp2_with fail
  refine hcon.mono ?_
  rintro e w1 ⟨rfl, hb⟩
  have k0 := own_cell hb 0 rfl
  have k1 := own_cell hb 1 rfl
  have k2 := own_cell hb 2 rfl
  have f0 := own_free hb 0
  have f1 := own_free hb 1
  have f2 := own_free hb 2
  go_wp2_with fail
  have hw1 := hb.size
  refine (HPl.out ((w1.alloc (.map #[] 0)).alloc _) (w1.heap.size + 1) w1.heap.size (below_alloc (below_alloc hb _ hw1) _ (by simp; simp at hw1; omega)) (by simp at hw1 ⊢; omega) hw1 (by omega) ?_ ?_).mono ?_
  · have := LayAt.start (w1.alloc (.map #[] 0)) (.slice A l.length c) (.map (some w1.heap.size))
    simpa using this
  · exact (World.ownsMap_made w1 _ _ _).alloc _
  cases hlf : layFrom l lay0 0 with
  | inl p =>
    have hr := HR.out
    rw [hlf] at hr
    have hne : (p.1 != 0) = true := bne_iff_ne.2 (layFrom_err l _ _ _ hlf)
    have HRr := Lib.hid hr
    clear hr hlf HR k0 k1 k2 f0 f1 f2
    rintro e w2 ⟨rfl, hb2⟩
    have k0 := own_cell hb2 0 rfl
    have k1 := own_cell hb2 1 rfl
    have k2 := own_cell hb2 2 rfl
    have f0 := own_free hb2 0
    have f1 := own_free hb2 1
    have f2 := own_free hb2 2
    go_wp2_with fail
    obtain ⟨w8, e8, v0, v1, v2, hg8⟩ := set3 (.slice none 0 0) (.slice none 0 0) (.slice none 0 0) k0 k1 k2
    rw [e8]
    exact bodyPost_ret (v := .tuple #[.agg #[.slice none 0 0, .slice none 0 0, .slice none 0 0], .int .i64 p.1, .int .i64 p.2]) (by simp [results, Tryd.results14, go_sem, v0, v1, v2]) rfl
      (show AsmRet w (asmI l) _ _ from by
        rw [HRr.out]
        exact ⟨rfl, below_grown (below_call (below_new _ _) hb2 (by simp)) hg8 (by have := hb2.size; simp at this; omega) (by intro k e; cases e; omega)⟩)
  | inr s =>
    have hok := layFrom_ok l HM.out lay0 0 s hlf ok0
    have hal : s.ats.length = l.length := by rw [hok.2]; simp [lay0]
    have hks := layFrom_keys l lay0 0 s hlf (by simp [keysOK, lay0])
    have hll : s.labs.length ≤ 4096 := by have := layFrom_labs l lay0 0 s hlf; have := HN.out; simp [lay0] at *; omega
    have hr := HR.out
    rw [hlf] at hr
    simp only at hr
    have HRr := Lib.hid hr
    have HOk := Lib.hid hok.1
    have HAl := Lib.hid hal
    have HKs := Lib.hid hks
    have HLl := Lib.hid hll
    clear hr hlf HR k0 k1 k2 f0 f1 f2 hok hal hks hll
    rintro e w2 ⟨rfl, base, box, av, ap, hg⟩
    have k0 := own_cell hg.below 0 rfl
    have k1 := own_cell hg.below 1 rfl
    have k2 := own_cell hg.below 2 rfl
    have hfill := asm_fill A c l _ w2 (w1.heap.size + 1) w1.heap.size base box av s HT.out HN.out HW.out HM.out HL.out ap hg HOk.out HAl.out
    have HFi := Lib.hid hfill
    clear hfill hg
    go_wp2_with fail
    refine HFi.out.mono ?_
    cases hff : fillFrom s.labs l s.ats (fun _ => 0) 0 with
    | inl p =>
      have hr := HRr.out
      rw [hff] at hr
      have hne : (p.1 != 0) = true := bne_iff_ne.2 (fillFrom_err _ _ _ _ _ _ hff)
      have HRs := Lib.hid hr
      clear hr hff HRr k0 k1 k2 HFi
      rintro e w3 ⟨rfl, hb2⟩
      have k0 := own_cell hb2 0 rfl
      have k1 := own_cell hb2 1 rfl
      have k2 := own_cell hb2 2 rfl
      have f0 := own_free hb2 0
      have f1 := own_free hb2 1
      have f2 := own_free hb2 2
      go_wp2_with fail
      obtain ⟨w8, e8, v0, v1, v2, hg8⟩ := set3 (.slice none 0 0) (.slice none 0 0) (.slice none 0 0) k0 k1 k2
      rw [e8]
      exact bodyPost_ret (v := .tuple #[.agg #[.slice none 0 0, .slice none 0 0, .slice none 0 0], .int .i64 p.1, .int .i64 p.2]) (by simp [results, Tryd.results14, go_sem, v0, v1, v2]) rfl
        (show AsmRet w (asmI l) _ _ from by
          rw [HRs.out]
          exact ⟨rfl, below_grown (below_call (below_new _ _) hb2 (by simp)) hg8 (by have := hb2.size; simp at this; omega) (by intro k e; cases e; omega)⟩)
    | inr M =>
      have hr := HRr.out
      rw [hff] at hr
      simp only at hr
      have HRs := Lib.hid hr
      clear hr hff HRr k0 k1 k2 HFi
      rintro e w3 ⟨rfl, g, av2, hfl⟩
      have ap' := ap
      have HF := Lib.hid hfl
      have q1 := ap.y0
      have q2 := ap.m0
      have q3 := ap.ne
      have hobj := asm_object _ w3 _ _ g _ av2 s M HF.out HOk.out HKs.out HLl.out q1 q2 q3
      have HOb := Lib.hid hobj
      clear hfl hobj q1 q2 q3 ap'
      go_wp2_with fail
      refine HOb.out.mono ?_
      rintro e w4 ⟨bv, kv, nv, base2, rfl, hob, hbs, hb4⟩
      obtain ⟨⟨bl, hbl1, ⟨Ab, cb, rfl, _⟩, _⟩, ⟨Ak, ck, rfl, _⟩, ⟨An, cn, rfl, _⟩⟩ := hob w4 (fun _ _ _ => rfl)
      have k0 := own_cell hb4 0 rfl
      have k1 := own_cell hb4 1 rfl
      have k2 := own_cell hb4 2 rfl
      have f0 := own_free hb4 0
      have f1 := own_free hb4 1
      have f2 := own_free hb4 2
      have HOt := Lib.hid hob
      have HBl := Lib.hid hbl1
      have HB4 := Lib.hid hb4
      have HBs := Lib.hid hbs
      clear hob hbl1 hb4 hbs HOb
      generalize (marksTo s.K 65536).length = nk at *
      generalize (sortedLabs s.labs).length = nn at *
      generalize bl.length = nb at *
      go_wp2_with fail
      obtain ⟨w8, e8, v0, v1, v2, hg8⟩ := set3 (.slice Ab nb cb) (.slice Ak nk ck) (.slice An nn cn) k0 k1 k2
      rw [e8]
      have hsz := HB4.out.size
      have hbs := HBs.out
      simp at hsz hbs
      exact bodyPost_ret (v := .tuple #[.agg #[.slice Ab nb cb, .slice Ak nk ck, .slice An nn cn], .int .i64 0, .int .i64 0]) (by simp [results, Tryd.results14, go_sem, v0, v1, v2]) rfl
        (show AsmRet w (asmI l) _ _ from by
          rw [HRs.out]
          exact ⟨_, _, _, rfl, fun w2 k2 => HOt.out _ ((KeptFrom.set (by omega) hg8).trans (k2.mono (by omega)) hg8.size), below_grown (below_call (below_new _ _) HB4.out (by simp)) hg8 (by omega) (by intro k e; cases e; omega)⟩)

/-- asm.Assemble, of whatever source. -/
theorem asm_Assemble (A : Option Addr) (c : Nat) (l : List Item) (w : World) (hT : Tabs w) (hwf : ∀ x ∈ l, x.wf) (hl : ItemsAt w A l) :
    Calls Tryd.prog 14 #[.slice A l.length c] w (AsmRet w (asmI l)) := by
  by_cases hck : (checkI l).1 = 0
  · exact asm_good A c l w hT hwf hl hck
  · have e : asmI l = .inl (checkI l) := if_neg hck
    rw [e]
    exact asm_bad A c l w hT hwf hl hck
end Go.Proofs.YtpjdkdphklgfjaaDoor

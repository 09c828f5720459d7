/- The walk of the law AsmBranch. -/
import Derived.Test.YtpjdkdphklgfjaaDoorBranch0
import Derived.Test.YtpjdkdphklgfjaaDoorAsm4
import Derived.Test.YtpjdkdphklgfjaaDoorBytes
import Derived.Test.YtpjdkdphklgfjaaDoorAsmIn
namespace Go.Proofs.YtpjdkdphklgfjaaDoor
open Go.RowKit Go.Shelf Go.Maps
set_option linter.unusedVariables false
set_option linter.unusedSimpArgs false

/-- A law's end: true, and new memory alone. -/
def LawRet (w : World) (e : Ending) (w' : World) : Prop := e = .returned (.bool true) ∧ Below w.heap.size w w'

theorem branch_block (W : World) (k : Nat) (hk : k = W.heap.size) (a t : Int) (nm : ByteArray) : ItemsAt (W.alloc (.cells #[.int .u8 4, .string ⟨#[]⟩, .int .i64 t, .string ⟨#[]⟩, .int .u8 0, .slice none 0 0, .int .u8 1, .string ⟨#[116, 111]⟩, .int .i64 0, .string ⟨#[]⟩, .int .u8 0, .slice none 0 0,
    .int .u8 4, .string ⟨#[]⟩, .int .i64 a, .string ⟨#[]⟩, .int .u8 0, .slice none 0 0, .int .u8 2, .string nm, .int .i64 0, .string ⟨#[116, 111]⟩, .int .u8 1, .slice none 0 0] 46)) (some ⟨k, 0, none⟩) (branchItems a t nm) := by
  subst hk
  refine .inr ⟨W.heap.size, 0, rfl, fun j x hx => ?_⟩
  have hj : j = 0 ∨ j = 1 ∨ j = 2 ∨ j = 3 := by
    have := (List.getElem?_eq_some_iff.1 hx).1
    simp [branchItems] at this
    omega
  rcases hj with rfl | rfl | rfl | rfl
  all_goals
    simp [branchItems] at hx
    subst hx
    exact ⟨none, 0, by simp, by simp [toS], by simp, by simp [toS], by simp, by simp, .inl rfl⟩
theorem branch_wf (a t : Int) (nm : ByteArray) (hn : nm ∈ branchNames) (ha0 : 0 ≤ a) (ha1 : a ≤ 65535) (ht0 : 0 ≤ t) (ht1 : t ≤ 65535) : ∀ x ∈ branchItems a t nm, x.wf := by
  have hs : nm.size ≤ 9223372036854775807 := by
    simp only [branchNames, List.mem_cons, List.mem_nil_iff, or_false] at hn
    rcases hn with rfl | rfl | rfl | rfl | rfl | rfl <;> decide
  have h2 : toS.size ≤ 9223372036854775807 := by decide
  have h0 : (⟨#[]⟩ : ByteArray).size ≤ 9223372036854775807 := by decide
  intro x hx
  simp only [branchItems, List.mem_cons, List.mem_nil_iff, or_false] at hx
  rcases hx with rfl | rfl | rfl | rfl
  · exact ⟨by simp, by simp, h0, by simp; omega, by simp; omega, h0, by simp, by simp, by simp, by simp⟩
  · exact ⟨by simp, by simp, h2, by simp, by simp, h0, by simp, by simp, by simp, by simp⟩
  · exact ⟨by simp, by simp, h0, by simp; omega, by simp; omega, h0, by simp, by simp, by simp, by simp⟩
  · exact ⟨by simp, by simp, hs, by simp, by simp, h2, by simp, by simp, by simp, by simp⟩

set_option maxRecDepth 100000 in
set_option maxHeartbeats 4000000 in
theorem law_AsmBranch (a t name : Int) (w : World) (hT : Tabs w) (ha0 : 0 ≤ a) (ha1 : a ≤ 65535) (ht0 : 0 ≤ t) (ht1 : t ≤ 65535) (hn0 : -9223372036854775808 ≤ name) (hn1 : name ≤ 9223372036854775807) :
    Calls Tryd.prog 4 #[.int .u16 a, .int .u16 t, .int .i64 name] w (LawRet w) := by
  go_enter Tryd.func4, Tryd.ntmps4
  go_upto_if 16 with fail
  go_cut [2] (fun s2 wx => ∃ n : Nat, s2 = .int .i64 n ∧ n ≤ 9223372036854775807 ∧ wx = w.alloc (.cells #[.string ⟨#[66, 82]⟩, .string ⟨#[66, 90]⟩, .string ⟨#[66, 78, 70]⟩, .string ⟨#[66, 52]⟩, .string ⟨#[66, 78, 49]⟩, .string ⟨#[66, 81]⟩] 9))
  case first =>
    by_cases h : name < 0
    · go_wp2_with fail
      go_meet
      exact ⟨(-(name + 1)).toNat, by rw [show (((-(name + 1)).toNat : Nat) : Int) = -(name + 1) by omega], by omega, rfl⟩
    · go_wp2_with fail
      go_meet
      exact ⟨name.toNat, by rw [show ((name.toNat : Nat) : Int) = name by omega], by omega, rfl⟩
  case rest =>
    obtain ⟨n, rfl, hn, rfl⟩ := hcut
    go_upto_region 4 with fail
    go_cut [8] (fun s8 wx => ∃ (nm : ByteArray) (g : Nat), nm ∈ branchNames ∧ s8 = .slice (some ⟨g, 0, none⟩) 4 4 ∧ Hid (ItemsAt wx (some ⟨g, 0, none⟩) (branchItems a t nm)) ∧ Below w.heap.size w wx)
    case first =>
      have hk : (n : Int) % 6 = 0 ∨ (n : Int) % 6 = 1 ∨ (n : Int) % 6 = 2 ∨ (n : Int) % 6 = 3 ∨ (n : Int) % 6 = 4 ∨ (n : Int) % 6 = 5 := by omega
      rcases hk with hk | hk | hk | hk | hk | hk
      all_goals
        (go_wp2_with fail
         go_meet
         exact ⟨_, w.heap.size + 1, by simp [branchNames], rfl, Lib.hid (branch_block _ _ (by simp) a t _), by repeat (first | exact Below.refl _ _ | refine Below.drew ?_ | refine below_drewN ?_ _ | refine below_set ?_ _ (by omega) | refine below_alloc ?_ _ (by simp; omega) | refine below_alloc ?_ _ (by omega) | refine below_alloc ?_ _ (by simp))⟩)
    case rest =>
      obtain ⟨nm, g, hnm, rfl, HI, hbc⟩ := hcut
      have hcon := asm_Assemble (some ⟨g, 0, none⟩) 4 (branchItems a t nm) wc (hT.below hbc) (branch_wf a t nm hnm ha0 ha1 ht0 ht1) HI.out
      change Calls _ _ #[.slice (some ⟨g, 0, none⟩) 4 4] _ _ at hcon
      obtain ⟨b1, b2, b3⟩ := branch_asm a t nm hnm ha0 ha1 ht0 ht1
      by_cases h1 : a = 65535
      · rw [b1 h1] at hcon
        have e1 : (a == 65535) = true := by simpa using h1
        clear b1 b2 b3 h1 HI hnm
        go_wp2_with fail
        refine hcon.mono ?_
        rintro e w1 ⟨rfl, hb1⟩
        have z1 := hb1.size
        have z2 := hbc.size
        go_wp2_with fail
        go_ret
        exact ⟨rfl, by repeat (first | exact (hbc.trans (hb1.mono hbc.size)) | refine Below.drew ?_ | refine below_drewN ?_ _ | refine below_set ?_ _ (by omega) | refine below_alloc ?_ _ (by simp; omega) | refine below_alloc ?_ _ (by omega) | refine below_alloc ?_ _ (by simp))⟩
      · have e1 : (a == 65535) = false := by simpa using h1
        have h1' : a ≤ 65534 := by omega
        by_cases h2 : t / 256 = (a + 1) / 256
        · obtain ⟨s, M, hasm, hK, hM⟩ := b3 h1 h2
          rw [hasm] at hcon
          have hok := asmI_ok hasm
          have e2 : ((a + 1) / 256 != t / 256) = false := by rw [h2]; simp
          have hin := hok.objIn (branch_wf a t nm hnm ha0 ha1 ht0 ht1)
          have hmem : layBl (fun _ => 0) (blocksTo s.K M 65536) (a.toNat + 1) = t % 256 := by rw [hok.mem_at _ (by omega), hM]
          have HIn := Lib.hid hin
          have HMe := Lib.hid hmem
          have HObj := Lib.hid hok.obj
          clear hin hmem
          have HOk := Lib.hid hok
          have HK := Lib.hid hK
          have HMx := Lib.hid hM
          clear b1 b2 b3 h1 HI hnm h2 hasm hok hK hM
          go_wp2_with fail
          refine hcon.mono ?_
          rintro e w1 ⟨bv, kv, nv, rfl, hob, hb1⟩
          have hob := hob w1 (KeptFrom.refl _ _)
          have hob1 := hob
          obtain ⟨⟨bl, hbl, ⟨Ab, cb, rfl, _⟩, _⟩, ⟨Ak, ck, rfl, _⟩, ⟨An, cn, rfl, _⟩⟩ := hob
          have z1 := hb1.size
          have z2 := hbc.size
          have hW1 : Below w.heap.size w w1 := hbc.trans (hb1.mono hbc.size)
          have hby : ∀ wx, Below w1.heap.size w1 wx → Calls Tryd.prog 16 #[.agg #[.slice Ab bl.length cb, .slice Ak (marksTo s.K 65536).length ck, .slice An (sortedLabs s.labs).length cn], .int .i64 (a + 1), .int .i64 (a + 2)] wx (BytesRet wx [t % 256]) := fun wx hbx => by
            have := asm_Bytes _ _ _ _ _ _ wx (hT.below (hW1.trans (hbx.mono hW1.size))) HIn.out (hob1.below hbx) HObj.out (a + 1) (a + 2) (by omega) (by omega) (by omega)
            rw [show (a + 2 - (a + 1)).toNat = 1 by omega, show (a + 1).toNat = a.toNat + 1 by omega] at this
            simpa [List.range_succ, HMe.out] using this
          have HBy := Lib.hid hby
          clear hby hob1 hbl
          generalize bl.length = nb at HBy ⊢
          generalize (marksTo s.K 65536).length = nk at HBy ⊢
          generalize (sortedLabs s.labs).length = nn at HBy ⊢
          go_wp2_with fail
          refine (HBy.out _ (by repeat (first | exact Below.refl _ _ | refine Below.drew ?_ | refine below_drewN ?_ _ | refine below_set ?_ _ (by omega) | refine below_alloc ?_ _ (by simp; omega) | refine below_alloc ?_ _ (by omega) | refine below_alloc ?_ _ (by simp)))).mono ?_
          rintro e w2 ⟨g2, cap2, rfl, hrow2, hb2⟩
          have c0 : w2.cell? ⟨g2, 0, none⟩ = some (.int .u8 (t % 256)) := by
            have := hrow2.cellAt 0 (by simp)
            simpa using this
          have z3 := hb2.size
          clear hrow2
          go_wp2_with fail
          go_ret
          exact ⟨rfl, below_call (below_alloc hW1 _ (by omega)) hb2 (by simp; omega)⟩
        · rw [b2 h1 h2] at hcon
          have e2 : ((a + 1) / 256 != t / 256) = true := by rw [bne_iff_ne]; exact fun e => h2 e.symm
          clear b1 b2 b3 h1 HI hnm h2
          go_wp2_with fail
          refine hcon.mono ?_
          rintro e w1 ⟨rfl, hb1⟩
          have z1 := hb1.size
          have z2 := hbc.size
          go_wp2_with fail
          go_ret
          exact ⟨rfl, by repeat (first | exact (hbc.trans (hb1.mono hbc.size)) | refine Below.drew ?_ | refine below_drewN ?_ _ | refine below_set ?_ _ (by omega) | refine below_alloc ?_ _ (by simp; omega) | refine below_alloc ?_ _ (by omega) | refine below_alloc ?_ _ (by simp))⟩
end Go.Proofs.YtpjdkdphklgfjaaDoor

/- What holds of a source that the assembler takes, in plain Lean; its object may be. -/
import Derived.Test.YtpjdkdphklgfjaaDoorObjOk
import Derived.Test.YtpjdkdphklgfjaaDoorAsmI
namespace Go.Proofs.YtpjdkdphklgfjaaDoor
open Go.Sort
set_option linter.unusedVariables false
set_option linter.unusedSimpArgs false

theorem firstFrom_name (s : ByteArray) : ∀ (d : Nat) (b : Int), 0 ≤ firstFrom s d b → 0 ≤ b → nameI (firstFrom s d b) = s
  | 0, b, h, _ => by unfold firstFrom at h; omega
  | d + 1, b, h, hb => by
    unfold firstFrom at h ⊢
    by_cases e : nameI b = s
    · rw [if_pos e]; exact e
    · rw [if_neg e] at h ⊢; exact firstFrom_name s d (b + 1) h (by omega)
theorem first_name {s : ByteArray} (h : 0 ≤ firstI s) : nameI (firstI s) = s := firstFrom_name s 256 0 h (by omega)
def headB (n a : Nat) : Bool := (formI (n : Int) != 2 || decide ((a : Int) < lowI 2 (n : Int)) || formI (((if (n : Int) < 16 then 0 else (n : Int)) + (a : Int)) % 256) == 2) &&
  (formI (n : Int) != 3 || decide ((a : Int) < 1) || decide (7 < (a : Int)) || formI (((n : Int) - 1 + (a : Int)) % 256) == 3)
def headsB (n : Nat) : Bool := firstI (nameI (n : Int)) != (n : Int) || (List.range 16).all (headB n)
theorem heads_all : (List.range 256).all headsB = true := by decide +kernel
theorem op_head (n : Nat) (hn : n < 256) (h : firstI (nameI (n : Int)) = (n : Int)) (a : Nat) (ha : a < 16) :
    (formI (n : Int) = 2 → lowI 2 (n : Int) ≤ (a : Int) → formI (((if (n : Int) < 16 then 0 else (n : Int)) + (a : Int)) % 256) = 2) ∧ (formI (n : Int) = 3 → 1 ≤ (a : Int) → (a : Int) ≤ 7 → formI (((n : Int) - 1 + (a : Int)) % 256) = 3) := by
  have h1 := List.all_eq_true.1 heads_all n (List.mem_range.2 hn)
  unfold headsB at h1
  rw [h] at h1
  simp only [bne_self_eq_false, Bool.false_or] at h1
  have h2 := List.all_eq_true.1 h1 a (List.mem_range.2 ha)
  unfold headB at h2
  simp only [Bool.and_eq_true, Bool.or_eq_true, bne_iff_ne, decide_eq_true_eq, beq_iff_eq] at h2
  constructor
  · intro e l
    rcases h2.1 with (g | g) | g
    · exact absurd e g
    · omega
    · exact g
  · intro e l1 l2
    rcases h2.2 with ((g | g) | g) | g
    · exact absurd e g
    · omega
    · omega
    · exact g
/-- The first byte of an instruction has its form. -/
theorem enc_head {s : ByteArray} {arg : Int} (h : (encI s arg).2 = 0) : formI ((encI s arg).1.getD 0 0) = formI (firstI s) := by
  obtain ⟨h0, h1, h2, e⟩ := encI_ok h
  rw [e]
  have hr := firstI_range s
  have hf := formI_range (firstI s)
  have hn := first_name h0
  obtain ⟨n, hn'⟩ : ∃ n : Nat, firstI s = (n : Int) := ⟨(firstI s).toNat, by omega⟩
  have key := fun a ha => op_head n (by omega) (by rw [← hn', hn]) a ha
  rw [hn'] at h1 h2 hf ⊢
  have : formI (n : Int) = 1 ∨ formI (n : Int) = 2 ∨ formI (n : Int) = 3 ∨ formI (n : Int) = 4 ∨ formI (n : Int) = 5 ∨ formI (n : Int) = 6 := by omega
  rcases this with q | q | q | q | q | q <;> rw [q] at h1 h2 <;> simp only [q, opBytes] <;> simp [highI] at h2
  · exact q
  · have h0' : 0 ≤ arg := by unfold lowI at h1; simp at h1; split at h1 <;> omega
    obtain ⟨a, rfl⟩ : ∃ a : Nat, arg = (a : Int) := ⟨arg.toNat, by omega⟩
    simpa using (key a (by omega)).1 q h1
  · simp [lowI] at h1
    obtain ⟨a, rfl⟩ : ∃ a : Nat, arg = (a : Int) := ⟨arg.toNat, by omega⟩
    simpa using (key a (by omega)).2 q h1 h2
  all_goals simpa using q

/-- All of a source that is taken. -/
structure AsmOk (l : List Item) (s : LayS) (M : Nat → Int) : Prop where
  may : ∀ x ∈ l, x.may = true
  short : l.length ≤ 4096
  ok : s.ok
  alen : s.ats.length = l.length
  laid : Laid (l.zip s.ats) s
  bytes : ∀ q ∈ l.zip s.ats, ∃ a, wantI s.labs q.1 = some a ∧ (layBytes q.1 q.2 a).2 = 0 ∧ ∀ b, inside q b → M b = (layBytes q.1 q.2 a).1.getD (b - q.2.toNat) 0
  zero : ∀ b, (∀ q ∈ l.zip s.ats, ¬ inside q b) → M b = 0
  keys : keysOK s.labs
theorem asmI_ok {l : List Item} {s : LayS} {M : Nat → Int} (h : asmI l = .inr (s, M)) : AsmOk l s M := by
  unfold asmI at h
  by_cases hc : (checkI l).1 = 0
  · rw [if_pos hc] at h
    obtain ⟨h1, h2, _⟩ := check_ok hc
    cases hl : layFrom l lay0 0 with
    | inl e => rw [hl] at h; cases h
    | inr s1 =>
      rw [hl] at h
      simp only at h
      cases hf : fillFrom s1.labs l s1.ats (fun _ => 0) 0 with
      | inl e => rw [hf] at h; cases h
      | inr M1 =>
        rw [hf] at h
        cases h
        have hlaid := laid_of hl h2
        have hok := layFrom_ok l h2 lay0 0 s hl ok0
        have hal : s.ats.length = l.length := by rw [hok.2]; simp [lay0]
        obtain ⟨g1, g2⟩ := fillFrom_bytes s.labs l s.ats (fun _ => 0) M 0 hf hal hlaid.apart
        exact ⟨h2, h1, hok.1, hal, hlaid, g1, g2, layFrom_keys l lay0 0 s hl (by simp [keysOK, lay0])⟩
  · rw [if_neg hc] at h; cases h

theorem pw_eq : ∀ {Z : List (Item × Int)}, Z.Pairwise (fun q r => ∀ a, ¬ (inside q a ∧ inside r a)) → ∀ q ∈ Z, ∀ r ∈ Z, ∀ a, inside q a → inside r a → q = r
  | [], _, q, hq, _, _, _, _, _ => by cases hq
  | z :: Z, h, q, hq, r, hr, a, h1, h2 => by
    rw [List.pairwise_cons] at h
    rcases List.mem_cons.1 hq with e1 | g1 <;> rcases List.mem_cons.1 hr with e2 | g2
    · exact e1.trans e2.symm
    · subst e1; exact absurd ⟨h1, h2⟩ (h.1 r g2 a)
    · subst e2; exact absurd ⟨h2, h1⟩ (h.1 q g1 a)
    · exact pw_eq h.2 q g1 r g2 a h1 h2

theorem AsmOk.mem {l : List Item} {s : LayS} {M : Nat → Int} (h : AsmOk l s M) {q : Item × Int} (hq : q ∈ l.zip s.ats) : q.1.may = true := h.may _ (List.of_mem_zip hq).1
theorem AsmOk.code {l : List Item} {s : LayS} {M : Nat → Int} (h : AsmOk l s M) : CodeIn s.K M := by
  refine ⟨((l.zip s.ats).filter fun q => q.1.kind == 2).map fun q => (q.2.toNat, q.1.size.toNat), ?_, ?_, ?_⟩
  · intro r hr
    obtain ⟨q, hq, rfl⟩ := List.mem_map.1 hr
    rw [List.mem_filter] at hq
    obtain ⟨hq, h2⟩ := hq
    have h2 : q.1.kind = 2 := by simpa using h2
    obtain ⟨a, h3, h4, h5⟩ := h.bytes q hq
    have hp := h.laid.pos q hq
    have hlen := layBytes_length h4
    unfold layBytes at h4 h5 hlen
    rw [if_pos h2] at h4 h5 hlen
    obtain ⟨arg', e, h6⟩ := ordBytes_ok h4
    rw [e] at h5 hlen
    have hel := encI_length h6
    have hfr := formI_range (firstI q.1.name)
    have hl1 : 1 ≤ lenI (formI (firstI q.1.name)) := by
      have : formI (firstI q.1.name) = 1 ∨ formI (firstI q.1.name) = 2 ∨ formI (firstI q.1.name) = 3 ∨ formI (firstI q.1.name) = 4 ∨ formI (firstI q.1.name) = 5 ∨ formI (firstI q.1.name) = 6 := by omega
      rcases this with e | e | e | e | e | e <;> rw [e] <;> simp [lenI, lensT]
    have hsz : 0 < q.1.size := by omega
    have hfit := h.laid.fits q hq hsz
    refine ⟨by simp only; omega, ?_, ?_⟩
    · show lenI (formI (M q.2.toNat)) = _
      rw [h5 q.2.toNat ⟨Nat.le_refl _, by omega⟩, Nat.sub_self, enc_head h6]
      simp only
      omega
    · intro i h7 h8
      have := h.laid.kind q hq i ⟨h7, h8⟩
      rw [this]; unfold kindOf; rw [if_pos h2]
  · intro r hr t ht a h1 h2 h3 h4
    obtain ⟨q, hq, rfl⟩ := List.mem_map.1 hr
    obtain ⟨q', hq', rfl⟩ := List.mem_map.1 ht
    rw [List.mem_filter] at hq hq'
    rw [pw_eq h.laid.apart q hq.1 q' hq'.1 a ⟨h1, h2⟩ ⟨h3, h4⟩]
  · intro a ha
    obtain ⟨q, hq, hi⟩ := h.laid.cover a (by rw [ha]; decide)
    have hk := h.laid.kind q hq a hi
    rw [ha] at hk
    have h2 : q.1.kind = 2 := by
      unfold kindOf at hk
      by_cases h2 : q.1.kind = 2
      · exact h2
      · rw [if_neg h2] at hk; cases hk
    exact ⟨(q.2.toNat, q.1.size.toNat), List.mem_map.2 ⟨q, List.mem_filter.2 ⟨hq, by simpa using h2⟩, rfl⟩, hi⟩
theorem AsmOk.names {l : List Item} {s : LayS} {M : Nat → Int} (h : AsmOk l s M) : ∀ p ∈ s.labs, isName p.1 = true ∧ 0 ≤ p.2 ∧ p.2 < 65536 := by
  intro p hp
  have h1 := h.ok.labs p hp
  refine ⟨?_, h1.1, by omega⟩
  rw [h.laid.labs, List.mem_reverse, List.mem_filterMap] at hp
  obtain ⟨q, hq, hl⟩ := hp
  have hm := h.mem hq
  unfold labelOf at hl
  by_cases hk : q.1.kind = 1
  · rw [if_pos hk] at hl
    cases hl
    unfold Item.may mayB at hm
    rw [if_neg (by omega)] at hm
    split at hm
    · cases hm
    · exact hm
  · rw [if_neg hk] at hl; cases hl

theorem labCmp_le {p q : ByteArray × Int} (h : ltOf labCmp p q = false) : labCmp q p ≤ 0 := by
  rw [lab_not] at h
  rcases labLt_total q p with h1 | h1 | h1
  · have := (labCmp_lt q p).2 h1
    unfold ltOf at this
    have : labCmp q p < 0 := by simpa using this
    omega
  · subst h1
    unfold labCmp
    rw [bc_self]
    simp [orI, Lib.compareInt]
  · exact absurd h1 h
theorem sorted_ok {labs : List (ByteArray × Int)} (h1 : ∀ p ∈ labs, isName p.1 = true ∧ 0 ≤ p.2 ∧ p.2 < 65536) (h2 : keysOK labs) : labelsB [] none (sortedLabs labs) = true := by
  have hp : (sortedLabs labs).Perm labs := List.mergeSort_perm _ _
  refine labels_ok _ [] none (fun p hq => h1 p (hp.mem_iff.1 hq)) ?_ (by simp) ?_ (by simp)
  · exact ((hp.map Prod.fst).nodup_iff).2 h2
  · have hs : (sortedLabs labs).Pairwise (fun x y => (!(ltOf labCmp) y x) = true) := List.pairwise_mergeSort (fun a b c h1 h2 => by
      simp only [Bool.not_eq_true'] at *
      exact lab_swo.ntrans c b a h2 h1) (fun a b => by
      simp only [Bool.or_eq_true, Bool.not_eq_true']
      rcases labLt_total a b with h | rfl | h
      · left; rw [lab_not]; intro h2; exact labLt_irrefl a (labLt_trans h h2)
      · left; rw [lab_not]; exact labLt_irrefl a
      · right; rw [lab_not]; intro h2; exact labLt_irrefl a (labLt_trans h2 h)) labs
    refine hs.imp fun {a b} h => labCmp_le ?_
    simpa using h
theorem AsmOk.obj {l : List Item} {s : LayS} {M : Nat → Int} (h : AsmOk l s M) : objB (blocksTo s.K M 65536) (marksTo s.K 65536) (sortedLabs s.labs) = true := by
  unfold objB
  rw [blocks_ok, marks_ok h.code h.ok.K, sorted_ok h.names h.keys]
  rfl
end Go.Proofs.YtpjdkdphklgfjaaDoor

/- The object of a source that is taken is one that may be, in plain Lean. -/
import Derived.Test.YtpjdkdphklgfjaaDoorLaid
import Derived.Test.YtpjdkdphklgfjaaDoorChk0
import Derived.Test.YtpjdkdphklgfjaaDoorObj2b
namespace Go.Proofs.YtpjdkdphklgfjaaDoor
set_option linter.unusedVariables false
set_option linter.unusedSimpArgs false

/-- Code is whole: each address of code lies in an instruction that is whole, and no two of them overlap. -/
def CodeIn (K M : Nat → Int) : Prop := ∃ S : List (Nat × Nat), (∀ q ∈ S, q.1 + q.2 ≤ 65536 ∧ lenI (formI (M q.1)) = (q.2 : Int) ∧ ∀ i, q.1 ≤ i → i < q.1 + q.2 → K i = 1) ∧
  (∀ q ∈ S, ∀ r ∈ S, ∀ a, q.1 ≤ a → a < q.1 + q.2 → r.1 ≤ a → a < r.1 + r.2 → q = r) ∧ ∀ a, K a = 1 → ∃ q ∈ S, q.1 ≤ a ∧ a < q.1 + q.2
theorem run_ex (p : Nat → Prop) (a e : Nat) (ha : a < e) (hp : p a) : ∃ m, 0 < m ∧ a + m ≤ e ∧ (∀ i, a ≤ i → i < a + m → p i) ∧ (a + m = e ∨ a + m < e ∧ ¬ p (a + m)) := by
  have : ∀ d, ∀ n, 0 < n → a + n + d = e → (∀ i, a ≤ i → i < a + n → p i) → ∃ m, 0 < m ∧ a + m ≤ e ∧ (∀ i, a ≤ i → i < a + m → p i) ∧ (a + m = e ∨ a + m < e ∧ ¬ p (a + m)) := by
    intro d
    induction d with
    | zero => intro n hn h hall; exact ⟨n, hn, by omega, hall, .inl (by omega)⟩
    | succ d ihm =>
      intro n hn h hall
      by_cases hz2 : p (a + n)
      · refine ihm (n + 1) (by omega) (by omega) ?_
        intro i hi1 hi2
        rcases Nat.lt_or_ge i (a + n) with h3 | h3
        · exact hall i hi1 h3
        · obtain rfl : i = a + n := by omega
          exact hz2
      · exact ⟨n, hn, by omega, hall, .inr ⟨by omega, hz2⟩⟩
  exact this (e - a - 1) 1 (by omega) (by omega) (fun i h3 h4 => (show i = a by omega) ▸ hp)
theorem scan_ind {K : Nat → Int} {P : Nat → Prop} (h0 : P 0) (hfree : ∀ a, a < 65536 → P a → K a = 0 → P (a + 1))
    (hrun : ∀ a n, a + n ≤ 65536 → 0 < n → P a → (a = 0 ∨ K (a - 1) = 0) → (∀ i, a ≤ i → i < a + n → K i ≠ 0) → (a + n = 65536 ∨ a + n < 65536 ∧ K (a + n) = 0) → P (a + n)) : P 65536 := by
  have main : ∀ d a, 65536 - a ≤ d → a ≤ 65536 → P a → (a = 0 ∨ K (a - 1) = 0 ∨ a = 65536 ∨ K a = 0) → P 65536 := by
    intro d
    induction d with
    | zero => intro a h1 h2 hp _; obtain rfl : a = 65536 := by omega
              exact hp
    | succ d ih =>
      intro a h1 h2 hp he
      rcases Nat.lt_or_ge a 65536 with ha | ha
      · by_cases hz : K a = 0
        · exact ih (a + 1) (by omega) (by omega) (hfree a ha hp hz) (.inr (.inl (by simpa using hz)))
        · have hex := run_ex (fun i => K i ≠ 0) a 65536 ha hz
          obtain ⟨n, hn, hle, hall, hend⟩ := hex
          have hp' := hrun a n hle hn hp (by rcases he with h | h | h | h; exact .inl h; exact .inr h; omega; exact absurd h hz) hall (by rcases hend with h | h; exact .inl h; exact .inr ⟨h.1, Decidable.not_not.1 h.2⟩)
          exact ih (a + n) (by omega) hle hp' (by rcases hend with h | h; exact .inr (.inr (.inl h)); exact .inr (.inr (.inr (Decidable.not_not.1 h.2))))
      · obtain rfl : a = 65536 := by omega
        exact hp
  exact main 65536 0 (by omega) (by omega) h0 (.inl rfl)

/-- The address behind the last block. -/
def lastEnd (e : Int) : List (Int × List Int) → Int
  | [] => e
  | p :: l => lastEnd (p.1 + p.2.length) l
theorem lastEnd_snoc : ∀ (l : List (Int × List Int)) (e : Int) (p : Int × List Int), lastEnd e (l ++ [p]) = p.1 + p.2.length
  | [], _, _ => rfl
  | _ :: l, _, p => lastEnd_snoc l _ p
theorem blocksB_snoc : ∀ (l : List (Int × List Int)) (e : Int) (p : Int × List Int), blocksB e l = true → lastEnd e l < p.1 → 0 ≤ p.1 → p.2.length ≠ 0 → p.1 + p.2.length ≤ 65536 → blocksB e (l ++ [p]) = true
  | [], e, p, _, h1, h2, h3, h4 => by
    show blocksB e [p] = true
    unfold blocksB
    have h1' : e < p.1 := h1
    rw [if_neg (by omega)]
    rfl
  | q :: l, e, p, h, h1, h2, h3, h4 => by
    rw [List.cons_append]
    unfold blocksB at h ⊢
    by_cases hc : q.1 ≤ e ∨ q.1 < 0 ∨ q.2.length = 0 ∨ 65536 ≤ q.1 ∨ 65536 - q.1 < q.2.length
    · rw [if_pos hc] at h; cases h
    · rw [if_neg hc] at h ⊢
      exact blocksB_snoc l _ p h h1 h2 h3 h4

theorem blocks_ok (K M : Nat → Int) : blocksB (-1) (blocksTo K M 65536) = true := by
  have := scan_ind (K := K) (P := fun a => blocksB (-1) (blocksTo K M a) = true ∧ lastEnd (-1) (blocksTo K M a) ≤ a ∧ (0 < a → K (a - 1) = 0 → lastEnd (-1) (blocksTo K M a) < a) ∧ (a = 0 → lastEnd (-1) (blocksTo K M a) < 0))
    ⟨rfl, by simp [blocksTo, lastEnd], by simp, by simp [blocksTo, lastEnd]⟩
    (fun a ha h hz => by
      rw [blocks_free K M a hz]
      exact ⟨h.1, by have := h.2.1; omega, fun _ _ => by have := h.2.1; omega, by omega⟩)
    (fun a n hle hn h hb hall hend => by
      rw [blocks_run K M a n hn hb hall hend]
      have hlt : lastEnd (-1) (blocksTo K M a) < a := by
        rcases Nat.eq_zero_or_pos a with h0 | h0
        · have := h.2.2.2 h0; omega
        · rcases hb with hb | hb
          · omega
          · exact h.2.2.1 h0 hb
      refine ⟨blocksB_snoc _ _ _ h.1 hlt (by omega) (by simp; omega) (by simp; omega), ?_, ?_, by omega⟩
      · rw [lastEnd_snoc]; simp
      · intro _ hz
        exact absurd hz (hall (a + n - 1) (by omega) (by omega)))
  exact this.1

/-- What all blocks lay down. -/
def layBl (M : Nat → Int) (l : List (Int × List Int)) : Nat → Int := l.foldl (fun M p => setM M p.1.toNat p.2) M
theorem mem_ok (K M : Nat → Int) (i : Nat) (hi : i < 65536) : layBl (fun _ => 0) (blocksTo K M 65536) i = if K i ≠ 0 then M i else 0 := by
  have := scan_ind (K := K) (P := fun a => ∀ i, layBl (fun _ => 0) (blocksTo K M a) i = if i < a ∧ K i ≠ 0 then M i else 0)
    (fun i => by rw [if_neg (by omega)]; simp [blocksTo, layBl])
    (fun a ha h hz i => by
      rw [blocks_free K M a hz, h i]
      by_cases hi : i = a
      · subst hi; rw [if_neg (by omega), if_neg (by simp [hz])]
      · by_cases hc : i < a ∧ K i ≠ 0
        · rw [if_pos hc, if_pos ⟨by omega, hc.2⟩]
        · rw [if_neg hc, if_neg (fun hc' => hc ⟨by omega, hc'.2⟩)])
    (fun a n hle hn h hb hall hend i => by
      rw [blocks_run K M a n hn hb hall hend]
      unfold layBl at h ⊢
      rw [List.foldl_append]
      have hs : ∀ F : Nat → Int, setM F ((a : Int)).toNat ((List.range n).map fun j => M (a + j)) i = if a ≤ i ∧ i < a + n then ((List.range n).map fun j => M (a + j)).getD (i - a) 0 else F i := by
        intro F
        unfold setM
        simp
      show setM _ ((a : Int)).toNat ((List.range n).map fun j => M (a + j)) i = _
      rw [hs]
      by_cases hc : a ≤ i ∧ i < a + n
      · rw [if_pos hc, if_pos ⟨hc.2, hall i hc.1 hc.2⟩]
        simp only [List.getD_eq_getElem?_getD, List.getElem?_map, List.getElem?_range (show i - a < n by omega), Option.map_some, Option.getD_some]
        congr 1; omega
      · rw [if_neg hc, h i]
        by_cases hc2 : i < a ∧ K i ≠ 0
        · rw [if_pos hc2, if_pos ⟨by omega, hc2.2⟩]
        · rw [if_neg hc2, if_neg (fun hc' => hc2 ⟨by omega, hc'.2⟩)])
  rw [this i]
  by_cases hz : K i ≠ 0
  · rw [if_pos ⟨hi, hz⟩, if_pos hz]
  · rw [if_neg (fun h => hz h.2), if_neg hz]

theorem range_drop (f : Nat → Int) (a m n : Nat) : ((List.range m).map fun j => f (a + j)).drop n = (List.range (m - n)).map fun j => f (a + n + j) := by
  apply List.ext_getElem?
  intro i
  rw [List.getElem?_drop, List.getElem?_map, List.getElem?_map]
  rcases Nat.lt_or_ge (n + i) m with h | h
  · rw [List.getElem?_range h, List.getElem?_range (by omega)]; simp [Nat.add_assoc]
  · rw [List.getElem?_eq_none (by simpa using h), List.getElem?_eq_none (by simp; omega)]; rfl
theorem range_take (f : Nat → Int) (a m n : Nat) (h : n ≤ m) : ((List.range m).map fun j => f (a + j)).take n = (List.range n).map fun j => f (a + j) := by
  rw [← List.map_take, List.take_range, Nat.min_eq_left h]
/-- A run of code is whole instructions. -/
theorem whole_run {K M : Nat → Int} (h : CodeIn K M) (a m : Nat) (hm : a + m ≤ 65536) (hb : a = 0 ∨ K (a - 1) ≠ 1) (hall : ∀ i, a ≤ i → i < a + m → K i = 1) (hend : a + m = 65536 ∨ K (a + m) ≠ 1) :
    wholeB ((List.range m).map fun j => M (a + j)) = true := by
  obtain ⟨S, h1, h2, h3⟩ := h
  have main : ∀ d p n, n ≤ d → a ≤ p → p + n = a + m → (n = 0 ∨ ∃ k, (p, k) ∈ S) → wholeB ((List.range n).map fun j => M (p + j)) = true := by
    intro d
    induction d with
    | zero => intro p n hn _ _ _; obtain rfl : n = 0 := by omega
              rfl
    | succ d ih =>
      intro p n hn hp he hs
      rcases hs with rfl | ⟨k, hk⟩
      · rfl
      · obtain ⟨g1, g2, g3⟩ := h1 _ hk
        simp only at g1 g2 g3
        rcases Nat.eq_zero_or_pos n with rfl | hn0
        · rfl
        have hl := formI_range (M p)
        have hk0 : 0 < k := by
          have : formI (M p) = 1 ∨ formI (M p) = 2 ∨ formI (M p) = 3 ∨ formI (M p) = 4 ∨ formI (M p) = 5 ∨ formI (M p) = 6 := by omega
          rcases this with e | e | e | e | e | e <;> rw [e] at g2 <;> simp [lenI, lensT] at g2 <;> omega
        have hkn : k ≤ n := by
          rcases Nat.lt_or_ge n k with hlt | hge
          · rcases hend with h | h
            · omega
            · exact absurd (g3 (a + m) (by omega) (by omega)) h
          · exact hge
        have hd : decN ((List.range n).map fun j => M (p + j)) = some (k : Int) := by
          obtain ⟨n', rfl⟩ : ∃ n', n = n' + 1 := ⟨n - 1, by omega⟩
          rw [List.range_succ_eq_map, List.map_cons]
          unfold decN
          simp only [Nat.add_zero]
          rw [g2, if_neg (by simp; omega)]
        rw [wholeB_some hd, Int.toNat_natCast, range_drop]
        refine ih (p + k) (n - k) (by omega) (by omega) (by omega) ?_
        rcases Nat.eq_zero_or_pos (n - k) with h0 | h0
        · exact .inl h0
        · right
          obtain ⟨q, hq, q1, q2⟩ := h3 (p + k) (hall (p + k) (by omega) (by omega))
          refine ⟨q.2, ?_⟩
          rcases Nat.lt_or_ge q.1 (p + k) with hlt | hge
          · have := h2 q hq _ hk (p + k - 1) (by omega) (by omega) (by simp; omega) (by simp; omega)
            rw [this] at q2
            simp at q2
          · have e : q.1 = p + k := by omega
            rw [← e]; exact hq
  rcases Nat.eq_zero_or_pos m with rfl | hm0
  · rfl
  · refine main m a m (Nat.le_refl _) (Nat.le_refl _) rfl (.inr ?_)
    obtain ⟨q, hq, q1, q2⟩ := h3 a (hall a (Nat.le_refl _) (by omega))
    refine ⟨q.2, ?_⟩
    have e : q.1 = a := by
      rcases Nat.lt_or_ge q.1 a with hlt | hge
      · rcases hb with h | h
        · omega
        · exact absurd ((h1 q hq).2.2 (a - 1) (by omega) (by omega)) h
      · omega
    rw [← e]; exact hq

theorem marksIn_cons (A : Int) (bs : List Int) (m : Int × Int × Bool) (t : List (Int × Int × Bool)) (pos : Nat) (prev : Option Bool) :
    marksIn A bs (m :: t) pos prev = if pos < bs.length then (if markOk A bs pos prev m then marksIn A bs t (pos + m.2.1.toNat) (some m.2.2) else none) else some (m :: t) := rfl
theorem marksIn_app (A : Int) (bs : List Int) (ms' : List (Int × Int × Bool)) : ∀ (ms : List (Int × Int × Bool)) (pos : Nat) (prev : Option Bool) (t : List (Int × Int × Bool)), marksIn A bs ms pos prev = some t → marksIn A bs (ms ++ ms') pos prev = some (t ++ ms')
  | [], pos, prev, t, h => by
    unfold marksIn at h
    by_cases hp : pos < bs.length
    · rw [if_pos hp] at h; cases h
    · rw [if_neg hp] at h
      cases h
      cases ms' with
      | nil => simp [marksIn, hp]
      | cons m t => simp [marksIn, hp]
  | m :: ms, pos, prev, t, h => by
    rw [List.cons_append]
    unfold marksIn at h ⊢
    by_cases hp : pos < bs.length
    · rw [if_pos hp] at h ⊢
      by_cases hk : markOk A bs pos prev m = true
      · rw [if_pos hk] at h ⊢
        exact marksIn_app A bs ms' ms _ _ t h
      · rw [if_neg hk] at h; cases h
    · rw [if_neg hp] at h ⊢
      cases h
      rfl
theorem markedB_snoc (b : Int × List Int) (ms : List (Int × Int × Bool)) (hb : marksIn b.1 b.2 ms 0 none = some []) : ∀ (bl : List (Int × List Int)) (mk : List (Int × Int × Bool)), markedB bl mk = true → markedB (bl ++ [b]) (mk ++ ms) = true
  | [], mk, h => by
    unfold markedB at h
    rw [List.isEmpty_iff] at h
    subst h
    show markedB [b] ms = true
    unfold markedB
    rw [hb]
    rfl
  | c :: bl, mk, h => by
    rw [List.cons_append]
    unfold markedB at h ⊢
    cases hc : marksIn c.1 c.2 mk 0 none with
    | none => rw [hc] at h; cases h
    | some t =>
      rw [hc] at h
      rw [marksIn_app _ _ _ _ _ _ _ hc]
      exact markedB_snoc b ms hb bl t h

/-- The marks of one stretch. -/
theorem marks_block {K M : Nat → Int} (hc : CodeIn K M) (hK : ∀ i, K i = 0 ∨ K i = 1 ∨ K i = 2) (a n : Nat) (hle : a + n ≤ 65536) (hn : 0 < n) (hb : a = 0 ∨ K (a - 1) = 0) (hall : ∀ i, a ≤ i → i < a + n → K i ≠ 0) (hend : a + n = 65536 ∨ a + n < 65536 ∧ K (a + n) = 0) :
    ∃ ms, marksTo K (a + n) = marksTo K a ++ ms ∧ marksIn a ((List.range n).map fun j => M (a + j)) ms 0 none = some [] := by
  have main : ∀ d k, k + d = n → (k = 0 ∨ k = n ∨ K (a + k - 1) ≠ K (a + k)) → (∃ ms, marksTo K (a + k) = marksTo K a ++ ms ∧ ∀ ms', marksIn a ((List.range n).map fun j => M (a + j)) (ms ++ ms') 0 none = marksIn a ((List.range n).map fun j => M (a + j)) ms' k (if k = 0 then none else some (K (a + k - 1) == 1))) →
      ∃ ms, marksTo K (a + n) = marksTo K a ++ ms ∧ marksIn a ((List.range n).map fun j => M (a + j)) ms 0 none = some [] := by
    intro d
    induction d using Nat.strongRecOn with
    | _ d ih =>
      intro k hk he hex
      obtain ⟨ms, h1, h2⟩ := hex
      rcases Nat.eq_zero_or_pos d with rfl | hd
      · obtain rfl : k = n := by omega
        refine ⟨ms, h1, ?_⟩
        have := h2 []
        rw [List.append_nil] at this
        rw [this]
        unfold marksIn
        rw [if_neg (by simp)]
      · obtain ⟨m, hm, hml, hma, hme⟩ := run_ex (fun i => K i = K (a + k)) (a + k) (a + n) (by omega) rfl
        have hka : K (a + k) ≠ 0 := hall (a + k) (by omega) (by omega)
        have hbk : a + k = 0 ∨ K (a + k - 1) ≠ K (a + k) := by
          rcases he with h | h | h
          · subst h
            rcases hb with h | h
            · exact .inl (by omega)
            · right; simp only [Nat.add_zero] at hka ⊢; rw [h]; exact Ne.symm hka
          · omega
          · exact .inr h
        have hrun := marks_run K (a + k) m hm hka hbk hma (by
          rcases hme with h | h
          · rcases hend with h' | h'
            · exact .inl (by omega)
            · right; rw [h]; exact ⟨h'.1, by rw [h'.2]; exact Ne.symm hka⟩
          · exact .inr ⟨by omega, h.2⟩)
        refine ih (d - m) (by omega) (k + m) (by omega) ?_ ⟨ms ++ [(((a + k : Nat) : Int), (m : Int), K (a + k) == 1)], ?_, ?_⟩
        · rcases hme with h | h
          · exact .inr (.inl (by omega))
          · right; right
            rw [show a + (k + m) = a + k + m by omega, hma (a + k + m - 1) (by omega) (by omega)]
            exact fun e => h.2 e.symm
        · rw [show a + (k + m) = a + k + m by omega, hrun, h1, List.append_assoc]
        · intro ms'
          rw [List.append_assoc, h2, List.singleton_append, marksIn_cons]
          rw [if_pos (by simp; omega), if_pos, show (Int.toNat (m : Int)) = m from Int.toNat_natCast m, if_neg (show ¬ k + m = 0 by omega), show a + (k + m) - 1 = a + k + m - 1 by omega, hma (a + k + m - 1) (by omega) (by omega)]
          · unfold markOk
            simp only [Bool.and_eq_true, beq_iff_eq, bne_iff_ne, decide_eq_true_eq, Bool.or_eq_true, Bool.not_eq_true', List.length_map, List.length_range]
            refine ⟨⟨⟨⟨by omega, by omega⟩, by omega⟩, ?_⟩, ?_⟩
            · by_cases hk0 : k = 0
              · rw [if_pos hk0]; simp
              · rw [if_neg hk0]
                intro e
                have hne : K (a + k - 1) ≠ K (a + k) := by
                  rcases hbk with h | h
                  · omega
                  · exact h
                have hz := hall (a + k - 1) (by omega) (by omega)
                injection e with e
                rcases hK (a + k - 1) with q | q | q <;> rcases hK (a + k) with r | r | r <;> simp_all
            · by_cases hcode : K (a + k) = 1
              · right
                rw [range_drop, range_take _ _ _ _ (by omega)]
                refine whole_run hc (a + k) m (by omega) ?_ (fun i q1 q2 => (hma i q1 q2).trans hcode) ?_
                · rcases hbk with h | h
                  · exact .inl h
                  · right; rw [← hcode]; exact h
                · rcases hme with h | h
                  · rcases hend with h' | h'
                    · exact .inl (by omega)
                    · right; rw [h, h'.2]; decide
                  · right; rw [← hcode]; exact h.2
              · left
                exact beq_eq_false_iff_ne.2 hcode
  exact main n 0 (by omega) (.inl rfl) ⟨[], by simp, fun ms' => by simp⟩

theorem marks_ok {K M : Nat → Int} (hc : CodeIn K M) (hK : ∀ i, K i = 0 ∨ K i = 1 ∨ K i = 2) : markedB (blocksTo K M 65536) (marksTo K 65536) = true := by
  refine scan_ind (K := K) (P := fun a => markedB (blocksTo K M a) (marksTo K a) = true) rfl ?_ ?_
  · intro a ha h hz
    rw [blocks_free K M a hz, marks_free K a hz]; exact h
  · intro a n hle hn h hb hall hend
    obtain ⟨ms, h1, h2⟩ := marks_block hc hK a n hle hn hb hall hend
    rw [blocks_run K M a n hn hb hall hend, h1]
    exact markedB_snoc _ ms h2 _ _ h

/-- Labels in their order may be. -/
theorem labels_ok : ∀ (l : List (ByteArray × Int)) (seen : List ByteArray) (prev : Option (ByteArray × Int)), (∀ p ∈ l, isName p.1 = true ∧ 0 ≤ p.2 ∧ p.2 < 65536) → (l.map Prod.fst).Nodup → (∀ p ∈ l, p.1 ∉ seen) →
    l.Pairwise (fun q p => labCmp q p ≤ 0) → (∀ q, prev = some q → ∀ p ∈ l, labCmp q p ≤ 0) → labelsB seen prev l = true
  | [], _, _, _, _, _, _, _ => rfl
  | p :: l, seen, prev, h1, h2, h3, h4, h5 => by
    unfold labelsB
    rw [List.map_cons, List.nodup_cons] at h2
    rw [List.pairwise_cons] at h4
    have hok : labelOk seen prev p = true := by
      obtain ⟨a, b, c⟩ := h1 p (List.mem_cons_self ..)
      have d := h3 p (List.mem_cons_self ..)
      unfold labelOk
      rw [a, decide_eq_true b, decide_eq_true c]
      rw [seenL_none d]
      cases prev with
      | none => rfl
      | some q => simpa using h5 q rfl p (List.mem_cons_self ..)
    rw [if_pos hok]
    refine labels_ok l _ _ (fun q hq => h1 q (List.mem_cons_of_mem _ hq)) h2.2 ?_ h4.2 ?_
    · intro q hq hm
      rcases List.mem_cons.1 hm with e | hm
      · exact h2.1 (by rw [← e]; exact List.mem_map.2 ⟨q, hq, rfl⟩)
      · exact h3 q (List.mem_cons_of_mem _ hq) hm
    · intro q e r hr
      cases e
      exact h4.1 r hr
end Go.Proofs.YtpjdkdphklgfjaaDoor

/- A source that is taken, in plain Lean: which bytes lie where. -/
import Derived.Test.YtpjdkdphklgfjaaDoorFill3
import Derived.Test.YtpjdkdphklgfjaaDoorObj2b
namespace Go.Proofs.YtpjdkdphklgfjaaDoor
set_option linter.unusedVariables false
set_option linter.unusedSimpArgs false

/-- Does an item that lies at a place have the address? -/
def inside (q : Item × Int) (a : Nat) : Prop := q.2.toNat ≤ a ∧ a < q.2.toNat + q.1.size.toNat
instance (q : Item × Int) (a : Nat) : Decidable (inside q a) := inferInstanceAs (Decidable (_ ∧ _))
def labelOf (q : Item × Int) : Option (ByteArray × Int) := if q.1.kind = 1 then some (q.1.name, q.2) else none
structure Laid (Z : List (Item × Int)) (s : LayS) : Prop where
  kind : ∀ q ∈ Z, ∀ a, inside q a → s.K a = kindOf q.1
  fits : ∀ q ∈ Z, 0 < q.1.size → q.2 + q.1.size ≤ 65536
  cover : ∀ a, s.K a ≠ 0 → ∃ q ∈ Z, inside q a
  apart : Z.Pairwise fun q r => ∀ a, ¬ (inside q a ∧ inside r a)
  pos : ∀ q ∈ Z, 0 ≤ q.2
  labs : s.labs = (Z.filterMap labelOf).reverse

theorem takenK_false {K : Nat → Int} {p : Nat} : ∀ {n : Nat}, takenK K p n = false → ∀ a, p ≤ a → a < p + n → K a = 0
  | 0, _, a, h1, h2 => by omega
  | n + 1, h, a, h1, h2 => by
    unfold takenK at h
    rw [Bool.or_eq_false_iff] at h
    rcases Nat.lt_or_ge a (p + n) with h3 | h3
    · exact takenK_false h.1 a h1 h3
    · obtain rfl : a = p + n := by omega
      simpa using h.2
theorem kindOf_ne (x : Item) : kindOf x ≠ 0 := by unfold kindOf; split <;> decide
theorem Laid.nil : Laid [] lay0 := ⟨by simp, by simp, by simp [lay0], by simp, by simp, by simp [lay0]⟩
theorem Laid.step {Z : List (Item × Int)} {s s' : LayS} {x : Item} (h : Laid Z s) (hok : s.ok) (hm : x.may = true) (hs : layStep s x = .inr s') : Laid (Z ++ [(x, s.place)]) s' := by
  have hz := Item.size_range hm
  have hp0 := hok.place0
  unfold layStep at hs
  by_cases h4 : x.kind = 4
  · rw [if_pos h4] at hs
    cases hs
    have hsz : x.size = 0 := by unfold Item.size sizeB; rw [if_neg (by omega), if_neg (by omega), if_neg (by omega)]
    have hin : ∀ a, ¬ inside (x, s.place) a := by intro a ⟨h1, h2⟩; simp only [hsz] at h2; simp at h1 h2; omega
    refine ⟨?_, ?_, ?_, ?_, ?_, ?_⟩
    · intro q hq a ha
      rcases List.mem_append.1 hq with hq | hq
      · exact h.kind q hq a ha
      · rw [List.mem_singleton] at hq; subst hq; exact absurd ha (hin a)
    · intro q hq hp
      rcases List.mem_append.1 hq with hq | hq
      · exact h.fits q hq hp
      · rw [List.mem_singleton] at hq; subst hq; simp [hsz] at hp
    · intro a ha
      obtain ⟨q, hq, hi⟩ := h.cover a ha
      exact ⟨q, List.mem_append_left _ hq, hi⟩
    · rw [List.pairwise_append]
      refine ⟨h.apart, by simp, ?_⟩
      intro q _ r hr a hb
      rw [List.mem_singleton] at hr; subst hr
      exact hin a hb.2
    · intro q hq
      rcases List.mem_append.1 hq with hq | hq
      · exact h.pos q hq
      · rw [List.mem_singleton] at hq; subst hq; exact hp0
    · show s.labs = _
      rw [h.labs, List.filterMap_append]
      have : labelOf (x, s.place) = none := by unfold labelOf; rw [if_neg (by simp; omega)]
      simp [this]
  · rw [if_neg h4] at hs
    split at hs
    · cases hs
    · split at hs
      · cases hs
      · split at hs
        · cases hs
        · rename_i h3
          split at hs
          · cases hs
          · rename_i h5
            cases hs
            have hfree := takenK_false (by simpa using h5 : takenK s.K s.place.toNat x.size.toNat = false)
            refine ⟨?_, ?_, ?_, ?_, ?_, ?_⟩
            · intro q hq a ha
              show setK s.K s.place.toNat x.size.toNat (kindOf x) a = _
              unfold setK
              rcases List.mem_append.1 hq with hq | hq
              · rw [if_neg, h.kind q hq a ha]
                rintro ⟨h6, h7⟩
                have := hfree a h6 h7
                rw [h.kind q hq a ha] at this
                exact kindOf_ne _ this
              · rw [List.mem_singleton] at hq; subst hq
                rw [if_pos (show s.place.toNat ≤ a ∧ a < s.place.toNat + x.size.toNat from ha)]
            · intro q hq hp
              rcases List.mem_append.1 hq with hq | hq
              · exact h.fits q hq hp
              · rw [List.mem_singleton] at hq; subst hq
                show s.place + x.size ≤ 65536
                have hp' : 0 < x.size := hp
                omega
            · intro a ha
              change setK s.K s.place.toNat x.size.toNat (kindOf x) a ≠ 0 at ha
              unfold setK at ha
              by_cases hi : s.place.toNat ≤ a ∧ a < s.place.toNat + x.size.toNat
              · exact ⟨(x, s.place), by simp, hi⟩
              · rw [if_neg hi] at ha
                obtain ⟨q, hq, hi⟩ := h.cover a ha
                exact ⟨q, List.mem_append_left _ hq, hi⟩
            · rw [List.pairwise_append]
              refine ⟨h.apart, by simp, ?_⟩
              intro q hq r hr a hb
              rw [List.mem_singleton] at hr; subst hr
              have := hfree a hb.2.1 hb.2.2
              rw [h.kind q hq a hb.1] at this
              exact kindOf_ne _ this
            · intro q hq
              rcases List.mem_append.1 hq with hq | hq
              · exact h.pos q hq
              · rw [List.mem_singleton] at hq; subst hq; exact hp0
            · show labsOf s x = _
              rw [List.filterMap_append, List.reverse_append, ← h.labs]
              unfold labsOf
              by_cases h1 : x.kind = 1
              · rw [if_pos h1]; simp [labelOf, h1]
              · rw [if_neg h1]; simp [labelOf, h1]
theorem layFrom_laid : ∀ (l : List Item) (Z : List (Item × Int)) (s : LayS) (i : Int) (s' : LayS), layFrom l s i = .inr s' → (∀ x ∈ l, x.may = true) → s.ok → Laid Z s →
    ∃ ps, s'.ats = s.ats ++ ps ∧ ps.length = l.length ∧ Laid (Z ++ l.zip ps) s'
  | [], Z, s, i, s', h, _, _, hl => by cases h; exact ⟨[], by simp, rfl, by simpa using hl⟩
  | x :: l, Z, s, i, s', h, hm, hok, hl => by
    unfold layFrom at h
    cases hs : layStep s x with
    | inl e => rw [hs] at h; cases h
    | inr s1 =>
      rw [hs] at h
      obtain ⟨ps, h1, h2, h3⟩ := layFrom_laid l _ s1 (i + 1) s' h (fun y hy => hm y (List.mem_cons_of_mem _ hy)) (hok.step (hm x (List.mem_cons_self ..)) hs) (hl.step hok (hm x (List.mem_cons_self ..)) hs)
      refine ⟨s.place :: ps, ?_, by simp [h2], ?_⟩
      · rw [h1, ats_step hs]; simp
      · simpa using h3
theorem laid_of {l : List Item} {s : LayS} (h : layFrom l lay0 0 = .inr s) (hm : ∀ x ∈ l, x.may = true) : Laid (l.zip s.ats) s := by
  obtain ⟨ps, h1, h2, h3⟩ := layFrom_laid l [] lay0 0 s h hm ok0 Laid.nil
  rw [h1]
  simpa [lay0] using h3

/-- How many bytes an op has. -/
theorem opBytes_length (f op arg : Int) (h1 : 1 ≤ f) (h2 : f ≤ 6) : ((opBytes f op arg).length : Int) = lenI f := by
  have : f = 1 ∨ f = 2 ∨ f = 3 ∨ f = 4 ∨ f = 5 ∨ f = 6 := by omega
  rcases this with rfl | rfl | rfl | rfl | rfl | rfl <;> rfl
theorem encI_ok {s : ByteArray} {arg : Int} (h : (encI s arg).2 = 0) : 0 ≤ firstI s ∧ lowI (formI (firstI s)) (firstI s) ≤ arg ∧ arg ≤ highI (formI (firstI s)) ∧ encI s arg = (opBytes (formI (firstI s)) (firstI s) arg, 0) := by
  unfold encI at h ⊢
  by_cases h1 : firstI s < 0
  · rw [if_pos h1] at h; cases h
  · rw [if_neg h1] at h ⊢
    by_cases h2 : arg < lowI (formI (firstI s)) (firstI s) ∨ highI (formI (firstI s)) < arg
    · rw [if_pos h2] at h; cases h
    · rw [if_neg h2]
      exact ⟨by omega, by omega, by omega, rfl⟩
theorem encI_length {s : ByteArray} {arg : Int} (h : (encI s arg).2 = 0) : ((encI s arg).1.length : Int) = lenI (formI (firstI s)) := by
  obtain ⟨_, _, _, e⟩ := encI_ok h
  rw [e]
  exact opBytes_length _ _ _ (formI_range _).1 (formI_range _).2
theorem ordBytes_ok {name : ByteArray} {arg part p a : Int} (h : (ordBytes name arg part p a).2 = 0) : ∃ arg', ordBytes name arg part p a = encI name arg' ∧ (encI name arg').2 = 0 := by
  unfold ordBytes at h ⊢
  by_cases hp : part = 0
  · rw [if_pos hp] at h ⊢; exact ⟨arg, rfl, h⟩
  · rw [if_neg hp] at h ⊢
    by_cases hc : formI (firstI name) = 5 ∧ a / 256 ≠ (p + 1) / 256
    · rw [if_pos hc] at h; cases h
    · rw [if_neg hc] at h ⊢; exact ⟨_, rfl, h⟩
theorem layBytes_length {x : Item} {p a : Int} (h : (layBytes x p a).2 = 0) : ((layBytes x p a).1.length : Int) = x.size := by
  unfold layBytes at h ⊢
  unfold Item.size sizeB
  by_cases h2 : x.kind = 2
  · rw [if_pos h2] at h ⊢
    rw [if_pos h2]
    obtain ⟨arg', e, h'⟩ := ordBytes_ok h
    rw [e, encI_length h']
  · rw [if_neg h2] at h ⊢
    rw [if_neg h2]
    by_cases h3 : x.kind = 3
    · rw [if_pos h3, if_pos h3]
    · rw [if_neg h3, if_neg h3]
      by_cases h5 : x.kind = 5
      · rw [if_pos h5, if_pos h5]; rfl
      · rw [if_neg h5, if_neg h5]; rfl

/-- What the second pass has come to. -/
theorem fillFrom_bytes (labs : List (ByteArray × Int)) : ∀ (l : List Item) (ps : List Int) (M0 M : Nat → Int) (i : Int), fillFrom labs l ps M0 i = .inr M → ps.length = l.length →
    (l.zip ps).Pairwise (fun q r => ∀ a, ¬ (inside q a ∧ inside r a)) →
    (∀ q ∈ l.zip ps, ∃ a, wantI labs q.1 = some a ∧ (layBytes q.1 q.2 a).2 = 0 ∧ ∀ b, inside q b → M b = (layBytes q.1 q.2 a).1.getD (b - q.2.toNat) 0) ∧ (∀ b, (∀ q ∈ l.zip ps, ¬ inside q b) → M b = M0 b)
  | [], ps, M0, M, i, h, _, _ => by simp [fillFrom] at h; subst h; simp
  | x :: l, [], M0, M, i, _, hl, _ => by simp at hl
  | x :: l, p :: ps, M0, M, i, h, hl, hap => by
    unfold fillFrom at h
    cases hs : fillStep labs x p M0 with
    | inl e => rw [hs] at h; cases h
    | inr M1 =>
      rw [hs] at h
      rw [List.zip_cons_cons, List.pairwise_cons] at hap
      obtain ⟨h1, h2⟩ := fillFrom_bytes labs l ps M1 M (i + 1) h (by simpa using hl) hap.2
      unfold fillStep at hs
      cases hw : wantI labs x with
      | none => rw [hw] at hs; cases hs
      | some a =>
        rw [hw] at hs
        simp only at hs
        split at hs
        · rename_i h0
          cases hs
          have hlen := layBytes_length h0
          have hM1 : ∀ b, setM M0 p.toNat (layBytes x p a).1 b = if inside (x, p) b then (layBytes x p a).1.getD (b - p.toNat) 0 else M0 b := by
            intro b
            unfold setM inside
            have e : (layBytes x p a).1.length = x.size.toNat := by omega
            rw [e]
            rfl
          constructor
          · intro q hq
            rw [List.zip_cons_cons] at hq
            rcases List.mem_cons.1 hq with rfl | hq
            · refine ⟨a, hw, h0, fun b hb => ?_⟩
              rw [h2 b (fun r hr hin => hap.1 r hr b ⟨hb, hin⟩), hM1, if_pos hb]
            · exact h1 q hq
          · intro b hb
            rw [List.zip_cons_cons] at hb
            rw [h2 b (fun q hq => hb q (List.mem_cons_of_mem _ hq)), hM1, if_neg (hb _ (List.mem_cons_self ..))]
        · cases hs
end Go.Proofs.YtpjdkdphklgfjaaDoor

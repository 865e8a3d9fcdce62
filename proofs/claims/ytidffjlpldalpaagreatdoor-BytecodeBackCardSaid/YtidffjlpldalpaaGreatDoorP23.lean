/- Numbers and literals: what is written is read, and what is read was so written. -/
import Derived.Test.YtidffjlpldalpaaGreatDoorP22
import Derived.Lib.ItoaMem
set_option linter.unusedVariables false
set_option linter.unusedSimpArgs false
namespace Go.Proofs.YtidffjlpldalpaaGreatDoor
open Go Go.RowKit

theorem valU_snoc (l : List UInt8) (c : UInt8) : valU (l ++ [c]) = valU l * 10 + (c.toNat - 48) := by simp [valU]
theorem dig_nat {d : Nat} (h : d < 10) : (UInt8.ofNat (48 + d)).toNat = 48 + d := by
  rw [UInt8.toNat_ofNat']; omega
theorem dec_all : ∀ u : Nat, (Lib.decDigits u).all digU = true := fun u => by
  induction u using Nat.strongRecOn with
  | ind u ih =>
    rw [Lib.decDigits]
    by_cases h : u < 10
    · rw [dif_pos h]
      simp only [List.all_cons, List.all_nil, Bool.and_true, digU, dig_nat h, Bool.and_eq_true, decide_eq_true_eq]
      omega
    · rw [dif_neg h, List.all_append, ih (u / 10) (by omega)]
      simp only [List.all_cons, List.all_nil, Bool.and_true, Bool.true_and, digU, dig_nat (Nat.mod_lt u (by decide : 0 < 10)), Bool.and_eq_true, decide_eq_true_eq]
      omega
theorem dec_ne (u : Nat) : Lib.decDigits u ≠ [] := by
  rw [Lib.decDigits]
  by_cases h : u < 10
  · rw [dif_pos h]; simp
  · rw [dif_neg h]; simp
theorem dec_val : ∀ u : Nat, valU (Lib.decDigits u) = u := fun u => by
  induction u using Nat.strongRecOn with
  | ind u ih =>
    rw [Lib.decDigits]
    by_cases h : u < 10
    · rw [dif_pos h]
      show 0 * 10 + ((UInt8.ofNat (48 + u)).toNat - 48) = u
      rw [dig_nat h]; omega
    · rw [dif_neg h, valU_snoc, ih (u / 10) (by omega), dig_nat (Nat.mod_lt u (by decide : 0 < 10))]
      omega
theorem head_snoc {l : List UInt8} (h : l ≠ []) (c : UInt8) : (l ++ [c]).headD 0 = l.headD 0 := by
  cases l with
  | nil => exact absurd rfl h
  | cons _ _ => rfl
theorem dec_head : ∀ u : Nat, 0 < u → (Lib.decDigits u).headD 0 ≠ 48 := fun u => by
  induction u using Nat.strongRecOn with
  | ind u ih =>
    intro h0
    rw [Lib.decDigits]
    by_cases h : u < 10
    · rw [dif_pos h]
      intro e
      have e2 : (UInt8.ofNat (48 + u)).toNat = (48 : UInt8).toNat := congrArg UInt8.toNat e
      rw [dig_nat h] at e2
      have : (48 : UInt8).toNat = 48 := rfl
      omega
    · rw [dif_neg h, head_snoc (dec_ne _)]
      exact ih (u / 10) (by omega) (by omega)
theorem nat_dec {u : Nat} (h : u ≤ 4503599627370496) : natU (Lib.decDigits u) = some u := by
  unfold natU
  rw [if_neg (dec_ne u), if_neg (by rw [dec_all]; decide), dec_val, if_neg, if_pos h]
  rintro ⟨h1, h2⟩
  by_cases h0 : u < 10
  · rw [Lib.decDigits_one h0] at h1; simp at h1
  · exact dec_head u (by omega) h2
theorem natU_inv {l : List UInt8} {u : Nat} (h : natU l = some u) : l ≠ [] ∧ l.all digU = true ∧ ¬ (1 < l.length ∧ l.headD 0 = 48) ∧ valU l = u ∧ u ≤ 4503599627370496 := by
  unfold natU at h
  by_cases h1 : l = []
  · rw [if_pos h1] at h; cases h
  · rw [if_neg h1] at h
    by_cases h2 : l.all digU = false
    · rw [if_pos h2] at h; cases h
    · rw [if_neg h2] at h
      by_cases h3 : 1 < l.length ∧ l.headD 0 = 48
      · rw [if_pos h3] at h; cases h
      · rw [if_neg h3] at h
        by_cases h4 : valU l ≤ 4503599627370496
        · rw [if_pos h4] at h
          have e := Option.some.inj h
          exact ⟨h1, by simpa using h2, h3, e, by omega⟩
        · rw [if_neg h4] at h; cases h
theorem val_pos : ∀ (l : List UInt8), l ≠ [] → l.all digU = true → l.headD 0 ≠ 48 → 0 < valU l := fun l => by
  induction hn : l.length using Nat.strongRecOn generalizing l with
  | ind n ih =>
    intro h0 h1 h2
    rcases List.eq_nil_or_concat l with e | ⟨r, c, rfl⟩
    · exact absurd e h0
    · rw [List.concat_eq_append] at *
      rw [valU_snoc]
      by_cases hr : r = []
      · subst hr
        simp only [List.nil_append, List.all_cons, List.all_nil, Bool.and_true, digU, Bool.and_eq_true, decide_eq_true_eq, List.headD_cons] at h1 h2
        have : c.toNat ≠ 48 := fun e => h2 (by apply UInt8.toNat.inj; exact e)
        omega
      · rw [List.all_append, Bool.and_eq_true] at h1
        rw [head_snoc hr] at h2
        have := ih r.length (by rw [← hn]; simp) r rfl hr h1.1 h2
        omega
theorem dec_of : ∀ (l : List UInt8), l ≠ [] → l.all digU = true → ¬ (1 < l.length ∧ l.headD 0 = 48) → l = Lib.decDigits (valU l) := fun l => by
  induction hn : l.length using Nat.strongRecOn generalizing l with
  | ind n ih =>
    intro h0 h1 h2
    rcases List.eq_nil_or_concat l with e | ⟨r, c, rfl⟩
    · exact absurd e h0
    · rw [List.concat_eq_append] at *
      rw [List.all_append, Bool.and_eq_true] at h1
      have hc := h1.2
      simp only [List.all_cons, List.all_nil, Bool.and_true, digU, Bool.and_eq_true, decide_eq_true_eq] at hc
      rw [valU_snoc]
      by_cases hr : r = []
      · subst hr
        have e : valU ([] : List UInt8) * 10 + (c.toNat - 48) = c.toNat - 48 := by simp [valU]
        rw [e, Lib.decDigits_one (by omega), List.nil_append]
        congr 1
        apply UInt8.toNat.inj
        rw [dig_nat (by omega)]; omega
      · have h3 : r.headD 0 ≠ 48 := fun e => h2 ⟨by have := List.length_pos_iff.2 hr; rw [← hn, List.length_append, List.length_singleton]; omega, by rw [head_snoc hr]; exact e⟩
        have hp := val_pos r hr h1.1 h3
        have e := ih r.length (by rw [← hn]; simp) r rfl hr h1.1 (fun h => h3 h.2)
        rw [Lib.decDigits, dif_neg (by omega), show (valU r * 10 + (c.toNat - 48)) / 10 = valU r by omega, ← e]
        congr 2
        apply UInt8.toNat.inj
        rw [dig_nat (Nat.mod_lt _ (by decide : 0 < 10))]; omega
theorem int_itoa {n : Int} (h1 : -4503599627370496 ≤ n) (h2 : n ≤ 4503599627370496) : intU (Lib.itoa n) = some n := by
  unfold Lib.itoa
  by_cases h : n < 0
  · rw [if_pos h]
    show (match natU (Lib.decDigits n.natAbs) with | some m => if m = 0 then none else some (-(m : Int)) | none => none) = some n
    rw [nat_dec (by omega)]
    simp only
    rw [if_neg (by omega)]
    congr 1; omega
  · rw [if_neg h]
    have hne := dec_ne n.toNat
    have ha := dec_all n.toNat
    have hd := nat_dec (u := n.toNat) (by omega)
    cases hl : Lib.decDigits n.toNat with
    | nil => exact absurd hl hne
    | cons c r =>
      rw [hl] at hd ha
      have hc : c ≠ 45 := fun e => by subst e; simp [digU] at ha
      show (if c = 45 then _ else _) = _
      rw [if_neg hc, hd]
      show some ((n.toNat : Nat) : Int) = some n
      congr 1; omega
theorem itoa_of {l : List UInt8} {n : Int} (h : intU l = some n) : l = Lib.itoa n ∧ -4503599627370496 ≤ n ∧ n ≤ 4503599627370496 := by
  cases l with
  | nil => cases h
  | cons c r =>
    replace h : (if c = 45 then (match natU r with | some n => if n = 0 then none else some (-(n : Int)) | none => none) else (match natU (c :: r) with | some n => some (n : Int) | none => none)) = some n := h
    by_cases hc : c = 45
    · rw [if_pos hc] at h
      subst hc
      cases hn : natU r with
      | none => rw [hn] at h; cases h
      | some m =>
        rw [hn] at h
        simp only at h
        by_cases h0 : m = 0
        · rw [if_pos h0] at h; cases h
        · rw [if_neg h0] at h
          have e := Option.some.inj h
          obtain ⟨a1, a2, a3, a4, a5⟩ := natU_inv hn
          refine ⟨?_, by omega, by omega⟩
          unfold Lib.itoa
          rw [if_pos (by omega), show n.natAbs = m by omega, ← a4, ← dec_of r a1 a2 a3]
    · rw [if_neg hc] at h
      cases hn : natU (c :: r) with
      | none => rw [hn] at h; cases h
      | some m =>
        rw [hn] at h
        have e : (m : Int) = n := Option.some.inj h
        obtain ⟨a1, a2, a3, a4, a5⟩ := natU_inv hn
        refine ⟨?_, by omega, by omega⟩
        unfold Lib.itoa
        rw [if_neg (by omega), show n.toNat = m by omega, ← a4, ← dec_of _ a1 a2 a3]
end Go.Proofs.YtidffjlpldalpaaGreatDoor

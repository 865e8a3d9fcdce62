/- BytecodeFlow: the plain law; the look at the targets. -/
import Derived.Test.YtbcbjefonkbjnaaDoorBc23
import Derived.Test.YtbcbjefonkbjnaaDoorBc20
namespace Go.Proofs.YtbcbjefonkbjnaaDoor
open Go Go.RowKit

theorem outB_false (n : Nat) (k : Int) : outB n k = false ↔ 0 ≤ k ∧ k ≤ (n : Int) - 1 := by simp [outB, inB]
theorem any_of_out (n : Nat) (l : List Int) : l.any (outB n) = false ↔ ∀ k ∈ l, 0 ≤ k ∧ k ≤ (n : Int) - 1 := by
  rw [List.any_eq_false]
  exact forall_congr' fun k => imp_congr_right fun _ => by rw [Bool.not_eq_true, outB_false]
theorem flow_law (nt : Nat) (fs : List FunD) (c l : Int) (code : List Ins) (k : Nat) (hk : k < code.length) (hfc : ∀ f ∈ fs, headB f = true) (h : rightB nt fs c l code k = true) :
    (effT (code.getD k default).op (code.getD k default).a (code.getD k default).b).2.2 = 0 ∧ (effT (code.getD k default).op (code.getD k default).a (code.getD k default).b).2.1 ≤ 1 ∧
      ((tgT code k = ([], 24) ∧ k + 1 = code.length) ∨ ∃ tl, tgT code k = (tl, 0) ∧ (tl.length = 0 ↔ ((code.getD k default).op = 9 ∨ (code.getD k default).op = 16)) ∧ tl.any (outB code.length) = false ∧ tl.length ≤ 100000) := by
  have hlen := tgT_len code k
  have htg : tgT code k = (let i := code.getD k default
      if knownB i.op = false then ([], 2) else if i.op = 13 ∧ inB i.b 1 1000 = false then ([], 24) else if (tgL i k).any (outB code.length) then ([], 24) else (tgL i k, 0)) := by
    unfold tgT; rw [if_neg (by omega)]; simp only [Int.toNat_natCast]
  unfold rightB at h
  generalize code.getD k default = i at h htg ⊢
  obtain ⟨op, a, b⟩ := i
  by_cases hkn : knownB op = false
  · simp [rightI, hkn] at h
  · have hkn' : knownB op = true := by simpa using hkn
    have hop : 1 ≤ op ∧ op ≤ 16 := by simpa [knownB, inB] using hkn'
    have hfb : inB a 0 ((fs.length : Int) - 1) = true → 0 ≤ (fs.getD a.toNat default).c ∧ (fs.getD a.toNat default).c ≤ 1000 := fun ha => by
      have ha' : 0 ≤ a ∧ a ≤ (fs.length : Int) - 1 := by simpa [inB] using ha
      have := hfc _ (getD_mem default fs a.toNat (by omega))
      simp only [headB, inB, Bool.and_eq_true, decide_eq_true_eq] at this
      exact this.1
    simp only [hkn] at htg
    simp only [rightI, hkn] at h
    show (effT op a b).2.2 = 0 ∧ (effT op a b).2.1 ≤ 1 ∧ ((tgT code k = ([], 24) ∧ k + 1 = code.length) ∨ ∃ tl, tgT code k = (tl, 0) ∧ (tl.length = 0 ↔ (op = 9 ∨ op = 16)) ∧ tl.any (outB code.length) = false ∧ tl.length ≤ 100000)
    -- where it goes
    have hgo : ∀ L : List Int, tgL ⟨op, a, b⟩ k = L → ¬ (op = 13 ∧ inB b 1 1000 = false) → (L.length = 0 ↔ (op = 9 ∨ op = 16)) → (L.any (outB code.length) = true → k + 1 = code.length) →
        ((tgT code k = ([], 24) ∧ k + 1 = code.length) ∨ ∃ tl, tgT code k = (tl, 0) ∧ (tl.length = 0 ↔ (op = 9 ∨ op = 16)) ∧ tl.any (outB code.length) = false ∧ tl.length ≤ 100000) := fun L hL h13 h1 h2 => by
      simp only [h13, if_false, hL] at htg
      cases ho : L.any (outB code.length)
      · right
        rw [ho] at htg
        simp only [Bool.false_eq_true, if_false] at htg
        rw [htg] at hlen
        exact ⟨L, htg, h1, ho, hlen⟩
      · left
        rw [ho] at htg
        simp only [if_true] at htg
        exact ⟨htg, h2 ho⟩
    have one : ∀ z : Int, ¬ (op = 9 ∨ op = 16) → (z = (k : Int) + 1 ∨ (0 ≤ z ∧ z ≤ (code.length : Int) - 1)) → ([z].length = 0 ↔ (op = 9 ∨ op = 16)) ∧ ([z].any (outB code.length) = true → k + 1 = code.length) := fun z h9 hz => by
      refine ⟨by simp [h9], fun ha => ?_⟩
      simp only [List.any_cons, List.any_nil, Bool.or_false] at ha
      rcases hz with rfl | hz
      · have : ¬ (0 ≤ (k : Int) + 1 ∧ (k : Int) + 1 ≤ (code.length : Int) - 1) := fun e => by rw [(outB_false _ _).2 e] at ha; cases ha
        omega
      · rw [(outB_false _ _).2 hz] at ha; cases ha
    have none : (op = 9 ∨ op = 16) → (([] : List Int).length = 0 ↔ (op = 9 ∨ op = 16)) ∧ (([] : List Int).any (outB code.length) = true → k + 1 = code.length) := fun h9 => ⟨by simp [h9], fun ha => by simp at ha⟩
    rcases op_cases op with rfl | rfl | rfl | rfl | rfl | rfl | rfl | rfl | rfl | rfl | rfl | rfl | rfl | rfl | rfl | rfl | hno
    rotate_left 16
    · exfalso; omega
    · exact ⟨by simp [effT], by simp [effT], hgo _ (by simp [tgL]) (by simp) (one _ (by simp) (.inl rfl)).1 (one _ (by simp) (.inl rfl)).2⟩
    · exact ⟨by simp [effT], by simp [effT], hgo _ (by simp [tgL]) (by simp) (one _ (by simp) (.inl rfl)).1 (one _ (by simp) (.inl rfl)).2⟩
    · exact ⟨by simp [effT], by simp [effT], hgo _ (by simp [tgL]) (by simp) (one _ (by simp) (.inl rfl)).1 (one _ (by simp) (.inl rfl)).2⟩
    · exact ⟨by simp [effT], by simp [effT], hgo _ (by simp [tgL]) (by simp) (one _ (by simp) (.inl rfl)).1 (one _ (by simp) (.inl rfl)).2⟩
    · exact ⟨by simp [effT], by simp [effT], hgo _ (by simp [tgL]) (by simp) (one _ (by simp) (.inl rfl)).1 (one _ (by simp) (.inl rfl)).2⟩
    · exact ⟨by simp [effT], by simp [effT], hgo _ (by simp [tgL]) (by simp) (one _ (by simp) (.inl rfl)).1 (one _ (by simp) (.inl rfl)).2⟩
    · have h' : (inB a 0 ((fs.length : Int) - 1) && decide (b = (fs.getD a.toNat default).c)) = true := by simpa [opnds] using h
      rw [Bool.and_eq_true] at h'
      have hb0 := of_decide_eq_true h'.2
      have hb1 := hfb h'.1
      rw [← hb0] at hb1
      have hb : inB b 0 1000 = true := by unfold inB; simp [hb1]
      exact ⟨by simp [effT, hb], by simp [effT, hb], hgo _ (by simp [tgL]) (by simp) (one _ (by simp) (.inl rfl)).1 (one _ (by simp) (.inl rfl)).2⟩
    · exact ⟨by simp [effT], by simp [effT], hgo _ (by simp [tgL]) (by simp) (one _ (by simp) (.inl rfl)).1 (one _ (by simp) (.inl rfl)).2⟩
    · exact ⟨by simp [effT], by simp [effT], hgo _ (by simp [tgL]) (by simp) (none (by simp)).1 (none (by simp)).2⟩
    · have hb : inB a 0 1000 = true := by
        simp [opnds] at h
        exact h.2
      exact ⟨by simp [effT, hb], by simp [effT, hb], hgo _ (by simp [tgL]) (by simp) (one _ (by simp) (.inl rfl)).1 (one _ (by simp) (.inl rfl)).2⟩
    · exact ⟨by simp [effT], by simp [effT], hgo _ (by simp [tgL]) (by simp) (one _ (by simp) (.inl rfl)).1 (one _ (by simp) (.inl rfl)).2⟩
    · exact ⟨by simp [effT], by simp [effT], hgo _ (by simp [tgL]) (by simp) (one _ (by simp) (.inl rfl)).1 (one _ (by simp) (.inl rfl)).2⟩
    · -- switch
      simp [opnds, inB] at h
      refine ⟨by simp [effT], by simp [effT], hgo ((List.range b.toNat).map (fun (j : Nat) => (k : Int) + 1 + j)) (by simp [tgL]) (by simp [inB]; omega) ⟨fun e => ?_, fun e => ?_⟩ fun ha => ?_⟩
      · simp at e; omega
      · omega
      · exfalso
        have : ((List.range b.toNat).map (fun (j : Nat) => (k : Int) + 1 + j)).any (outB code.length) = false := by
          rw [any_of_out]
          intro z hz
          obtain ⟨j, hj, rfl⟩ := List.mem_map.1 hz
          have := List.mem_range.1 hj
          omega
        rw [this] at ha; cases ha
    · -- jump
      simp [opnds, inB] at h
      refine ⟨by simp [effT], by simp [effT], hgo [a] (by simp [tgL]) (by simp) (one a (by simp) (.inr (by omega))).1 (one a (by simp) (.inr (by omega))).2⟩
    · have hb : inB a 1 14 = true := by
        simp [opnds] at h
        exact h.2
      exact ⟨by simp [effT, hb], by simp [effT, hb], hgo _ (by simp [tgL]) (by simp) (one _ (by simp) (.inl rfl)).1 (one _ (by simp) (.inl rfl)).2⟩
    · exact ⟨by simp [effT], by simp [effT], hgo _ (by simp [tgL]) (by simp) (none (by simp)).1 (none (by simp)).2⟩
end Go.Proofs.YtbcbjefonkbjnaaDoor

/- Programs, texts, and codes belong together: the plain law. -/
import Derived.Test.YtidffjlpldalpaaGreatDoorP28
import Derived.Test.YtidffjlpldalpaaGreatDoorP33
set_option linter.unusedVariables false
set_option linter.unusedSimpArgs false
namespace Go.Proofs.YtidffjlpldalpaaGreatDoor
open Go Go.RowKit

theorem right_good {nt : Nat} {fs : List FunD} {c l : Int} {code : List Ins} {k : Nat} {i : Ins} (hc : c ≤ 1000) (hl : l ≤ 4096) (hcode : code.length ≤ 16384) (hnt : nt ≤ 1000) (hfs : fs.length ≤ 4096) (hfc : ∀ f ∈ fs, headB f = true) (h : rightI nt fs c l code k i = true) : InsOk i := by
  obtain ⟨op, a, b⟩ := i
  by_cases hkn : knownB op = false
  · simp [rightI, hkn] at h
  · have hkn' : knownB op = true := by simpa using hkn
    have hop : 1 ≤ op ∧ op ≤ 16 := by simpa [knownB, inB] using hkn'
    have hfb : inB a 0 ((fs.length : Int) - 1) = true → (fs.getD a.toNat default).c ≤ 1000 ∧ 0 ≤ (fs.getD a.toNat default).c := fun ha => by
      have ha' : 0 ≤ a ∧ a ≤ (fs.length : Int) - 1 := by simpa [inB] using ha
      have := hfc _ (getD_mem default fs a.toNat (by omega))
      simp only [headB, inB, Bool.and_eq_true, decide_eq_true_eq] at this
      exact ⟨this.1.2, this.1.1⟩
    have ht : tightI ⟨op, a, b⟩ := by
      unfold rightI at h
      rw [if_neg (by simp [hkn'])] at h
      by_cases h2 : opnds op < 1 ∧ a ≠ 0 ∨ opnds op < 2 ∧ b ≠ 0
      · rw [if_pos h2] at h; cases h
      · refine ⟨fun h3 => ?_, fun h3 => ?_⟩
        · show a = 0
          exact Classical.byContradiction fun h4 => h2 (.inl ⟨h3, h4⟩)
        · show b = 0
          exact Classical.byContradiction fun h4 => h2 (.inr ⟨h3, h4⟩)
    have hab : Num52 a ∧ Num52 b := by
      unfold Num52
      simp only [rightI, hkn] at h
      rcases op_cases op with rfl | rfl | rfl | rfl | rfl | rfl | rfl | rfl | rfl | rfl | rfl | rfl | rfl | rfl | rfl | rfl | hno
      rotate_left 16
      · exfalso; omega
      all_goals
        simp [opnds, inB] at h hfb
        refine ⟨⟨?_, ?_⟩, ⟨?_, ?_⟩⟩ <;> omega
    exact ⟨hop.1, hop.2, hab.1, hab.2, ht⟩
theorem fit_52 {n : Int} : fitB n = true ↔ Num52 n := by
  unfold fitB inB Num52
  simp
theorem valid_good {p : ProgD} (h : validB p = true) : TextsOk (strip p) ∧ CodesOk (strip p) := by
  obtain ⟨h1, h2, h3, h4, h5, h6, h7⟩ := valid_parts p h
  have hq : ∀ s ∈ p.texts, quotedB s = true := by
    unfold validB at h
    simp only [Bool.and_eq_true, Bool.not_eq_true', List.any_eq_false] at h
    intro s hs
    have := h.2.2.1 s hs
    simpa [notQ] using this
  have hh : ∀ f ∈ p.funs, (0 ≤ f.c ∧ f.c ≤ 1000) ∧ (1 ≤ f.l ∧ f.l ≤ 4096) ∧ (0 ≤ f.d ∧ f.d ≤ 4096) ∧ f.code.length ≤ 16384 := fun f hf => by
    have := h4 f hf
    simp only [headB, inB, Bool.and_eq_true, decide_eq_true_eq] at this
    obtain ⟨a, b, c, d⟩ := this
    exact ⟨a, b, c, by omega⟩
  have hm : Num52 p.main := by unfold Num52; omega
  have hi : ∀ f ∈ (strip p).funs, ∀ i ∈ f.code, InsOk i := fun f hf i hi => by
    obtain ⟨g, hg, rfl⟩ := List.mem_map.1 hf
    obtain ⟨k, hk, rfl⟩ := List.mem_iff_getElem.1 hi
    have hr := h5 g hg
    unfold rightsB at hr
    have := List.all_eq_true.1 hr k (List.mem_range.2 hk)
    rw [rightB_eq] at this
    have e : g.code.getD k default = g.code[k]'hk := by simp [List.getD, show k < g.code.length from hk]; rfl
    rw [e] at this
    have hg' := hh g hg
    exact right_good hg'.1.2 hg'.2.1.2 hg'.2.2.2 h3 h1 h4 this
  have hf : ∀ f ∈ (strip p).funs, (0 ≤ f.c ∧ f.c ≤ 1000) ∧ (1 ≤ f.l ∧ f.l ≤ 4096) ∧ (0 ≤ f.d ∧ f.d ≤ 4096) ∧ f.code.length ≤ 16384 := fun f hf => by
    obtain ⟨g, hg, rfl⟩ := List.mem_map.1 hf
    exact hh g hg
  refine ⟨⟨hm, fun s hs => ?_, fun f hg => ?_, hi⟩, ⟨fit_52.2 hm, ?_, ?_, hq, fun f hg => ?_, fun f hg i hi' => ?_⟩⟩
  · have := hq s hs
    unfold quotedB at this
    simpa using this
  · have := hf f hg
    unfold Num52; omega
  · rw [fit_52]; unfold Num52; show _ ∧ ((p.texts.length : Nat) : Int) ≤ _; constructor
    · show _ ≤ ((p.texts.length : Nat) : Int); omega
    · omega
  · rw [fit_52]; unfold Num52
    have e : (strip p).funs.length = p.funs.length := by simp [strip]
    rw [e]
    constructor <;> omega
  · have := hf f hg
    refine ⟨fit_52.2 ?_, fit_52.2 ?_, fit_52.2 ?_, fit_52.2 ?_⟩ <;> (unfold Num52; omega)
  · have := hi f hg i hi'
    have h1 := this.lo; have h2 := this.hi
    exact ⟨fit_52.2 (by unfold Num52; omega), fit_52.2 this.a, fit_52.2 this.b⟩
theorem sumK_left (l r : List Int) : ∀ k, k ≤ l.length → sumK (l ++ r) k = sumK l k
  | 0, _ => rfl
  | k + 1, h => by
    rw [sumK, sumK, sumK_left l r k (by omega)]
    have : (l ++ r).getD k 0 = l.getD k 0 := by simp [List.getD, show k < l.length by omega, List.getElem?_append_left (show k < l.length by omega)]
    rw [this]
theorem sumK_range (l : List Int) : ∀ k, 0 ≤ sumK l k ∧ sumK l k < 65521
  | 0 => by show (0 : Int) ≤ 0 ∧ (0 : Int) < 65521; omega
  | k + 1 => by
    rw [sumK]
    exact ⟨Int.emod_nonneg _ (by decide), Int.emod_lt_of_pos _ (by decide)⟩
def codeS (p : ProgS) : List Int := bodyLS p ++ [sumK (bodyLS p) (bodyLS p).length / 256, sumK (bodyLS p) (bodyLS p).length % 256]
theorem encL_strip (p : ProgD) : encL p = codeS (strip p) := by unfold encL codeS; rw [bodyL_strip]
theorem dec_code {p : ProgS} (h : CodesOk p) : decT (codeS p) = chkT true p := by
  unfold decT codeS
  have hl : (bodyLS p ++ [sumK (bodyLS p) (bodyLS p).length / 256, sumK (bodyLS p) (bodyLS p).length % 256]).length = (bodyLS p).length + 2 := by simp
  rw [hl, if_neg (by omega), Nat.add_sub_cancel, sumK_left _ _ _ (Nat.le_refl _)]
  have hr := sumK_range (bodyLS p) (bodyLS p).length
  have e1 : (bodyLS p ++ [sumK (bodyLS p) (bodyLS p).length / 256, sumK (bodyLS p) (bodyLS p).length % 256]).getD (bodyLS p).length 0 = sumK (bodyLS p) (bodyLS p).length / 256 := by simp [List.getD]
  have e2 : (bodyLS p ++ [sumK (bodyLS p) (bodyLS p).length / 256, sumK (bodyLS p) (bodyLS p).length % 256]).getD ((bodyLS p).length + 1) 0 = sumK (bodyLS p) (bodyLS p).length % 256 := by
    simp [List.getD, List.getElem?_append_right]
  rw [e1, e2, if_neg (by omega), List.take_left, body_put h]
/-- A code that is decoded is the code of what was decoded. -/
theorem code_dec {b : List Int} {p : ProgS} (hb : AreBytes b) (h : decT b = (p, 0)) : validS p = true ∧ codeS p = b := by
  unfold decT at h
  by_cases h1 : b.length < 2
  · rw [if_pos h1] at h; cases h
  · rw [if_neg h1] at h
    obtain ⟨n, hn⟩ : ∃ n, b.length = n + 2 := ⟨b.length - 2, by omega⟩
    rw [show b.length - 2 = n by omega] at h
    by_cases h2 : sumK b n ≠ b.getD n 0 * 256 + b.getD (n + 1) 0
    · rw [if_pos h2] at h; cases h
    · rw [if_neg h2] at h
      have h2' : sumK b n = b.getD n 0 * 256 + b.getD (n + 1) 0 := Classical.byContradiction fun e => h2 e
      cases hp : pBody (b.take n) with
      | none => rw [hp] at h; cases h
      | some q =>
        rw [hp] at h
        replace h : chkT true q = (p, 0) := h
        unfold chkT at h
        rw [if_pos rfl] at h
        by_cases hv : validS q = true
        · rw [if_pos hv] at h
          cases h
          refine ⟨hv, ?_⟩
          have e := body_inv (fun x hx => hb x (List.mem_of_mem_take hx)) hp
          have hlen : (bodyLS p).length = n := by rw [← e, List.length_take]; omega
          have es : b = b.take n ++ [b.getD n 0, b.getD (n + 1) 0] := by
            have hd : b.drop n = [b.getD n 0, b.getD (n + 1) 0] := by
              rw [List.drop_eq_getElem_cons (by omega), List.drop_eq_getElem_cons (by omega), List.drop_of_length_le (by omega)]
              simp [List.getD, show n < b.length by omega, show n + 1 < b.length by omega]
            rw [← hd, List.take_append_drop]
          have hs : sumK (bodyLS p) n = sumK b n := by
            rw [← e]
            conv => rhs; rw [es]
            rw [sumK_left _ _ n (by rw [List.length_take]; omega)]
          have b1 := hb (b.getD n 0) (by simp [List.getD, show n < b.length by omega])
          have b2 := hb (b.getD (n + 1) 0) (by simp [List.getD, show n + 1 < b.length by omega])
          unfold codeS
          rw [hlen, hs, h2', ← e]
          conv => rhs; rw [es]
          congr 2
          · omega
          · congr 1; omega
        · rw [if_neg hv] at h; cases h
theorem dec_none {b : List Int} {p : ProgS} {e : Int} (h : decT b = (p, e)) (he : e ≠ 0) : p = zeroS := by
  unfold decT at h
  split at h
  · cases h; rfl
  · split at h
    · cases h; rfl
    · split at h
      · cases h; rfl
      · unfold chkT at h
        rw [if_pos rfl] at h
        split at h
        · cases h; exact absurd rfl he
        · cases h; rfl
/-- What Parse answers. -/
def parT (s : List UInt8) : ProgS × Int := match readT s with
  | none => chkT false zeroS
  | some p => chkT true p
theorem par_text {p : ProgS} (h : TextsOk p) : parT (textS p) = chkT true p := by unfold parT; rw [read_text h]
theorem text_par {s : List UInt8} {p : ProgS} (h : parT s = (p, 0)) : validS p = true ∧ textS p = s := by
  unfold parT at h
  cases hr : readT s with
  | none => rw [hr] at h; cases h
  | some q =>
    rw [hr] at h
    replace h : chkT true q = (p, 0) := h
    unfold chkT at h
    rw [if_pos rfl] at h
    by_cases hv : validS q = true
    · rw [if_pos hv] at h; cases h; exact ⟨hv, (text_read hr).1⟩
    · rw [if_neg hv] at h; cases h
theorem par_none {s : List UInt8} {p : ProgS} {e : Int} (h : parT s = (p, e)) (he : e ≠ 0) : p = zeroS := by
  unfold parT at h
  split at h
  · cases h; rfl
  · unfold chkT at h
    rw [if_pos rfl] at h
    split at h
    · cases h; exact absurd rfl he
    · cases h; rfl
end Go.Proofs.YtidffjlpldalpaaGreatDoor

/- Plain lists: cutting a list of bytes at each instance of one byte, and the library's words for it. -/
import Derived.Lib.Split
import Derived.Lib.SplitLaws
set_option linter.unusedVariables false
set_option linter.unusedSimpArgs false
namespace Go.Proofs.YtidffjlpldalpaaGreatDoor
open Go

/-- A list cut at each instance of c. -/
def spl (c : UInt8) : List UInt8 → List (List UInt8)
  | [] => [[]]
  | b :: l => if b = c then [] :: spl c l else (b :: (spl c l).headD []) :: (spl c l).tail

theorem spl_ne (c : UInt8) (l : List UInt8) : spl c l ≠ [] := by
  cases l with
  | nil => simp [spl]
  | cons b l => unfold spl; split <;> simp
theorem spl_none (c : UInt8) : ∀ l : List UInt8, c ∉ l → spl c l = [l]
  | [], _ => rfl
  | b :: l, h => by
    have h1 : b ≠ c := fun e => h (by simp [e])
    have h2 : c ∉ l := fun e => h (by simp [e])
    unfold spl
    rw [if_neg h1, spl_none c l h2]; rfl
theorem spl_hit (c : UInt8) : ∀ (p r : List UInt8), c ∉ p → spl c (p ++ c :: r) = p :: spl c r
  | [], r, _ => by simp [spl]
  | b :: p, r, h => by
    have h1 : b ≠ c := fun e => h (by simp [e])
    have h2 : c ∉ p := fun e => h (by simp [e])
    rw [List.cons_append, spl, if_neg h1, spl_hit c p r h2]; rfl
theorem indexByte_hit (c : UInt8) : ∀ (p r : List UInt8), c ∉ p → Lib.indexByte (p ++ c :: r) c = p.length
  | [], r, _ => by simp [Lib.indexByte]
  | b :: p, r, h => by
    have h1 : b ≠ c := fun e => h (by simp [e])
    have h2 : c ∉ p := fun e => h (by simp [e])
    rw [List.cons_append]; unfold Lib.indexByte
    rw [indexByte_hit c p r h2]
    simp [h1]
theorem split_at (c : UInt8) : ∀ l : List UInt8, c ∈ l → ∃ p r, l = p ++ c :: r ∧ c ∉ p
  | [], h => by simp at h
  | b :: l, h => by
    by_cases e : b = c
    · exact ⟨[], l, by simp [e], by simp⟩
    · obtain ⟨p, r, h1, h2⟩ := split_at c l (by simpa [Ne.symm e] using h)
      exact ⟨b :: p, r, by simp [h1], by simp [Ne.symm e, h2]⟩

theorem splitK_spl (c : UInt8) : ∀ (n : Nat) (l : List UInt8), l.count c = n → Lib.splitK [c] 0 n l = spl c l
  | 0, l, h => by
    have : c ∉ l := List.count_eq_zero.1 h
    rw [spl_none c l this]; rfl
  | n + 1, l, h => by
    have hm : c ∈ l := List.count_pos_iff.1 (by omega)
    obtain ⟨p, r, rfl, hp⟩ := split_at c l hm
    unfold Lib.splitK
    have hi : Lib.index (p ++ c :: r) [c] = p.length := by rw [Lib.index_one, indexByte_hit c p r hp]
    rw [hi, if_neg (by simp), spl_hit c p r hp]
    have hr : r.count c = n := by
      have : p.count c = 0 := List.count_eq_zero.2 hp
      simp [List.count_append, this] at h; exact h
    have e : (p ++ c :: r).drop ((p.length : Int).toNat + [c].length) = r := by simp [List.drop_append, List.drop_eq_nil_of_le]
    rw [e, splitK_spl c n r hr]
    simp

theorem splitB_small (sep : ByteArray) (N : Nat) : ∀ (k : Nat) (s : ByteArray), s.size ≤ N → ∀ x ∈ Lib.splitB sep 0 k s, x.size ≤ N
  | 0, s, h, x, hx => by simp [Lib.splitB] at hx; rw [hx]; exact h
  | k + 1, s, h, x, hx => by
    unfold Lib.splitB at hx
    split at hx
    · simp at hx; rw [hx]; exact h
    · rcases List.mem_cons.1 hx with rfl | hx
      · simp; omega
      · exact splitB_small sep N k _ (by simp; omega) x hx
end Go.Proofs.YtidffjlpldalpaaGreatDoor

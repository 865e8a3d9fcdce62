/- The reference's Word and Targets. -/
import Derived.Test.YtidolpcbbbakmaaDc2
namespace Go.Proofs.Ytidolpcbbbakmaa
open Go Go.RowKit

def wordL : List ByteArray := [⟨#[]⟩, ⟨#[105, 110, 116]⟩, ⟨#[116, 101, 120, 116]⟩, ⟨#[108, 111, 99, 97, 108]⟩, ⟨#[115, 116, 111, 114, 101]⟩, ⟨#[99, 97, 112, 116, 117, 114, 101]⟩, ⟨#[115, 101, 108, 102]⟩, ⟨#[99, 108, 111, 115, 117, 114, 101]⟩, ⟨#[99, 97, 108, 108]⟩, ⟨#[114, 101, 116, 117, 114, 110]⟩, ⟨#[98, 108, 111, 99, 107]⟩, ⟨#[102, 105, 101, 108, 100]⟩, ⟨#[116, 97, 103]⟩, ⟨#[115, 119, 105, 116, 99, 104]⟩, ⟨#[106, 117, 109, 112]⟩, ⟨#[112, 114, 105, 109]⟩, ⟨#[102, 97, 105, 108]⟩]
def wordS (op : Int) : ByteArray := if 1 ≤ op ∧ op ≤ 16 then wordL.getD op.toNat ByteArray.empty else ⟨#[]⟩
theorem known_word (op : Int) (h : knownB op = true) : (wordS op).toList.isEmpty = false := by
  have h2 : 1 ≤ op ∧ op ≤ 16 := by unfold knownB inB at h; simpa using h
  rcases op_cases op with rfl | rfl | rfl | rfl | rfl | rfl | rfl | rfl | rfl | rfl | rfl | rfl | rfl | rfl | rfl | rfl | h3
  all_goals first | (rw [Go.ByteArray.toList_eq]; rfl) | (exfalso; omega)
theorem known_word2 (op : Int) (h : knownB op = true) : ¬ (wordS op).toList = [] := by
  intro e; have := known_word op h; rw [e] at this; cases this
theorem unknown_word (op : Int) (h : knownB op = false) : wordS op = ⟨#[]⟩ := by
  unfold wordS
  rw [if_neg]
  intro h2
  unfold knownB inB at h
  simp [h2.1, h2.2] at h

theorem word_cell (w w' : World) (hw : w' = w.alloc (.cells (wordL.map Value.string).toArray 9)) (k : Nat) (h5 : k ≤ 16) : w'.cell? ⟨w.heap.size, k, none⟩ = some (.string (wordL.getD k ByteArray.empty)) := by
  rw [hw, cell_new]
  have : k < wordL.length := by show k < 17; omega
  simp [List.getD, this]
set_option maxRecDepth 100000 in
theorem word_any (op : Int) (w : World) :
    Calls Try.prog 52 #[.int .i64 op] w fun e w' => e = .returned (.string (wordS op)) ∧ Below w.heap.size w w' := by
  by_cases h : op < 1 ∨ 16 < op
  · have hw : Hid (wordS op = ⟨#[]⟩) := by show _ = _; unfold wordS; rw [if_neg (by omega)]
    rcases h with h | h
    all_goals
      go_enter Try.func52, Try.ntmps52
      go_wp2_with fail
      go_ret
      exact ⟨by rw [hw.out]; rfl, (Below.refl _ _).alloc (Nat.le_refl _) _⟩
  · obtain ⟨k, rfl⟩ := Int.eq_ofNat_of_zero_le (show 0 ≤ op by omega)
    have hk : k ≤ 16 := by omega
    have hk1 : 1 ≤ k := by omega
    have hw : Hid (wordS k = wordL.getD k ByteArray.empty) := by show _ = _; unfold wordS; rw [if_pos (by omega)]; rfl
    have hc := word_cell w _ rfl k hk
    simp only [wordL, List.map_cons, List.map_nil] at hc
    generalize hx : List.getD _ k ByteArray.empty = x at hc
    have Hx := Lib.hid hx
    clear h hx
    go_enter Try.func52, Try.ntmps52
    go_wp2_with fail
    go_ret
    refine ⟨?_, (Below.refl _ _).alloc (Nat.le_refl _) _⟩
    rw [hw.out, ← Hx.out]
    rfl
end Go.Proofs.Ytidolpcbbbakmaa

/- Paths: path and its reference. IsVar, IsLabel of ident. -/
import Derived.Test.YtbjjimfdbbhjgaaDoorId5
namespace Go.Proofs.YtbjjimfdbbhjgaaDoor
open Go Go.RowKit

def upsB (l : List ByteArray) : Bool := l.all fun s => upB (bs s)
def pathB (l : List ByteArray) : Bool := decide (1 ≤ l.length) && decide (l.length ≤ 8) && upsB (l.take (l.length - 1)) && (lowB (l.getD (l.length - 1) ByteArray.empty) || upB (bs (l.getD (l.length - 1) ByteArray.empty)))
theorem upsB_take (l : List ByteArray) (k : Nat) (h : k < l.length) : upsB (l.take (k + 1)) = (upsB (l.take k) && upB (bs (l.getD k ByteArray.empty))) := by
  rw [List.take_succ_eq_append_getElem h]; unfold upsB; rw [List.all_append]; simp [h]
theorem upsB_false (l : List ByteArray) (k m : Nat) (h : k < m) (hm : m ≤ l.length) (hf : upB (bs (l.getD k ByteArray.empty)) = false) : upsB (l.take m) = false := by
  unfold upsB
  rw [List.all_eq_false]
  refine ⟨l.getD k ByteArray.empty, ?_, by rw [hf]; simp⟩
  have : k < (l.take m).length := by rw [List.length_take]; omega
  have e : (l.take m)[k] = l.getD k ByteArray.empty := by simp [List.getElem_take, show k < l.length by omega]
  rw [← e]; exact List.getElem_mem this
theorem getD_sz (l : List ByteArray) (k : Nat) (hsz : ∀ x ∈ l, x.size ≤ 1000) : (l.getD k ByteArray.empty).size ≤ 1000 := by
  by_cases h : k < l.length
  · exact hsz _ (by simp [List.getD, h])
  · have e : l.getD k ByteArray.empty = ByteArray.empty := by simp [List.getD, List.getElem?_eq_none (Nat.le_of_not_lt h)]
    rw [e]; decide

theorem path_any (v : Value) (l : List ByteArray) (w : World) (h : IsStrs w v l) (hE : Env w) (hsz : ∀ x ∈ l, x.size ≤ 1000) (hl : l.length ≤ 1000000) :
    Calls Tryd.prog 56 #[v] w fun e w' => e = .returned (.bool (pathB l)) ∧ Below w.heap.size w w' := by
  obtain ⟨a, c, rfl, hlc, hcell⟩ := h
  by_cases hbad : l.length < 1 ∨ 8 < l.length
  · have hf : pathB l = false := by unfold pathB; rcases hbad with h | h <;> simp <;> omega
    have Hf := Lib.hid hf
    clear hcell hf
    rcases hbad with h | h
    · have h0 : l.length = 0 := by omega
      rw [h0] at hlc ⊢
      go_enter Tryd.func56, Tryd.ntmps56
      go_wp2_with fail
      go_ret
      exact ⟨ret_bool Hf.out.symm, Below.refl _ _⟩
    · go_enter Tryd.func56, Tryd.ntmps56
      go_wp2_with fail
      go_ret
      exact ⟨ret_bool Hf.out.symm, Below.refl _ _⟩
  · have h1 : 1 ≤ l.length := by omega
    have h8 : l.length ≤ 8 := by omega
    obtain ⟨b, off, rfl, hlt, hc⟩ := hcell (by intro h; rw [h] at h1; simp at h1)
    have Hc := Lib.hid hc
    clear hcell hc hbad
    go_enter Tryd.func56, Tryd.ntmps56
    go_wp2_with fail
    go_loopw [19] (fun i wr => ∃ k : Nat, k ≤ l.length - 1 ∧ i = .int .i64 k ∧ Hid (upsB (l.take k) = true) ∧ Env wr ∧ Below w.heap.size w wr) (fun i _ => l.length - (intOf i).toNat)
    case atStart => exact ⟨0, Nat.zero_le _, rfl, rfl, hE, Below.refl _ _⟩
    case round =>
      obtain ⟨k, hk, rfl, hup, hEr, hbr⟩ := hrel
      by_cases hkl : k < l.length - 1
      · have hc : wr.cell? ⟨b, off + k, none⟩ = some (.string (l.getD k ByteArray.empty)) := by rw [hbr.cell (p := ⟨b, off + k, none⟩) hlt]; exact Hc.out k (by omega)
        have hx := getD_sz l k hsz
        have Hn := Lib.hid (upsB_take l k (by omega))
        have Hf := Lib.hid (upsB_false l k (l.length - 1) hkl (by omega))
        generalize l.getD k ByteArray.empty = x at *
        go_wp2_with fail
        refine (isUpper_any _ _ hx).mono ?_
        rintro e w' ⟨rfl, hb⟩
        obtain ⟨bb, hbb⟩ : ∃ bb, upB (bs x) = bb := ⟨_, rfl⟩
        have Hbb := Lib.hid hbb
        rw [hbb]
        clear hbb hc
        have hb2 : Below w.heap.size w w' := hbr.trans (hb.mono hbr.size)
        have hE2 := hEr.below hb
        cases bb
        · go_wp2_with fail
          go_ret
          exact ⟨ret_bool (by unfold pathB; rw [Hf.out Hbb.out]; simp), hb2⟩
        · have hup2 : Hid (upsB (l.take (k + 1)) = true) := by show _ = _; rw [Hn.out, hup.out, Hbb.out]; rfl
          go_wp2_with fail
          go_roundw
          case rel => exact ⟨k + 1, by omega, by go_num, hup2, hE2, hb2⟩
          case measure => simp [intOf]; omega
      · have hc : wr.cell? ⟨b, off + (l.length - 1), none⟩ = some (.string (l.getD (l.length - 1) ByteArray.empty)) := by rw [hbr.cell (p := ⟨b, off + (l.length - 1), none⟩) hlt]; exact Hc.out (l.length - 1) (by omega)
        have hx := getD_sz l (l.length - 1) hsz
        obtain rfl : k = l.length - 1 := by omega
        obtain ⟨x, hxx⟩ : ∃ x, l.getD (l.length - 1) ByteArray.empty = x := ⟨_, rfl⟩
        rw [hxx] at hx hc
        have Hx := Lib.hid hxx
        clear hxx
        go_wp2_with fail
        refine (isLower_any _ _ hEr hx).mono ?_
        rintro e w' ⟨rfl, hb⟩
        have hc' : w'.cell? ⟨b, off + (l.length - 1), none⟩ = some (.string x) := by rw [hb.cell (p := ⟨b, off + (l.length - 1), none⟩) (by have := hbr.size; simp; omega)]; exact hc
        obtain ⟨bb, hbb⟩ : ∃ bb, lowB x = bb := ⟨_, rfl⟩
        have Hbb := Lib.hid hbb
        rw [hbb]
        clear hbb hc
        have hb2 : Below w.heap.size w w' := hbr.trans (hb.mono hbr.size)
        cases bb
        · go_wp2_with fail
          refine (isUpper_any _ _ hx).mono ?_
          rintro e w2 ⟨rfl, hb3⟩
          go_wp2_with fail
          go_ret
          exact ⟨ret_bool (by unfold pathB; rw [hup.out, Hx.out, Hbb.out]; simp [h1, h8]), hb2.trans (hb3.mono hb2.size)⟩
        · go_wp2_with fail
          go_ret
          exact ⟨ret_bool (by unfold pathB; rw [hup.out, Hx.out, Hbb.out]; simp [h1, h8]), hb2⟩
end Go.Proofs.YtbjjimfdbbhjgaaDoor

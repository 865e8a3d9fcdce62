/- ParsePath, the reference's IsPath; slices.Equal on lists; IsVar, IsLabel of ident. -/
import Derived.Test.YtbjjimfdbbhjgaaDoorId6
import Derived.Test.YtbjjimfdbbhjgaaDoorSpl
namespace Go.Proofs.YtbjjimfdbbhjgaaDoor
open Go Go.RowKit

theorem rIsPath_any (v : Value) (l : List ByteArray) (w : World) (h : IsStrs w v l) (hsz : ∀ x ∈ l, x.size ≤ 1000) (hl : l.length ≤ 1000000) :
    Calls Tryd.prog 33 #[v] w fun e w' => e = .returned (.bool (pathB l)) ∧ Below w.heap.size w w' := by
  obtain ⟨a, c, rfl, hlc, hcell⟩ := h
  by_cases hbad : l.length < 1 ∨ 8 < l.length
  · have hf : pathB l = false := by unfold pathB; rcases hbad with h | h <;> simp <;> omega
    have Hf := Lib.hid hf
    clear hcell hf
    rcases hbad with h | h
    · have h0 : l.length = 0 := by omega
      rw [h0] at hlc ⊢
      go_enter Tryd.func33, Tryd.ntmps33
      go_wp2_with fail
      go_ret
      exact ⟨ret_bool Hf.out.symm, Below.refl _ _⟩
    · go_enter Tryd.func33, Tryd.ntmps33
      go_wp2_with fail
      go_ret
      exact ⟨ret_bool Hf.out.symm, Below.refl _ _⟩
  · have h1 : 1 ≤ l.length := by omega
    have h8 : l.length ≤ 8 := by omega
    obtain ⟨b, off, rfl, hlt, hc⟩ := hcell (by intro h; rw [h] at h1; simp at h1)
    have Hc := Lib.hid hc
    clear hcell hc hbad
    go_enter Tryd.func33, Tryd.ntmps33
    go_wp2_with fail
    go_loopw [4] (fun i wr => ∃ k : Nat, k ≤ l.length - 1 ∧ i = .int .i64 k ∧ Hid (upsB (l.take k) = true) ∧ Below w.heap.size w wr) (fun i _ => l.length - (intOf i).toNat)
    case atStart => exact ⟨0, Nat.zero_le _, rfl, rfl, Below.refl _ _⟩
    case round =>
      obtain ⟨k, hk, rfl, hup, hbr⟩ := hrel
      by_cases hkl : k < l.length - 1
      · have hkl2 : k + 1 < l.length := by omega
        have hc : wr.cell? ⟨b, off + k, none⟩ = some (.string (l.getD k ByteArray.empty)) := by rw [hbr.cell (p := ⟨b, off + k, none⟩) hlt]; exact Hc.out k (by omega)
        have hx := getD_sz l k hsz
        have Hn := Lib.hid (upsB_take l k (by omega))
        have Hf := Lib.hid (upsB_false l k (l.length - 1) hkl (by omega))
        generalize l.getD k ByteArray.empty = x at *
        go_wp2_with fail
        refine (rIsUpper_any _ _ hx).mono ?_
        rintro e w' ⟨rfl, rfl⟩
        obtain ⟨bb, hbb⟩ : ∃ bb, upB (bs x) = bb := ⟨_, rfl⟩
        have Hbb := Lib.hid hbb
        rw [hbb]
        clear hbb hc
        cases bb
        · go_wp2_with fail
          go_ret
          exact ⟨ret_bool (by unfold pathB; rw [Hf.out Hbb.out]; simp), hbr⟩
        · have hup2 : Hid (upsB (l.take (k + 1)) = true) := by show _ = _; rw [Hn.out, hup.out, Hbb.out]; rfl
          go_wp2_with fail
          go_roundw
          case rel => exact ⟨k + 1, by omega, by go_num, hup2, hbr⟩
          case measure => simp [intOf]; omega
      · have hkl2 : ¬ k + 1 < l.length := by omega
        have hc : wr.cell? ⟨b, off + (l.length - 1), none⟩ = some (.string (l.getD (l.length - 1) ByteArray.empty)) := by rw [hbr.cell (p := ⟨b, off + (l.length - 1), none⟩) hlt]; exact Hc.out (l.length - 1) (by omega)
        have hx := getD_sz l (l.length - 1) hsz
        obtain rfl : k = l.length - 1 := by omega
        obtain ⟨x, hxx⟩ : ∃ x, l.getD (l.length - 1) ByteArray.empty = x := ⟨_, rfl⟩
        rw [hxx] at hx hc
        have Hx := Lib.hid hxx
        clear hxx
        go_wp2_with fail
        refine (rIsLower_any _ _ hx).mono ?_
        rintro e w' ⟨rfl, hb⟩
        have hc' : w'.cell? ⟨b, off + (l.length - 1), none⟩ = some (.string x) := by rw [hb.cell (p := ⟨b, off + (l.length - 1), none⟩) (by have := hbr.size; simp; omega)]; exact hc
        obtain ⟨bb, hbb⟩ : ∃ bb, lowB x = bb := ⟨_, rfl⟩
        have Hbb := Lib.hid hbb
        rw [hbb]
        clear hbb hc
        have hb2 : Below w.heap.size w w' := hbr.trans (hb.mono hbr.size)
        cases bb
        · go_wp2_with fail
          refine (rIsUpper_any _ _ hx).mono ?_
          rintro e w2 ⟨rfl, rfl⟩
          go_wp2_with fail
          go_ret
          exact ⟨ret_bool (by unfold pathB; rw [hup.out, Hx.out, Hbb.out]; simp [h1, h8]), hb2⟩
        · go_wp2_with fail
          go_ret
          exact ⟨ret_bool (by unfold pathB; rw [hup.out, Hx.out, Hbb.out]; simp [h1, h8]), hb2⟩

def ppL (s : ByteArray) : List ByteArray := if pathB (splL s) then splL s else []
def ppE (s : ByteArray) : Int := if pathB (splL s) then 0 else 3
def PpOk (s : ByteArray) (w : World) (e : Ending) (w' : World) : Prop := ∃ v, e = .returned (.tuple #[v, .int .i64 (ppE s)]) ∧ IsStrs w' v (ppL s) ∧ Below w.heap.size w w'
theorem isStrs_nil (w : World) : IsStrs w (.slice none 0 0) [] := ⟨none, 0, rfl, Nat.le_refl _, fun h => absurd rfl h⟩

theorem parsePath_any (s : ByteArray) (w : World) (hE : Env w) (hs : s.size ≤ 1000) :
    Calls Tryd.prog 29 #[.string s] w (PpOk s w) := by
  obtain ⟨m, hm⟩ := hE.ml
  have H := Tryd.strings_Split s ⟨#[46]⟩ m w (by omega) hm (by decide)
  have HH := Lib.hid H
  clear H
  go_enter Tryd.func29, Tryd.ntmps29
  go_wp2_with fail
  refine HH.out.mono ?_
  rintro e w1 ⟨rfl, hw⟩
  rw [← splL_length]
  have hI : IsStrs w1 (.slice (some ⟨w.heap.size, 0, none⟩) (splL s).length (splL s).length) (splL s) := by
    rw [hw]; exact isStrs_alloc w (splL s) _ 9 rfl
  have hb : Below w.heap.size w w1 := by rw [hw]; exact (Below.refl _ _).alloc (Nat.le_refl _) _
  have hE1 := hE.below hb
  have hsz := splL_small s 1000 hs
  have hle : (splL s).length ≤ 1000000 := by have := splL_le s; omega
  clear hw HH hm
  have Hsz := Lib.hid hsz
  clear hsz
  go_wp2_with fail
  refine (path_any _ (splL s) _ hI hE1 Hsz.out hle).mono ?_
  rintro e w2 ⟨rfl, hb2⟩
  have hI2 := hI.below hb2
  have hbb2 : Below w.heap.size w w2 := hb.trans (hb2.mono hb.size)
  obtain ⟨bb, hbb⟩ : ∃ bb, pathB (splL s) = bb := ⟨_, rfl⟩
  have Hbb := Lib.hid hbb
  rw [hbb]
  clear hbb
  cases bb
  · go_wp2_with fail
    go_ret2
    refine ⟨.slice none 0 0, ?_, ?_, hbb2⟩
    · unfold ppE; rw [Hbb.out]; rfl
    · unfold ppL; rw [Hbb.out]; exact isStrs_nil _
  · go_wp2_with fail
    go_ret2
    refine ⟨.slice (some ⟨w.heap.size, 0, none⟩) (splL s).length (splL s).length, ?_, ?_, hbb2⟩
    · unfold ppE; rw [Hbb.out]; rfl
    · unfold ppL; rw [Hbb.out]; exact hI2

theorem equal_any (v u : Value) (l m : List ByteArray) (w : World) (h : IsStrs w v l) (k : IsStrs w u m) (hl : l.length ≤ 1000000) (hm : m.length ≤ 1000000) :
    Calls Tryd.prog 30 #[v, u] w fun e w' => e = .returned (.bool (decide (l = m))) ∧ Below w.heap.size w w' := by
  obtain ⟨a, c, rfl, hlc, hcell⟩ := h
  obtain ⟨a', c', rfl, hlc', hcell'⟩ := k
  by_cases hlen : l.length = m.length
  · by_cases hne : l = []
    · subst hne
      have hm0 : m = [] := List.length_eq_zero_iff.1 hlen.symm
      subst hm0
      refine (Tryd.slices_Equal_string_empty a a' c 0 c' w (by omega)).mono ?_
      rintro e w' ⟨rfl, rfl⟩
      exact ⟨rfl, Below.refl _ _⟩
    · have hne' : m ≠ [] := by intro e; rw [e] at hlen; exact hne (List.length_eq_zero_iff.1 hlen)
      obtain ⟨b, o, rfl, hlt, hc⟩ := hcell hne
      obtain ⟨b', o', rfl, hlt', hc'⟩ := hcell' hne'
      refine (Tryd.slices_Equal_string b o l.length c b' o' m.length c' l m w (Nat.le_refl _) (Nat.le_refl _) (by omega) (by omega) hc hc').mono ?_
      rintro e w' ⟨rfl, q, rfl⟩
      rw [List.take_length, List.take_length]
      exact ⟨rfl, bdrewN (Below.refl _ _) q⟩
  · refine (Tryd.slices_Equal_string_lens a a' l.length c m.length c' w hlen).mono ?_
    rintro e w' ⟨rfl, rfl⟩
    exact ⟨ret_bool (by symm; rw [decide_eq_false_iff_not]; intro e; exact hlen (by rw [e])), Below.refl _ _⟩

/-- The examples of the chapter hold. -/
theorem awake_any (w : World) (hE : Env w) :
    Calls Tryd.prog 10 #[] w fun e w' => e = .returned (.bool true) ∧ Below w.heap.size w w' := by
  have el : labS 4 ⟨#[88]⟩ = [109, 111, 100, 46, 88] := by decide +kernel
  have ee : labE 4 ⟨#[88]⟩ = 0 := by decide +kernel
  have e1 : ppL ⟨#[77, 46, 120]⟩ = [⟨#[77]⟩, ⟨#[120]⟩] := by decide +kernel
  have e2 : ppE ⟨#[77, 46, 120]⟩ = 0 := by decide +kernel
  have e3 : lowB ⟨#[109, 111, 100, 50]⟩ = true := by decide +kernel
  have e4 : lowB ⟨#[109, 111, 100]⟩ = false := by decide +kernel
  have El := Lib.hid el
  have Ee := Lib.hid ee
  have E1 := Lib.hid e1
  have E2 := Lib.hid e2
  have E3 := Lib.hid e3
  have E4 := Lib.hid e4
  clear el ee e1 e2 e3 e4
  go_enter Tryd.func10, Tryd.ntmps10
  go_wp2_with fail
  refine (label_any 4 _ _ hE (by decide)).mono ?_
  rintro e w1 ⟨rfl, hb1⟩
  rw [El.out, Ee.out]
  unfold st
  have hE1 := hE.below hb1
  go_wp2_with fail
  refine (parsePath_any _ _ hE1 (by decide)).mono ?_
  rintro e w2 ⟨v, rfl, hv, hb2⟩
  rw [E2.out]
  rw [E1.out] at hv
  have hB2 : Below w.heap.size w w2 := hb1.trans (hb2.mono hb1.size)
  have hE2 := hE1.below hb2
  have Hv := Lib.hid hv
  clear hv hb1 hb2 hE1
  go_wp2_with fail
  have hI : IsStrs (w2.alloc (.cells #[.string ⟨#[77]⟩, .string ⟨#[120]⟩] 9)) (.slice (some ⟨w2.heap.size, 0, none⟩) 2 2) [⟨#[77]⟩, ⟨#[120]⟩] := isStrs_alloc w2 [⟨#[77]⟩, ⟨#[120]⟩] 2 9 rfl
  have hB3 : Below w2.heap.size w2 (w2.alloc (.cells #[.string ⟨#[77]⟩, .string ⟨#[120]⟩] 9)) := (Below.refl _ _).alloc (Nat.le_refl _) _
  refine (equal_any _ _ _ _ _ (Hv.out.below hB3) hI (by decide) (by decide)).mono ?_
  rintro e w3 ⟨rfl, hb3⟩
  have hB4 : Below w2.heap.size w2 w3 := hB3.trans (hb3.mono hB3.size)
  have hB5 : Below w.heap.size w w3 := hB2.trans (hB4.mono hB2.size)
  have hE3 := hE2.below hB4
  clear hI hB3 hB4 hb3 hB2
  simp only [decide_true]
  go_wp2_with fail
  refine (isLower_any _ _ hE3 (by decide)).mono ?_
  rintro e w4 ⟨rfl, hb4⟩
  rw [E3.out]
  have hB6 : Below w.heap.size w w4 := hB5.trans (hb4.mono hB5.size)
  have hE4 := hE3.below hb4
  clear hB5 hb4
  go_wp2_with fail
  refine (isLower_any _ _ hE4 (by decide)).mono ?_
  rintro e w5 ⟨rfl, hb5⟩
  rw [E4.out]
  go_wp2_with fail
  go_ret
  exact ⟨rfl, hB6.trans (hb5.mono hB6.size)⟩
end Go.Proofs.YtbjjimfdbbhjgaaDoor

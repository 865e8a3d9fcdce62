/- Labels: prefix, fits, Label, Split, and their references; IsVar and IsLabel. -/
import Derived.Test.YtbjjimfdbbhjgaaDoorId3
import Derived.StillTailTactics
namespace Go.Proofs.YtbjjimfdbbhjgaaDoor
open Go Go.RowKit

def preB (k : Int) : List UInt8 :=
  if k = 1 then [118, 97, 108, 46] else if k = 2 then [116, 121, 112, 101, 46] else if k = 3 then [99, 111, 110, 46] else if k = 4 then [109, 111, 100, 46] else if k = 5 then [115, 105, 103, 46] else []
def st (l : List UInt8) : Value := .string ⟨l.toArray⟩

theorem prefix_any (k : Int) (w : World) :
    Calls Tryd.prog 39 #[.int .i64 k] w fun e w' => e = .returned (st (preB k)) ∧ w = w' := by
  go_enter Tryd.func39, Tryd.ntmps39
  go_wp2
  all_goals
    go_ret
    refine ⟨?_, rfl⟩
    simp_all [preB, st]

def fitB (k : Int) (s : ByteArray) : Bool := if k = 1 ∨ k = 2 then lowB s else upB (bs s)

theorem fits_any (k : Int) (s : ByteArray) (w : World) (hE : Env w) (hs : s.size ≤ 1000) :
    Calls Tryd.prog 40 #[.int .i64 k, .string s] w fun e w' => e = .returned (.bool (fitB k s)) ∧ Below w.heap.size w w' := by
  go_enter Tryd.func40, Tryd.ntmps40
  go_wp2_with (first | (go_at_call 16; refine (isLower_any _ _ hE hs).mono ?_; rintro e w' ⟨rfl, hb⟩) | (go_at_call 18; refine (isUpper_any _ _ hs).mono ?_; rintro e w' ⟨rfl, hb⟩))
  all_goals
    go_ret
    refine ⟨ret_bool ?_, hb⟩
    simp_all [fitB]
theorem rFits_any (k : Int) (s : ByteArray) (w : World) (hs : s.size ≤ 1000) :
    Calls Tryd.prog 13 #[.int .i64 k, .string s] w fun e w' => e = .returned (.bool (fitB k s)) ∧ Below w.heap.size w w' := by
  go_enter Tryd.func13, Tryd.ntmps13
  go_wp2_with (first | (go_at_call 17; refine (rIsLower_any _ _ hs).mono ?_; rintro e w' ⟨rfl, hb⟩) | (go_at_call 19; refine (rIsUpper_any _ _ hs).mono ?_; rintro e w' ⟨rfl, rfl⟩))
  all_goals
    go_ret
    refine ⟨ret_bool ?_, by first | assumption | exact Below.refl _ _⟩
    simp_all [fitB]

theorem preB_len (k : Int) : (preB k).length ≤ 5 := by
  unfold preB; repeat' split
  all_goals simp
theorem ba_app (p : List UInt8) (s : ByteArray) : (⟨p.toArray⟩ : ByteArray) ++ s = ⟨(p ++ bs s).toArray⟩ := by
  apply ByteArray.ext
  simp [bs]

def labS (k : Int) (s : ByteArray) : List UInt8 := if preB k = [] ∨ fitB k s = false then [] else preB k ++ bs s
def labE (k : Int) (s : ByteArray) : Int := if preB k = [] then 2 else if fitB k s = false then 3 else 0

theorem label_any (k : Int) (s : ByteArray) (w : World) (hE : Env w) (hs : s.size ≤ 1000) :
    Calls Tryd.prog 11 #[.int .i64 k, .string s] w fun e w' => e = .returned (.tuple #[st (labS k s), .int .i64 (labE k s)]) ∧ Below w.heap.size w w' := by
  obtain ⟨p, hp⟩ : ∃ p, p = preB k := ⟨_, rfl⟩
  have Hp := Lib.hid hp
  clear hp
  by_cases h0 : p = []
  · subst h0
    go_enter Tryd.func11, Tryd.ntmps11
    go_wp2_with fail
    refine (prefix_any _ _).mono ?_
    rintro e w' ⟨rfl, rfl⟩
    rw [← Hp.out]
    unfold st
    go_wp2_with fail
    go_ret2
    refine ⟨?_, Below.refl _ _⟩
    unfold labS labE
    rw [← Hp.out]
    rfl
  · have hpe : p.isEmpty = false := by cases p with | nil => exact absurd rfl h0 | cons x l => rfl
    go_enter Tryd.func11, Tryd.ntmps11
    go_wp2_with fail
    refine (prefix_any _ _).mono ?_
    rintro e w' ⟨rfl, rfl⟩
    rw [← Hp.out]
    unfold st
    go_wp2_with fail
    refine (fits_any _ _ _ hE hs).mono ?_
    rintro e w' ⟨rfl, hb⟩
    obtain ⟨bb, hbb⟩ : ∃ bb, fitB k s = bb := ⟨_, rfl⟩
    have Hbb := Lib.hid hbb
    rw [hbb]
    clear hbb
    cases bb
    · go_wp2_with fail
      go_ret2
      refine ⟨?_, hb⟩
      unfold labS labE
      rw [← Hp.out, Hbb.out]
      simp [h0, st]
    · have hpl : p.length ≤ 5 := by rw [Hp.out]; exact preB_len k
      have hsum : ¬ 9223372036854775807 < p.length + s.size := by omega
      go_wp2_with fail
      go_ret2
      refine ⟨?_, hb⟩
      unfold labS labE
      rw [← Hp.out, Hbb.out]
      simp [h0, st]
      rw [ba_app]

def split1 (k : Int) (s : ByteArray) : Bool := Lib.hasPrefix (bs s) (preB k) && fitB k ⟨((bs s).drop (preB k).length).toArray⟩
def splK (s : ByteArray) : Int := if split1 1 s then 1 else if split1 2 s then 2 else if split1 3 s then 3 else if split1 4 s then 4 else if split1 5 s then 5 else 0
/-- What Split answers: the kind, the name, the error. -/
def splV (s : ByteArray) : Value := .tuple #[.int .i64 (splK s), st (if splK s = 0 then [] else (bs s).drop (preB (splK s)).length), .int .i64 (if splK s = 0 then 3 else 0)]
theorem splK_first (s : ByteArray) (k : Nat) (h1 : 1 ≤ k) (h5 : k ≤ 5) (hno : ∀ j : Nat, 1 ≤ j → j < k → split1 j s = false) (h : split1 k s = true) : splK s = k := by
  have a1 := hno 1; have a2 := hno 2; have a3 := hno 3; have a4 := hno 4
  obtain rfl | rfl | rfl | rfl | rfl : k = 1 ∨ k = 2 ∨ k = 3 ∨ k = 4 ∨ k = 5 := by omega
  all_goals simp_all [splK]
theorem splK_none (s : ByteArray) (hno : ∀ j : Nat, 1 ≤ j → j < 6 → split1 j s = false) : splK s = 0 := by
  have a1 := hno 1; have a2 := hno 2; have a3 := hno 3; have a4 := hno 4; have a5 := hno 5
  simp_all [splK]
theorem split_any (s : ByteArray) (w : World) (hE : Env w) (hs : s.size ≤ 1000) :
    Calls Tryd.prog 12 #[.string s] w fun e w' => e = .returned (splV s) ∧ Below w.heap.size w w' := by
  go_enter Tryd.func12, Tryd.ntmps12
  go_wp2_with fail
  go_loopw [5] (fun i wr => ∃ k : Nat, 1 ≤ k ∧ k ≤ 6 ∧ i = .int .i64 k ∧ Hid (∀ j : Nat, 1 ≤ j → j < k → split1 j s = false) ∧ Env wr ∧ Below w.heap.size w wr) (fun i _ => 6 - (intOf i).toNat)
  case atStart => exact ⟨1, by omega, by omega, rfl, fun j h1 h2 => absurd h2 (by omega), hE, Below.refl _ _⟩
  case round =>
    obtain ⟨k, hk1, hk6, rfl, hno, hEr, hbr⟩ := hrel
    by_cases hlt : k ≤ 5
    · go_wp2_with fail
      refine (prefix_any _ _).mono ?_
      rintro e w' ⟨rfl, rfl⟩
      unfold st
      go_wp2_with fail
      refine (Tryd.strings_CutPrefix _ _ _).mono ?_
      rintro e w' ⟨rfl, rfl⟩
      obtain ⟨bb, hbb⟩ : ∃ bb, Lib.hasPrefix (bs s) (preB k) = bb := ⟨_, rfl⟩
      have hpre : (ByteArray.mk (preB (k : Int)).toArray).data.toList = preB k := by simp
      have htr : Lib.trimPrefix (bs s) (preB k) = if bb then (bs s).drop (preB k).length else bs s := by rw [← hbb]; rfl
      have Hbb := Lib.hid hbb
      change Lib.hasPrefix s.data.toList (preB k) = bb at hbb
      change Lib.trimPrefix s.data.toList (preB k) = _ at htr
      rw [hpre, hbb, htr]
      clear hbb htr hpre
      have hfirst : ∀ b : Bool, split1 k s = b → Hid (∀ j : Nat, 1 ≤ j → j < k + 1 → split1 j s = false) ∨ b = true := fun b hb => by
        cases b
        · left
          intro j h1 h2
          by_cases e : j = k
          · rw [e]; exact hb
          · exact hno.out j h1 (by omega)
        · right; rfl
      cases bb
      · have hN : Hid (∀ j : Nat, 1 ≤ j → j < k + 1 → split1 j s = false) := (hfirst false (by unfold split1; rw [Hbb.out]; rfl)).resolve_right (by simp)
        clear hfirst
        go_wp2_with fail
        go_roundw
        case rel => exact ⟨k + 1, by omega, by omega, by go_num, hN, hEr, hbr⟩
        case measure => simp [intOf]; omega
      · simp only [if_true]
        have hsz : (ByteArray.mk ((bs s).drop (preB (k : Int)).length).toArray).size ≤ 1000 := by
          have : (ByteArray.mk ((bs s).drop (preB (k : Int)).length).toArray).size = ((bs s).drop (preB (k : Int)).length).length := by simp [ByteArray.size]
          rw [this, List.length_drop, bs_length]; omega
        have hs1 : split1 k s = fitB k ⟨((bs s).drop (preB (k : Int)).length).toArray⟩ := by unfold split1; rw [Hbb.out]; rfl
        have hsk : split1 k s = true → splK s = k ∧ (k : Int) ≠ 0 := fun h => ⟨splK_first s k hk1 hlt hno.out h, by omega⟩
        have HHk := Lib.hid hsk
        have Hs1 := Lib.hid hs1
        clear hsk hs1
        obtain ⟨r, hr⟩ : ∃ r, r = (bs s).drop (preB (k : Int)).length := ⟨_, rfl⟩
        rw [← hr] at hsz ⊢
        have Hr := Lib.hid hr
        clear hr
        go_wp2_with fail
        refine (fits_any _ _ _ hEr hsz).mono ?_
        rintro e w' ⟨rfl, hb⟩
        rw [Hr.out, ← Hs1.out]
        obtain ⟨bb, hbb⟩ : ∃ bb, split1 k s = bb := ⟨_, rfl⟩
        have Hb2 := Lib.hid hbb
        rw [hbb]
        clear hbb
        have hbr' : Below w.heap.size w w' := hbr.trans (hb.mono hbr.size)
        have hE' := hEr.below hb
        cases bb
        · have hN : Hid (∀ j : Nat, 1 ≤ j → j < k + 1 → split1 j s = false) := (hfirst false Hb2.out).resolve_right (by simp)
          clear hfirst
          go_wp2_with fail
          go_roundw
          case rel => exact ⟨k + 1, by omega, by omega, by go_num, hN, hE', hbr'⟩
          case measure => simp [intOf]; omega
        · clear hfirst
          go_wp2_with fail
          go_ret3
          refine ⟨?_, hbr'⟩
          obtain ⟨e1, e2⟩ := HHk.out Hb2.out
          unfold splV
          rw [e1, if_neg e2, if_neg e2]
          rfl
    · go_wp2_with fail
      go_ret3
      refine ⟨?_, hbr⟩
      unfold splV
      rw [splK_none s (fun j h1 h2 => hno.out j h1 (by omega))]
      rfl
end Go.Proofs.YtbjjimfdbbhjgaaDoor

/- Names, labels, numbers: the texts of law 01 at this seat. -/
import Derived.Test.YtkiffgdinmpljaaGreatDoorF2
import Derived.WalkKit
import Derived.WalkLawsBesides
import Derived.WalkSpells
import Derived.Outline
import Derived.BigQuiet
import Derived.Deep.QuietTactic
import Derived.Lib.Hide
import Derived.Lib.ConvBytes
import Derived.Lib.Strings
import Derived.StillTailTactics
import Derived.SliceStrings
import Derived.Lib.LaidU8
import Derived.ProofKit
import Derived.OpenShut
import Derived.WideLaws
import Derived.Test.YtkiffgdinmpljaaGreatDoorChecked
import Derived.Test.YtkiffgdinmpljaaGreatDoorShelf
set_option linter.unusedVariables false
set_option linter.unusedSimpArgs false
namespace Go.Proofs.YtkiffgdinmpljaaGreatDoor
open Go Go.RowKit
set_option maxHeartbeats 8000000
set_option maxRecDepth 100000
theorem ret_int {k : IntKind} {a b : Int} (h : a = b) : Ending.returned (.int k a) = .returned (.int k b) := by rw [h]
theorem ret_bool {a b : Bool} (h : a = b) : Ending.returned (.bool a) = .returned (.bool b) := by rw [h]
def cls (c : Int) : Int :=
 if 97<=c/\c<=122 then 1 else if 65<=c/\c<=90 then 2 else if 48<=c/\c<=57 then 3 else if c = 95 then 4 else if c = 46 then 5 else 0
def smallB (c : Int) : Bool := decide (97<=c/\c<=122)
def capB (c : Int) : Bool := decide (65<=c/\c<=90)
def digB (c : Int) : Bool := decide (48<=c/\c<=57)
def innB (c : Int) : Bool := smallB c || capB c || digB c || (c == 95)
theorem of_any (c : Int) (w : World) (h0 : 0<=c) (h1 : c<=255) :
 Calls Tryz.prog 120 #[.int .u8 c] w fun e w' => e = .returned (.int .i64 (cls c))/\w = w' := by
 go_enter Tryz.func120, Tryz.ntmps120
 go_wp2
 all_goals
  go_ret
  refine ⟨ret_int ?_, rfl⟩
  try simp only [beq_iff_eq, beq_eq_false_iff_ne, ne_eq] at *
  unfold cls
  repeat' split
  all_goals omega
theorem small_any (c : Int) (w : World) (h0 : 0<=c) (h1 : c<=255) :
 Calls Tryz.prog 152 #[.int .u8 c] w fun e w' => e = .returned (.bool (smallB c))/\w = w' := by
 go_enter Tryz.func152, Tryz.ntmps152
 go_wp2
 all_goals
  go_ret
  refine ⟨ret_bool ?_, rfl⟩
  simp [smallB] <;> omega
theorem capital_any (c : Int) (w : World) (h0 : 0<=c) (h1 : c<=255) :
 Calls Tryz.prog 142 #[.int .u8 c] w fun e w' => e = .returned (.bool (capB c))/\w = w' := by
 go_enter Tryz.func142, Tryz.ntmps142
 go_wp2
 all_goals
  go_ret
  refine ⟨ret_bool ?_, rfl⟩
  simp [capB] <;> omega
theorem digit_any (c : Int) (w : World) (h0 : 0<=c) (h1 : c<=255) :
 Calls Tryz.prog 140 #[.int .u8 c] w fun e w' => e = .returned (.bool (digB c))/\w = w' := by
 go_enter Tryz.func140, Tryz.ntmps140
 go_wp2
 all_goals
  go_ret
  refine ⟨ret_bool ?_, rfl⟩
  simp [digB] <;> omega
theorem inner1_any (c : Int) (w : World) (h0 : 0<=c) (h1 : c<=255) :
 Calls Tryz.prog 139 #[.int .u8 c] w fun e w' => e = .returned (.bool (innB c))/\w = w' := by
 go_enter Tryz.func139, Tryz.ntmps139
 go_wp2_with (first | (go_at_call 152; refine (small_any _ _ (by assumption) (by assumption)).mono ?_; rintro e w' ⟨rfl, rfl⟩) | (go_at_call 142; refine (capital_any _ _ (by assumption) (by assumption)).mono ?_; rintro e w' ⟨rfl, rfl⟩) | (go_at_call 140; refine (digit_any _ _ (by assumption) (by assumption)).mono ?_; rintro e w' ⟨rfl, rfl⟩))
 all_goals
  go_ret
  refine ⟨ret_bool ?_, rfl⟩
  simp_all [innB]
def bs (s : ByteArray) : List UInt8 := s.data.toList
theorem bs_length (s : ByteArray) : (bs s).length = s.size := by simp [bs]
theorem take_snoc (s : ByteArray) (k : Nat) (h : k < s.size) : (bs s).take (k + 1) = (bs s).take k ++ [s[k]] := by
 unfold bs
 rw [List.take_succ_eq_append_getElem (by simpa using h)]; rfl
def innsB (l : List UInt8) : Bool := l.all fun b => innB b.toNat
theorem innsB_take (s : ByteArray) (k : Nat) (h : k < s.size) : innsB ((bs s).take (k + 1)) = (innsB ((bs s).take k) && innB s[k].toNat) := by
 rw [take_snoc s k h]; simp [innsB]
theorem innsB_false (s : ByteArray) (k : Nat) (h : k < s.size) (hf : innB s[k].toNat = false) : innsB (bs s) = false := by
 unfold innsB
 rw [List.all_eq_false]
 exact ⟨s[k], by simp [bs, ByteArray.getElem_eq_getElem_data], by simp [hf]⟩
theorem ub (c : UInt8) : 0<=(c.toNat : Int)/\(c.toNat : Int)<=255 := ⟨by omega, by have := c.toNat_lt; omega⟩
theorem inner_any (s : ByteArray) (w : World) (hs : s.size<=1000) :
 Calls Tryz.prog 153 #[.string s] w fun e w' => e = .returned (.bool (innsB (bs s)))/\w = w' := by
 go_enter Tryz.func153, Tryz.ntmps153
 go_wp2
 go_loop [3] (fun i => ∃ k : Nat, k<=s.size/\i = .int .i64 k/\Hid (innsB ((bs s).take k) = true)) (fun i => s.size - (intOf i).toNat)
 case atStart => exact ⟨0, Nat.zero_le _, rfl, rfl⟩
 case round =>
  obtain ⟨k, hk, rfl, hin⟩ := hrel
  by_cases hlt : k < s.size
  ·obtain ⟨u0, u1⟩ := ub s[k]
   go_wp2_with (go_at_call 139; refine (inner1_any _ _ (by assumption) (by assumption)).mono ?_; rintro e w' ⟨rfl, rfl⟩)
   ·go_ret
    rename_i hf
    exact ⟨ret_bool (innsB_false s k hlt (by simpa using hf)).symm, rfl⟩
   ·rename_i hf
    have hf' : innB s[k].toNat = true := by simpa using hf
    have hnext : Hid (innsB ((bs s).take (k + 1)) = true) := by show _ = _; rw [innsB_take s k hlt, hin.out, hf']; rfl
    go_round
    case rel => exact ⟨k + 1, by omega, by go_num, hnext⟩
    case measure => simp [intOf]; omega
  ·go_wp2
   go_ret
   have hin' := hin.out
   rw [List.take_of_length_le (by rw [bs_length]; omega)] at hin'
   exact ⟨ret_bool hin'.symm, rfl⟩
theorem below_bytes {B : Nat} {a w : World} (e : TypeId) (s : ByteArray) (h : Below B a w) (hB : B<=w.heap.size) : Below B a (Lib.bytesWorld w e s) :=
 h.trans ⟨rfl, rfl, rfl, by rw [Lib.bytesWorld_size]; omega, fun k hk => Lib.bytesWorld_at_old w e s k (by omega)⟩
theorem cls_inn (c : Int) : innB c = !(cls c == 0 || cls c == 5) := by
 unfold innB smallB capB digB cls
 by_cases a : 97<=c/\c<=122 <;> by_cases b : 65<=c/\c<=90 <;> by_cases d : 48<=c/\c<=57 <;> by_cases e : c = 95 <;> by_cases f : c = 46 <;> simp [a, b, d, e, f] <;> omega
theorem tl_nil (s : ByteArray) (h : s.size = 0) : s.toList = [] := by
 rw [Go.ByteArray.toList_eq, ← List.length_eq_zero_iff]; simpa using h
theorem tl_ne (s : ByteArray) (h : ¬ s.size = 0) : ¬ s.toList = [] := by
 rw [Go.ByteArray.toList_eq, ← List.length_eq_zero_iff]; simpa using h
theorem tl_ne2 (s : ByteArray) (h : ¬ s.size = 0) : s.toList.isEmpty = false := by
 have := tl_ne s h
 cases hl : s.toList with
 | nil => exact absurd hl this
 | cons x l => rfl
theorem innsB_getD (s : ByteArray) (k : Nat) (h : k < s.size) : innsB ((bs s).take (k + 1)) = (innsB ((bs s).take k) && innB ((bs s).getD k 0).toNat) := by
 rw [innsB_take s k h]; simp [bs, ByteArray.getElem_eq_getElem_data, h]
theorem innsB_falseD (s : ByteArray) (k : Nat) (h : k < s.size) (hf : innB ((bs s).getD k 0).toNat = false) : innsB (bs s) = false := by
 apply innsB_false s k h
 rw [← hf]; simp [bs, ByteArray.getElem_eq_getElem_data, h]
theorem bs_head (s : ByteArray) (h : 0 < s.size) : (bs s).headD 0 = s[0] := by
 have : (bs s)[0]? = some s[0] := by
  simp [bs, ByteArray.getElem_eq_getElem_data]
 cases hl : bs s with
 | nil => rw [hl] at this; simp at this
 | cons x l => rw [hl] at this; simpa using this
def nmB (l : List UInt8) (k : Int) : Bool := decide (1<=l.length) && decide (l.length<=24) && (cls (l.headD 0).toNat == k) && innsB l
theorem name_any (s : ByteArray) (k : Int) (w : World) (hs : s.size<=1000) :
 Calls Tryz.prog 137 #[.string s, .int .i64 k] w fun e w' => e = .returned (.bool (nmB (bs s) k))/\Below w.heap.size w w' := by
 by_cases h0 : s.size = 0
 ·have hn := tl_nil s h0
  go_enter Tryz.func137, Tryz.ntmps137
  go_wp2_with fail
  go_ret
  exact ⟨ret_bool (by simp [nmB, bs_length, h0]), Below.refl _ _⟩
 ·have hn := tl_ne s h0
  have hn2 := tl_ne2 s h0
  have hp : 0 < s.size := by omega
  by_cases h24 : 24 < s.size
  ·go_enter Tryz.func137, Tryz.ntmps137
   go_wp2_with fail
   go_ret
   exact ⟨ret_bool (by simp [nmB, bs_length]; omega), Below.refl _ _⟩
  ·have ⟨u0, u1⟩ := ub s[0]
   by_cases hk : cls s[0].toNat = k
   ·have hk' : (cls s[0].toNat != k) = false := by simpa using hk
    have Hk : Hid (cls s[0].toNat = k) := hk
    clear hk
    have hcv : ∀ u : World, (convert 9 60 (.string s)).run Tryz.prog u = .ok (.slice (some ⟨u.heap.size, 0, none⟩) s.size (grownCap u s.size 0 5)) (Lib.bytesWorld u 5 s) := fun u => Lib.run_convert_string_bytes u _ _ _ s Tryz.underlying9 Tryz.underlying60 Tryz.underlying5
    go_enter Tryz.func137, Tryz.ntmps137
    go_wp2_with fail
    refine (of_any _ _ (by assumption) (by assumption)).mono ?_
    rintro e w' ⟨rfl, rfl⟩
    go_wp2_with fail
    have hc : ∀ j : Nat, j < s.size->(Lib.bytesWorld w 5 s).cell? ⟨w.heap.size, j, none⟩ = some (.int .u8 ((bs s).getD j 0).toNat) := fun j hj => Lib.bytesWorld_cell w _ s j hj
    have Hb := below_bytes 5 s (Below.refl w.heap.size w) (nLQ _)
    generalize Lib.bytesWorld w 5 s = W1 at *
    have Hc := hJQ hc
    clear hc hcv
    go_loop [25] (fun i => ∃ k : Nat, k<=s.size/\i = .int .i64 k/\Hid (innsB ((bs s).take k) = true)) (fun i => s.size - (intOf i).toNat)
    case atStart => exact ⟨0, Nat.zero_le _, rfl, rfl⟩
    case round =>
     obtain ⟨j, hj, rfl, hin⟩ := hrel
     by_cases hlt : j < s.size
     ·have hc := Hc.out j hlt
      have hnx := innsB_getD s j hlt
      have hfx := innsB_falseD s j hlt
      generalize (bs s).getD j 0 = x at *
      have Hnx := hJQ hnx
      have Hfx := hJQ hfx
      clear hnx hfx
      obtain ⟨v0, v1⟩ := ub x
      have ec := cls_inn x.toNat
      cases hcx : innB x.toNat with
      | false =>
        have hd : (cls x.toNat == 0 || cls x.toNat == 5) = true := by rw [hcx] at ec; revert ec; cases (cls x.toNat == 0 || cls x.toNat == 5) <;> simp
        have Hd := hJQ hd
        have Hcx := hJQ hcx
        clear ec hd hcx
        go_wp2_with fail
        refine (of_any _ _ (by assumption) (by assumption)).mono ?_
        rintro e w' ⟨rfl, rfl⟩
        go_wp2_with fail
        all_goals first
         | (go_ret; exact ⟨ret_bool (by simp [nmB, Hfx.out Hcx.out]), Hb⟩)
         | (exfalso; have := Hd.out; simp_all)
      | true =>
        have hd : (cls x.toNat == 0) = false/\(cls x.toNat == 5) = false := by rw [hcx] at ec; simpa using ec
        obtain ⟨hd1, hd2⟩ := hd
        have Hcx := hJQ hcx
        clear ec hcx
        go_wp2_with fail
        refine (of_any _ _ (by assumption) (by assumption)).mono ?_
        rintro e w' ⟨rfl, rfl⟩
        go_wp2_with fail
        go_round
        case rel => exact ⟨j + 1, by omega, by go_num, by show _ = _; rw [Hnx.out, hin.out, Hcx.out]; rfl⟩
        case measure => simp [intOf]; omega
     ·go_wp2
      go_ret
      have hin' := hin.out
      rw [List.take_of_length_le (by rw [bs_length]; omega)] at hin'
      refine ⟨ret_bool ?_, Hb⟩
      have : (cls ((bs s).headD 0).toNat == k) = true := by rw [bs_head s hp]; simpa using Hk.out
      unfold nmB; rw [this, hin']; simp [bs_length]; omega
   ·have hk' : (cls s[0].toNat != k) = true := by rw [bne_iff_ne]; exact hk
    have Hk : Hid (cls s[0].toNat ≠ k) := hk
    clear hk
    go_enter Tryz.func137, Tryz.ntmps137
    go_wp2_with (go_at_call 120; refine (of_any _ _ (by assumption) (by assumption)).mono ?_; rintro e w' ⟨rfl, rfl⟩)
    go_ret
    refine ⟨ret_bool ?_, Below.refl _ _⟩
    have : (cls ((bs s).headD 0).toNat == k) = false := by rw [bs_head s hp]; simpa using Hk.out
    unfold nmB
    rw [this]
    simp
def wordB (l : List UInt8) : Bool := decide (1<=l.length) && decide (l.length<=24) && innsB l
def upB (l : List UInt8) : Bool := wordB l && capB (l.headD 0).toNat
theorem nm2 (l : List UInt8) : nmB l 2 = upB l := by
 have : (cls (l.headD 0).toNat == 2) = capB (l.headD 0).toNat := by
  generalize ((l.headD 0).toNat : Int) = c
  unfold cls capB
  repeat' split
  all_goals simp_all
  all_goals omega
 unfold nmB upB wordB; rw [this]; ac_rfl
theorem isUpper_any (s : ByteArray) (w : World) (hs : s.size<=1000) :
 Calls Tryz.prog 118 #[.string s] w fun e w' => e = .returned (.bool (upB (bs s)))/\Below w.heap.size w w' := by
 go_enter Tryz.func118, Tryz.ntmps118
 go_wp2_with fail
 refine (name_any _ _ _ hs).mono ?_
 rintro e w' ⟨rfl, hb⟩
 rw [nm2]
 go_wp2_with fail
 go_ret
 exact ⟨rfl, hb⟩
theorem word_any (s : ByteArray) (w : World) (hs : s.size<=1000) :
 Calls Tryz.prog 141 #[.string s] w fun e w' => e = .returned (.bool (wordB (bs s)))/\w = w' := by
 go_enter Tryz.func141, Tryz.ntmps141
 go_wp2_with (go_at_call 153; refine (inner_any _ _ hs).mono ?_; rintro e w' ⟨rfl, rfl⟩)
 all_goals
  go_ret
  refine ⟨ret_bool ?_, rfl⟩
  simp [wordB, bs_length]
  try omega
theorem rIsUpper_any (s : ByteArray) (w : World) (hs : s.size<=1000) :
 Calls Tryz.prog 130 #[.string s] w fun e w' => e = .returned (.bool (upB (bs s)))/\w = w' := by
 by_cases hw : wordB (bs s) = true
 ·have hp : 0 < s.size := by simp [wordB, bs_length] at hw; omega
  have hh := bs_head s hp
  obtain ⟨u0, u1⟩ := ub s[0]
  go_enter Tryz.func130, Tryz.ntmps130
  go_wp2_with (first | (go_at_call 141; refine (word_any _ _ hs).mono ?_; rintro e w' ⟨rfl, rfl⟩) | (go_at_call 142; refine (capital_any _ _ (by assumption) (by assumption)).mono ?_; rintro e w' ⟨rfl, rfl⟩))
  go_ret
  exact ⟨ret_bool (by unfold upB; rw [hw, hh]; rfl), rfl⟩
 ·have hw' : wordB (bs s) = false := by simpa using hw
  go_enter Tryz.func130, Tryz.ntmps130
  go_wp2_with (go_at_call 141; refine (word_any _ _ hs).mono ?_; rintro e w' ⟨rfl, rfl⟩)
  go_ret
  exact ⟨ret_bool (by simp [upB, hw']), rfl⟩
def dots (l : List UInt8) : Bool := l.all fun b => innB b.toNat || (b.toNat == 46)
def labB (l : List UInt8) : Bool := dots l && decide (1<=l.length) && decide (l.length<=48)
theorem dots_take (s : ByteArray) (k : Nat) (h : k < s.size) : dots ((bs s).take (k + 1)) = (dots ((bs s).take k) && (innB s[k].toNat || (s[k].toNat == 46))) := by
 rw [take_snoc s k h]; simp [dots]
theorem dots_false (s : ByteArray) (k : Nat) (h : k < s.size) (hf : innB s[k].toNat = false) (hd : (s[k].toNat == 46) = false) : dots (bs s) = false := by
 unfold dots
 rw [List.all_eq_false]
 exact ⟨s[k], by simp [bs, ByteArray.getElem_eq_getElem_data], by simpa [hf] using hd⟩
theorem rIsLabel_any (s : ByteArray) (w : World) (hs : s.size<=1000) :
 Calls Tryz.prog 127 #[.string s] w fun e w' => e = .returned (.bool (labB (bs s)))/\w = w' := by
 go_enter Tryz.func127, Tryz.ntmps127
 go_wp2
 go_loop [3] (fun i => ∃ k : Nat, k<=s.size/\i = .int .i64 k/\Hid (dots ((bs s).take k) = true)) (fun i => s.size - (intOf i).toNat)
 case atStart => exact ⟨0, Nat.zero_le _, rfl, rfl⟩
 case round =>
  obtain ⟨k, hk, rfl, hin⟩ := hrel
  by_cases hlt : k < s.size
  ·obtain ⟨u0, u1⟩ := ub s[k]
   have Hn := hJQ (dots_take s k hlt)
   have Hf := hJQ (dots_false s k hlt)
   by_cases hd : s[k].toNat = 46
   ·have hd2 : ((s[k].toNat : Int) != 46) = false := by rw [hd]; rfl
    have Hd := hJQ hd
    clear hd
    go_wp2_with (go_at_call 139; refine (inner1_any _ _ (by assumption) (by assumption)).mono ?_; rintro e w' ⟨rfl, rfl⟩)
    all_goals
     have hnext : Hid (dots ((bs s).take (k + 1)) = true) := by show _ = _; rw [Hn.out, hin.out, Hd.out]; simp
     go_round
     case rel => exact ⟨k + 1, by omega, by go_num, hnext⟩
     case measure => simp [intOf]; omega
   ·have hd2 : ((s[k].toNat : Int) != 46) = true := by rw [bne_iff_ne]; omega
    have Hd := hJQ hd
    clear hd
    have ⟨bb, hbb⟩ : ∃ bb, bb = innB s[k].toNat := ⟨_, rfl⟩
    have Hbb := hJQ hbb
    clear hbb
    go_wp2_with fail
    refine (inner1_any _ _ (by assumption) (by assumption)).mono ?_
    rintro e w' ⟨rfl, rfl⟩
    rw [← Hbb.out]
    cases bb
    ·go_wp2_with fail
     go_ret
     exact ⟨ret_bool (by unfold labB; rw [Hf.out Hbb.out.symm (by simpa using Hd.out)]; rfl), rfl⟩
    ·go_wp2_with fail
     have hnext : Hid (dots ((bs s).take (k + 1)) = true) := by show _ = _; rw [Hn.out, hin.out, ← Hbb.out]; rfl
     go_round
     case rel => exact ⟨k + 1, by omega, by go_num, hnext⟩
     case measure => simp [intOf]; omega
  ·go_wp2
   all_goals
    go_ret
    have hin' := hin.out
    rw [List.take_of_length_le (by rw [bs_length]; omega)] at hin'
    refine ⟨ret_bool ?_, rfl⟩
    unfold labB
    rw [hin', bs_length]
    obtain rfl : k = s.size := by omega
    by_cases h1 : 1<=s.size <;> by_cases h2 : s.size<=48 <;> simp [h1, h2] <;> omega
def IsStrs (w : World) (v : Value) (l : List ByteArray) : Prop :=
 ∃ (a : Option Addr) (c : Nat), v = .slice a l.length c/\l.length<=c/\(l ≠ []->∃ b off, a = some ⟨b, off, none⟩/\b < w.heap.size/\∀ j, j < l.length->w.cell? ⟨b, off + j, none⟩ = some (.string (l.getD j ByteArray.empty)))
theorem bdrewN {B : Nat} {a w : World} (h : Below B a w) (n : Nat) : Below B a (w.drewN n) := h.trans ⟨rfl, rfl, rfl, Nat.le_refl _, fun _ _ => rfl⟩
theorem dots_getD (s : ByteArray) (k : Nat) (h : k < s.size) : dots ((bs s).take (k + 1)) = (dots ((bs s).take k) && (innB ((bs s).getD k 0).toNat || (((bs s).getD k 0).toNat == 46))) := by
 rw [dots_take s k h]; simp [bs, ByteArray.getElem_eq_getElem_data, h]
theorem dots_falseD (s : ByteArray) (k : Nat) (h : k < s.size) (hf : (innB ((bs s).getD k 0).toNat || (((bs s).getD k 0).toNat == 46)) = false) : dots (bs s) = false := by
 have e : (bs s).getD k 0 = s[k] := by simp [bs, ByteArray.getElem_eq_getElem_data, h]
 rw [e, Bool.or_eq_false_iff] at hf
 exact dots_false s k h hf.1 hf.2
theorem cls_dot (n : Nat) : (innB n || (n == 46)) = !(cls n == 0) := by
 rw [show (n == 46) = decide ((n : Int) = 46) by rw [Bool.eq_iff_iff, beq_iff_eq, decide_eq_true_iff]; omega]
 unfold innB smallB capB digB cls
 by_cases a : 97<=(n : Int)/\(n : Int)<=122 <;> by_cases b : 65<=(n : Int)/\(n : Int)<=90 <;> by_cases d : 48<=(n : Int)/\(n : Int)<=57 <;> by_cases e : (n : Int) = 95 <;> by_cases f : (n : Int) = 46 <;> simp [a, b, d, e, f] <;> omega
theorem isLabel_any (s : ByteArray) (w : World) (hs : s.size<=1000) :
 Calls Tryz.prog 93 #[.string s] w fun e w' => e = .returned (.bool (labB (bs s)))/\Below w.heap.size w w' := by
 by_cases h0 : s.size = 0
 ·have hn := tl_nil s h0
  go_enter Tryz.func93, Tryz.ntmps93
  go_wp2_with fail
  go_ret
  exact ⟨ret_bool (by simp [labB, bs_length, h0]), Below.refl _ _⟩
 ·have hn := tl_ne s h0
  have hn2 := tl_ne2 s h0
  by_cases h48 : 48 < s.size
  ·go_enter Tryz.func93, Tryz.ntmps93
   go_wp2_with fail
   go_ret
   exact ⟨ret_bool (by simp [labB, bs_length]; omega), Below.refl _ _⟩
  ·have hcv : ∀ u : World, (convert 9 60 (.string s)).run Tryz.prog u = .ok (.slice (some ⟨u.heap.size, 0, none⟩) s.size (grownCap u s.size 0 5)) (Lib.bytesWorld u 5 s) := fun u => Lib.run_convert_string_bytes u _ _ _ s Tryz.underlying9 Tryz.underlying60 Tryz.underlying5
   go_enter Tryz.func93, Tryz.ntmps93
   go_wp2_with fail
   have hc : ∀ j : Nat, j < s.size->(Lib.bytesWorld w 5 s).cell? ⟨w.heap.size, j, none⟩ = some (.int .u8 ((bs s).getD j 0).toNat) := fun j hj => Lib.bytesWorld_cell w _ s j hj
   have Hb := below_bytes 5 s (Below.refl w.heap.size w) (nLQ _)
   generalize Lib.bytesWorld w 5 s = W1 at *
   have Hc := hJQ hc
   clear hc hcv
   go_loop [15] (fun i => ∃ k : Nat, k<=s.size/\i = .int .i64 k/\Hid (dots ((bs s).take k) = true)) (fun i => s.size - (intOf i).toNat)
   case atStart => exact ⟨0, Nat.zero_le _, rfl, rfl⟩
   case round =>
    obtain ⟨j, hj, rfl, hin⟩ := hrel
    by_cases hlt : j < s.size
    ·have hc := Hc.out j hlt
     have hnx := dots_getD s j hlt
     have hfx := dots_falseD s j hlt
     generalize (bs s).getD j 0 = x at *
     have Hnx := hJQ hnx
     have Hfx := hJQ hfx
     clear hnx hfx
     obtain ⟨v0, v1⟩ := ub x
     have ec := cls_dot x.toNat
     cases hcx : (cls x.toNat == 0) with
     | true =>
       have Hcx := hJQ (ec.trans (by rw [hcx]))
       clear ec
       go_wp2_with fail
       refine (of_any _ _ (by assumption) (by assumption)).mono ?_
       rintro e w' ⟨rfl, rfl⟩
       go_wp2_with fail
       go_ret
       exact ⟨ret_bool (by unfold labB; rw [Hfx.out Hcx.out]; rfl), Hb⟩
     | false =>
       have Hcx := hJQ (ec.trans (by rw [hcx]))
       clear ec
       go_wp2_with fail
       refine (of_any _ _ (by assumption) (by assumption)).mono ?_
       rintro e w' ⟨rfl, rfl⟩
       go_wp2_with fail
       go_round
       case rel => exact ⟨j + 1, by omega, by go_num, by show _ = _; rw [Hnx.out, hin.out, Hcx.out]; rfl⟩
       case measure => simp [intOf]; omega
    ·go_wp2
     go_ret
     have hin' := hin.out
     rw [List.take_of_length_le (by rw [bs_length]; omega)] at hin'
     refine ⟨ret_bool ?_, Hb⟩
     unfold labB; rw [hin']; simp [bs_length]; omega
def ascP (l : List ByteArray) (i : Nat) : Bool := Op.bytesLess (l.getD i ByteArray.empty).toList (l.getD (i + 1) ByteArray.empty).toList
def ascB (l : List ByteArray) : Bool := (List.range (l.length - 1)).all (ascP l)
theorem ascB_false (l : List ByteArray) (k : Nat) (hk : k < l.length - 1) (h : ascP l k = false) : ascB l = false := by
 unfold ascB
 rw [List.all_eq_false]
 exact ⟨k, List.mem_range.2 hk, by rw [h]; simp⟩
theorem asc_next (l : List ByteArray) (k : Nat) (h : (List.range k).all (ascP l) = true) (hk : ascP l k = true) : (List.range (k + 1)).all (ascP l) = true := by
 rw [List.range_succ, List.all_append, h]; simp [hk]
theorem asc_any (v : Value) (l : List ByteArray) (w : World) (h : IsStrs w v l) (hl : l.length<=1000000) :
 Calls Tryz.prog 91 #[v] w fun e w' => e = .returned (.bool (ascB l))/\Below w.heap.size w w' := by
 obtain ⟨a, c, rfl, hlc, hcell⟩ := h
 by_cases hs : l.length<=1
 ·have hf : ascB l = true := by unfold ascB; rw [show l.length - 1 = 0 by omega]; rfl
  have Hf := hJQ hf
  clear hcell hf
  go_enter Tryz.func91, Tryz.ntmps91
  go_wp2
  go_loop [3] (fun i => i = .int .i64 1) (fun i => 0)
  case atStart => rfl
  case round =>
   subst hrel
   go_wp2
   go_ret
   exact ⟨ret_bool Hf.out.symm, Below.refl _ _⟩
 ·obtain ⟨b, off, rfl, hlt, hc⟩ := hcell (by intro h; rw [h] at hs; simp at hs)
  have Hc := hJQ hc
  clear hcell hc
  go_enter Tryz.func91, Tryz.ntmps91
  go_wp2
  go_loopw [3] (fun i wr => ∃ k : Nat, 1<=k/\k<=l.length/\i = .int .i64 k/\Hid ((List.range (k - 1)).all (ascP l) = true)/\Below w.heap.size w wr) (fun i _ => l.length - (intOf i).toNat)
  case atStart => exact ⟨1, Nat.le_refl _, by omega, rfl, rfl, Below.refl _ _⟩
  case round =>
   obtain ⟨k, hk1, hk, rfl, hall, hbr⟩ := hrel
   by_cases hkl : k < l.length
   ·have hc0 : wr.cell? ⟨b, off + (k - 1), none⟩ = some (.string (l.getD (k - 1) ByteArray.empty)) := by rw [hbr.cell (p := ⟨b, off + (k - 1), none⟩) hlt]; exact Hc.out (k - 1) (by omega)
    have hc1 : wr.cell? ⟨b, off + k, none⟩ = some (.string (l.getD k ByteArray.empty)) := by rw [hbr.cell (p := ⟨b, off + k, none⟩) hlt]; exact Hc.out k (by omega)
    have hP : ascP l (k - 1) = Op.bytesLess (l.getD (k - 1) ByteArray.empty).toList (l.getD k ByteArray.empty).toList := by unfold ascP; rw [show k - 1 + 1 = k by omega]
    have Hn := hJQ (asc_next l (k - 1) hall.out)
    have Hf := hJQ (ascB_false l (k - 1) (by omega))
    generalize l.getD (k - 1) ByteArray.empty = x at hc0 hP
    generalize l.getD k ByteArray.empty = y at hc1 hP
    have i0 : (0 : Int)<=(k : Int) - 1 := by omega
    have i1 : (k : Int) - 1 < (l.length : Int) := by omega
    have i2 : (k : Int) < (l.length : Int) := by omega
    have i3 : ((k : Int) - 1).toNat = k - 1 := by omega
    obtain ⟨bb, hbb⟩ : ∃ bb, Op.bytesLess x.toList y.toList = bb := ⟨_, rfl⟩
    have Hbb := hJQ (hP.trans hbb)
    clear hP
    cases bb
    ·go_wp2_with fail
     go_quiet (fail)
     go_wp2_with fail
     go_ret
     exact ⟨ret_bool (Hf.out Hbb.out).symm, bdrewN hbr _⟩
    ·have hnext : Hid ((List.range (k + 1 - 1)).all (ascP l) = true) := by
      show _ = _
      rw [show k + 1 - 1 = k - 1 + 1 by omega]; exact Hn.out Hbb.out
     go_wp2_with fail
     go_quiet (fail)
     go_wp2_with fail
     go_roundw
     case rel => exact ⟨k + 1, by omega, by omega, by go_num, hnext, bdrewN hbr _⟩
     case measure => simp [intOf]; omega
   ·go_wp2
    go_ret
    refine ⟨ret_bool ?_, hbr⟩
    obtain rfl : k = l.length := by omega
    exact hall.out.symm
theorem rAsc_any (v : Value) (l : List ByteArray) (w : World) (h : IsStrs w v l) (hl : l.length<=1000000) :
 Calls Tryz.prog 128 #[v] w fun e w' => e = .returned (.bool (ascB l))/\Below w.heap.size w w' := by
 obtain ⟨a, c, rfl, hlc, hcell⟩ := h
 by_cases hs : l.length<=1
 ·have hf : ascB l = true := by unfold ascB; rw [show l.length - 1 = 0 by omega]; rfl
  have Hf := hJQ hf
  clear hcell hf
  go_enter Tryz.func128, Tryz.ntmps128
  go_wp2
  go_loop [3] (fun i => i = .int .i64 1) (fun i => 0)
  case atStart => rfl
  case round =>
   subst hrel
   go_wp2
   go_ret
   exact ⟨ret_bool Hf.out.symm, Below.refl _ _⟩
 ·obtain ⟨b, off, rfl, hlt, hc⟩ := hcell (by intro h; rw [h] at hs; simp at hs)
  have Hc := hJQ hc
  clear hcell hc
  go_enter Tryz.func128, Tryz.ntmps128
  go_wp2
  go_loopw [3] (fun i wr => ∃ k : Nat, 1<=k/\k<=l.length/\i = .int .i64 k/\Hid ((List.range (k - 1)).all (ascP l) = true)/\Below w.heap.size w wr) (fun i _ => l.length - (intOf i).toNat)
  case atStart => exact ⟨1, Nat.le_refl _, by omega, rfl, rfl, Below.refl _ _⟩
  case round =>
   obtain ⟨k, hk1, hk, rfl, hall, hbr⟩ := hrel
   by_cases hkl : k < l.length
   ·have hc0 : wr.cell? ⟨b, off + (k - 1), none⟩ = some (.string (l.getD (k - 1) ByteArray.empty)) := by rw [hbr.cell (p := ⟨b, off + (k - 1), none⟩) hlt]; exact Hc.out (k - 1) (by omega)
    have hc1 : wr.cell? ⟨b, off + k, none⟩ = some (.string (l.getD k ByteArray.empty)) := by rw [hbr.cell (p := ⟨b, off + k, none⟩) hlt]; exact Hc.out k (by omega)
    have hP : ascP l (k - 1) = Op.bytesLess (l.getD (k - 1) ByteArray.empty).toList (l.getD k ByteArray.empty).toList := by unfold ascP; rw [show k - 1 + 1 = k by omega]
    have Hn := hJQ (asc_next l (k - 1) hall.out)
    have Hf := hJQ (ascB_false l (k - 1) (by omega))
    generalize l.getD (k - 1) ByteArray.empty = x at hc0 hP
    generalize l.getD k ByteArray.empty = y at hc1 hP
    have i0 : (0 : Int)<=(k : Int) - 1 := by omega
    have i1 : (k : Int) - 1 < (l.length : Int) := by omega
    have i2 : (k : Int) < (l.length : Int) := by omega
    have i3 : ((k : Int) - 1).toNat = k - 1 := by omega
    obtain ⟨bb, hbb⟩ : ∃ bb, Op.bytesLess x.toList y.toList = bb := ⟨_, rfl⟩
    have Hbb := hJQ (hP.trans hbb)
    clear hP
    cases bb
    ·go_wp2_with fail
     go_quiet (fail)
     go_wp2_with fail
     go_ret
     exact ⟨ret_bool (Hf.out Hbb.out).symm, bdrewN hbr _⟩
    ·have hnext : Hid ((List.range (k + 1 - 1)).all (ascP l) = true) := by
      show _ = _
      rw [show k + 1 - 1 = k - 1 + 1 by omega]; exact Hn.out Hbb.out
     go_wp2_with fail
     go_quiet (fail)
     go_wp2_with fail
     go_roundw
     case rel => exact ⟨k + 1, by omega, by omega, by go_num, hnext, bdrewN hbr _⟩
     case measure => simp [intOf]; omega
   ·go_wp2
    go_ret
    refine ⟨ret_bool ?_, hbr⟩
    obtain rfl : k = l.length := by omega
    exact hall.out.symm
def numF (acc : Nat) (l : List UInt8) : Nat := l.foldl (fun n c => n * 10 + (c.toNat - 48)) acc
def digsB (l : List UInt8) : Bool := l.all fun c => digB c.toNat
theorem numF_ge : ∀ (l : List UInt8) (acc : Nat), acc<=numF acc l
 | [], acc => Nat.le_refl _
 | c :: l, acc => by
   have := numF_ge l (acc * 10 + (c.toNat - 48))
   show acc<=numF (acc * 10 + (c.toNat - 48)) l
   omega
theorem digB_iff (c : UInt8) : digB c.toNat = true ↔ 48<=c.toNat/\c.toNat<=57 := by
 unfold digB; rw [decide_eq_true_iff]; omega
theorem parse_ok : ∀ (l : List UInt8) (acc : Nat), digsB l = true->numF acc l < 18446744073709551616->Lib.parseUint10 acc l = .ok (numF acc l)
 | [], acc, _, _ => rfl
 | c :: l, acc, hd, h => by
   unfold digsB at hd
   simp only [List.all_cons, Bool.and_eq_true] at hd
   have hc := (digB_iff c).1 hd.1
   have hge := numF_ge l (acc * 10 + (c.toNat - 48))
   have h' : numF (acc * 10 + (c.toNat - 48)) l < 18446744073709551616 := h
   unfold Lib.parseUint10
   rw [if_pos hc, if_neg (by omega), if_neg (by omega), parse_ok l _ hd.2 h']
   rfl
theorem parse_range : ∀ (l : List UInt8) (acc : Nat), digsB l = true->acc < 18446744073709551616->18446744073709551616<=numF acc l->Lib.parseUint10 acc l = .range
 | [], acc, _, ha, h => by exact absurd h (by show ¬ _<=acc; omega)
 | c :: l, acc, hd, ha, h => by
   unfold digsB at hd
   simp only [List.all_cons, Bool.and_eq_true] at hd
   have hc := (digB_iff c).1 hd.1
   unfold Lib.parseUint10
   rw [if_pos hc]
   by_cases h1 : 1844674407370955162<=acc
   ·rw [if_pos h1]
   ·rw [if_neg h1]
    by_cases h2 : 18446744073709551616<=acc * 10 + (c.toNat - 48)
    ·rw [if_pos h2]
    ·rw [if_neg h2]
     exact parse_range l _ hd.2 (by omega) h
theorem atoi_digs (l : List UInt8) (hne : l ≠ []) (hd : digsB l = true) : (numF 0 l < 9223372036854775808->Lib.atoiAll l = .ok (numF 0 l))/\(9223372036854775808<=numF 0 l->Lib.atoiAll l = .range) := by
 cases l with
 | nil => exact absurd rfl hne
 | cons c r =>
   have hc : 48<=c.toNat/\c.toNat<=57 := by
    unfold digsB at hd
    simp only [List.all_cons, Bool.and_eq_true] at hd
    exact (digB_iff c).1 hd.1
   have hb : ¬ (c.toNat = 43 ∨ c.toNat = 45) := by omega
   have hn : ¬ c.toNat = 45 := by omega
   constructor
   ·intro h
    unfold Lib.atoiAll Lib.parseMag
    simp only
    rw [if_neg hb, if_neg (by simp), parse_ok _ _ hd (by omega)]
    simp only [hn, not_false_eq_true, true_and, false_and, if_false]
    rw [if_neg (by omega)]
   ·intro h
    by_cases h2 : numF 0 (c :: r) < 18446744073709551616
    ·unfold Lib.atoiAll Lib.parseMag
     simp only
     rw [if_neg hb, if_neg (by simp), parse_ok _ _ hd h2]
     simp only [hn, not_false_eq_true, true_and, false_and, if_false]
     rw [if_pos h]
    ·unfold Lib.atoiAll Lib.parseMag
     simp only
     rw [if_neg hb, if_neg (by simp), parse_range _ _ hd (by omega) (by omega)]
def numT (l : List UInt8) : Int × Int :=
 if l = [] ∨ (1 < l.length/\(l.headD 0).toNat = 48) then (0, 3) else if digsB l = false then (0, 3) else if 4503599627370496 < numF 0 l then (0, 6) else ((numF 0 l : Int), 0)
def numV (l : List UInt8) : Value := .tuple #[.int .i64 (numT l).1, .int .i64 (numT l).2]
theorem digsB_take (s : ByteArray) (k : Nat) (h : k < s.size) : digsB ((bs s).take (k + 1)) = (digsB ((bs s).take k) && digB s[k].toNat) := by
 rw [take_snoc s k h]; simp [digsB]
theorem digsB_no (s : ByteArray) (k : Nat) (h : k < s.size) (hf : digB s[k].toNat = false) : digsB (bs s) = false := by
 unfold digsB
 rw [List.all_eq_false]
 exact ⟨s[k], by simp [bs, ByteArray.getElem_eq_getElem_data], by simp [hf]⟩
theorem getD_get (s : ByteArray) (k : Nat) (h : k < s.size) : (bs s).getD k 0 = s[k] := by simp [bs, ByteArray.getElem_eq_getElem_data, h]
theorem cls_dig (c : Int) : (cls c != 3) = !digB c := by
 unfold digB cls
 by_cases a : 97<=c/\c<=122 <;> by_cases b : 65<=c/\c<=90 <;> by_cases d : 48<=c/\c<=57 <;> by_cases e : c = 95 <;> by_cases f : c = 46 <;> simp [a, b, d, e, f] <;> omega
structure EnvN (w : World) : Prop where
 ml : ∃ m : Int, w.cell? ⟨1, 0, none⟩ = some (.int .i64 m)
 sz : 1 < w.heap.size
 er : ∃ tp p, w.var? Tryz.prog "strconv.ErrRange" = some #[.iface tp p]
theorem var_below {P : Program} {w w' : World} {n : String} {cs : Array Value} (h : w.var? P n = some cs) (hb : Below w.heap.size w w') : w'.var? P n = some cs := by
 unfold World.var? at h ⊢
 cases hg : P.globalNamed n with
 | none => simp [hg] at h
 | some g =>
   simp only [hg, Option.bind_some] at h ⊢
   have hlt : g < w.heap.size := by
    rcases Nat.lt_or_ge g w.heap.size with h' | h'
    ·exact h'
    ·simp [Array.getElem?_eq_none h'] at h
   rw [hb.block g hlt]
   exact h
theorem EnvN.below {w w' : World} (h : EnvN w) (hb : Below w.heap.size w w') : EnvN w' :=
 ⟨by obtain ⟨m, hm⟩ := h.ml; exact ⟨m, (hb.cell (p := ⟨1, 0, none⟩) h.sz).trans hm⟩, Nat.lt_of_lt_of_le h.sz hb.size, by obtain ⟨tp, p, hp⟩ := h.er; exact ⟨tp, p, var_below hp hb⟩⟩
theorem number_any (s : ByteArray) (w : World) (hE : EnvN w) (hs : s.size<=1000) :
 Calls Tryz.prog 117 #[.string s] w fun e w' => e = .returned (numV (bs s))/\Below w.heap.size w w' := by
 by_cases h0 : s.size = 0
 ·have hn := tl_nil s h0
  have hv : Hid (numV (bs s) = .tuple #[.int .i64 0, .int .i64 3]) := by
   show _ = _
   have : bs s = [] := List.length_eq_zero_iff.1 (by rw [bs_length]; exact h0)
   unfold numV numT; rw [this]; rfl
  go_enter Tryz.func117, Tryz.ntmps117
  go_wp2_with fail
  go_ret2
  exact ⟨by rw [hv.out]; rfl, Below.refl _ _⟩
 ·have hn := tl_ne s h0
  have hn2 := tl_ne2 s h0
  have hp : 0 < s.size := by omega
  have hh := bs_head s hp
  have hne : bs s ≠ [] := by intro e; have := bs_length s; rw [e] at this; simp at this; omega
  by_cases hz : 1 < s.size/\(s[0].toNat : Int) = 48
  ·obtain ⟨hz1, hz2⟩ := hz
   have hz3 : ((s[0].toNat : Int) == 48) = true := by rw [hz2]; rfl
   have hv : Hid (numV (bs s) = .tuple #[.int .i64 0, .int .i64 3]) := by
    show _ = _
    unfold numV numT
    rw [if_pos (.inr ⟨by rw [bs_length]; exact hz1, by rw [hh]; omega⟩)]
   clear hz2 hh
   go_enter Tryz.func117, Tryz.ntmps117
   go_wp2_with fail
   go_ret2
   exact ⟨by rw [hv.out]; rfl, Below.refl _ _⟩
  ·have hT : Hid (numT (bs s) = if digsB (bs s) = false then (0, 3) else if 4503599627370496 < numF 0 (bs s) then (0, 6) else ((numF 0 (bs s) : Int), 0)) := by
    show _ = _
    unfold numT
    rw [if_neg]
    rintro (h | ⟨h1, h2⟩)
    ·exact hne h
    ·exact hz ⟨by rw [bs_length] at h1; exact h1, by rw [hh] at h2; omega⟩
   have hdec : (s.size = 1) ∨ (1 < s.size/\((s[0].toNat : Int) == 48) = false) := by
    by_cases h1 : s.size = 1
    ·exact .inl h1
    ·right; refine ⟨by omega, ?_⟩
     rw [beq_eq_false_iff_ne]; intro e; exact hz ⟨by omega, e⟩
   have hcv : ∀ u : World, (convert 9 60 (.string s)).run Tryz.prog u = .ok (.slice (some ⟨u.heap.size, 0, none⟩) s.size (grownCap u s.size 0 5)) (Lib.bytesWorld u 5 s) := fun u => Lib.run_convert_string_bytes u _ _ _ s Tryz.underlying9 Tryz.underlying60 Tryz.underlying5
   have Hne := hJQ hne
   have h1a : ¬ 1 < s.size ∨ (1 < s.size/\((s[0].toNat : Int) == 48) = false) := hdec.imp (fun h => by omega) id
   clear hz hh hne hdec
   rcases h1a with h1a | ⟨h1a, h1b⟩
   all_goals
    go_enter Tryz.func117, Tryz.ntmps117
    go_wp2_with fail
    have hc : ∀ j : Nat, j < s.size->(Lib.bytesWorld w 5 s).cell? ⟨w.heap.size, j, none⟩ = some (.int .u8 ((bs s).getD j 0).toNat) := fun j hj => Lib.bytesWorld_cell w _ s j hj
    have Hb := below_bytes 5 s (Below.refl w.heap.size w) (nLQ _)
    have hE1 := hE.below Hb
    generalize Lib.bytesWorld w 5 s = W1 at hc Hb hE1 ⊢
    have Hc := hJQ hc
    clear hc hcv
    go_loop [23] (fun i => ∃ k : Nat, k<=s.size/\i = .int .i64 k/\Hid (digsB ((bs s).take k) = true)) (fun i => s.size - (intOf i).toNat)
    case atStart => exact ⟨0, Nat.zero_le _, rfl, rfl⟩
    case round =>
     obtain ⟨j, hj, rfl, hin⟩ := hrel
     by_cases hlt : j < s.size
     ·have hc := Hc.out j hlt
      rw [getD_get s j hlt] at hc
      have Hnx := hJQ (digsB_take s j hlt)
      have Hfx := hJQ (digsB_no s j hlt)
      generalize s[j] = x at *
      obtain ⟨v0, v1⟩ := ub x
      have ec := cls_dig x.toNat
      cases hcx : digB x.toNat with
      | false =>
        rw [hcx] at ec
        have Hcx := hJQ hcx
        have hv : Hid (numV (bs s) = .tuple #[.int .i64 0, .int .i64 3]) := by
         show _ = _
         unfold numV; rw [hT.out, if_pos (Hfx.out hcx)]
        clear hcx
        go_wp2_with fail
        refine (of_any _ _ (by assumption) (by assumption)).mono ?_
        rintro e w' ⟨rfl, rfl⟩
        go_wp2_with fail
        go_ret2
        exact ⟨by rw [hv.out]; rfl, Hb⟩
      | true =>
        rw [hcx] at ec
        have Hcx := hJQ hcx
        clear hcx
        go_wp2_with fail
        refine (of_any _ _ (by assumption) (by assumption)).mono ?_
        rintro e w' ⟨rfl, rfl⟩
        go_wp2_with fail
        go_round
        case rel => exact ⟨j + 1, by omega, by go_num, by show _ = _; rw [Hnx.out, hin.out, Hcx.out]; rfl⟩
        case measure => simp [intOf]; omega
     ·have hin' := hin.out
      rw [List.take_of_length_le (by rw [bs_length]; omega)] at hin'
      obtain ⟨ha1, ha2⟩ := atoi_digs (bs s) Hne.out hin'
      have hT2 := hT.out
      rw [if_neg (by rw [hin']; simp)] at hT2
      have HT2 := hJQ hT2
      clear hin' hT2 hT
      by_cases hbig : numF 0 (bs s) < 9223372036854775808
      ·have H := hJQ (Tryz.strconv_Atoi_ok s (by omega) _ (ha1 hbig) W1)
       clear ha1 ha2
       generalize numF 0 (bs s) = n at *
       by_cases hm : 4503599627370496 < n
       ·have hv : Hid (numV (bs s) = .tuple #[.int .i64 0, .int .i64 6]) := by
         show _ = _
         unfold numV; rw [HT2.out, if_pos hm]
        go_wp2_with fail
        refine H.out.mono ?_
        rintro e w2 ⟨rfl, hw2⟩
        have hb2 : Below w.heap.size w w2 := by
         rcases hw2 with rfl | ⟨t, rfl⟩
         ·exact Hb
         ·exact below_bytes _ t Hb Hb.size
        clear hw2
        go_wp2_with fail
        go_ret2
        exact ⟨by rw [hv.out]; rfl, hb2⟩
       ·have hv : Hid (numV (bs s) = .tuple #[.int .i64 n, .int .i64 0]) := by
         show _ = _
         unfold numV; rw [HT2.out, if_neg hm]
        go_wp2_with fail
        refine H.out.mono ?_
        rintro e w2 ⟨rfl, hw2⟩
        have hb2 : Below w.heap.size w w2 := by
         rcases hw2 with rfl | ⟨t, rfl⟩
         ·exact Hb
         ·exact below_bytes _ t Hb Hb.size
        clear hw2
        go_wp2_with fail
        go_ret2
        exact ⟨by rw [hv.out]; rfl, hb2⟩
      ·obtain ⟨tp, p, hvar⟩ := hE1.er
       have H := hJQ (Tryz.strconv_Atoi_range_var s (by omega) (ha2 (by omega)) tp p W1 hvar)
       have hv : Hid (numV (bs s) = .tuple #[.int .i64 0, .int .i64 6]) := by
        show _ = _
        unfold numV; rw [HT2.out, if_pos (by omega)]
       clear ha1 ha2 hbig hvar
       go_wp2_with fail
       refine H.out.mono ?_
       rintro e w2 ⟨N, rfl, _, _, hb2⟩
       have hb3 : Below w.heap.size w w2 := Hb.trans (hb2.mono Hb.size)
       go_wp2_with fail
       go_ret2
       exact ⟨by rw [hv.out]; rfl, hb3⟩
theorem numF_snoc (l : List UInt8) (c : UInt8) : numF 0 (l ++ [c]) = numF 0 l * 10 + (c.toNat - 48) := by simp [numF]
theorem numF_take (s : ByteArray) (k : Nat) (h : k < s.size) : numF 0 ((bs s).take (k + 1)) = numF 0 ((bs s).take k) * 10 + (s[k].toNat - 48) := by
 rw [take_snoc s k h, numF_snoc]
def SatSlot (s : ByteArray) (k : Nat) (v : Value) : Prop := ∃ m : Nat, v = .int .i64 m/\m<=4503599627370497/\m = min 4503599627370497 (numF 0 ((bs s).take k))
theorem sat_next (a m d : Nat) (hm : m = min 4503599627370497 a) : min 4503599627370497 (a * 10 + d) = min 4503599627370497 (10 * m + d) := by omega
theorem rNumber_any (s : ByteArray) (w : World) (hs : s.size<=1000) :
 Calls Tryz.prog 129 #[.string s] w fun e w' => e = .returned (numV (bs s))/\w = w' := by
 by_cases h0 : s.size = 0
 ·have hv : Hid (numV (bs s) = .tuple #[.int .i64 0, .int .i64 3]) := by
   show _ = _
   have : bs s = [] := List.length_eq_zero_iff.1 (by rw [bs_length]; exact h0)
   unfold numV numT; rw [this]; rfl
  go_enter Tryz.func129, Tryz.ntmps129
  go_wp2_with fail
  go_ret2
  exact ⟨by rw [hv.out]; rfl, rfl⟩
 ·have hp : 0 < s.size := by omega
  have hh := bs_head s hp
  have hne : bs s ≠ [] := by intro e; have := bs_length s; rw [e] at this; simp at this; omega
  have hq0 : ((s.size : Int) == 0) = false := by rw [beq_eq_false_iff_ne]; omega
  by_cases hz : 1 < s.size/\(s[0].toNat : Int) = 48
  ·obtain ⟨hz1, hz2⟩ := hz
   have hz3 : ((s[0].toNat : Int) == 48) = true := by rw [hz2]; rfl
   have hv : Hid (numV (bs s) = .tuple #[.int .i64 0, .int .i64 3]) := by
    show _ = _
    unfold numV numT
    rw [if_pos (.inr ⟨by rw [bs_length]; exact hz1, by rw [hh]; omega⟩)]
   clear hz2 hh
   go_enter Tryz.func129, Tryz.ntmps129
   go_wp2_with fail
   go_ret2
   exact ⟨by rw [hv.out]; rfl, rfl⟩
  ·have hT : Hid (numT (bs s) = if digsB (bs s) = false then (0, 3) else if 4503599627370496 < numF 0 (bs s) then (0, 6) else ((numF 0 (bs s) : Int), 0)) := by
    show _ = _
    unfold numT
    rw [if_neg]
    rintro (h | ⟨h1, h2⟩)
    ·exact hne h
    ·exact hz ⟨by rw [bs_length] at h1; exact h1, by rw [hh] at h2; omega⟩
   have hdec : (¬ 1 < s.size) ∨ (1 < s.size/\((s[0].toNat : Int) == 48) = false) := by
    by_cases h1 : s.size = 1
    ·exact .inl (by omega)
    ·right; refine ⟨by omega, ?_⟩
     rw [beq_eq_false_iff_ne]; intro e; exact hz ⟨by omega, e⟩
   clear hz hh hne
   rcases hdec with h1a | ⟨h1a, h1b⟩
   all_goals
    go_enter Tryz.func129, Tryz.ntmps129
    go_wp2_with fail
    go_loop [4, 5] (fun v i => ∃ k : Nat, k<=s.size/\i = .int .i64 k/\Hid (digsB ((bs s).take k) = true)/\SatSlot s k v) (fun _ i => s.size - (intOf i).toNat)
    case atStart => exact ⟨0, Nat.zero_le _, rfl, rfl, 0, rfl, by omega, rfl⟩
    case round =>
     obtain ⟨j, hj, rfl, hin, m, rfl, hm, hmv⟩ := hrel
     have Hmv := hJQ hmv
     clear hmv
     by_cases hlt : j < s.size
     ·have Hnx := hJQ (digsB_take s j hlt)
      have Hfx := hJQ (digsB_no s j hlt)
      have Hnf := hJQ (numF_take s j hlt)
      have ⟨v0, v1⟩ := ub s[j]
      cases hcx : digB s[j].toNat with
      | false =>
        have Hcx := hJQ hcx
        have hv : Hid (numV (bs s) = .tuple #[.int .i64 0, .int .i64 3]) := by
         show _ = _
         unfold numV; rw [hT.out, if_pos (Hfx.out hcx)]
        clear hcx
        go_wp2_with fail
        refine (digit_any _ _ (by assumption) (by assumption)).mono ?_
        rintro e w' ⟨rfl, rfl⟩
        rw [Hcx.out]
        go_wp2_with fail
        go_ret2
        exact ⟨by rw [hv.out]; rfl, rfl⟩
      | true =>
        have Hcx := hJQ hcx
        have hd := (digB_iff s[j]).1 hcx
        have d0 : (48 : Int)<=(s[j].toNat : Int) := by omega
        have d1 : (s[j].toNat : Int)<=57 := by omega
        have Hs := hJQ (sat_next _ m (s[j].toNat - 48) Hmv.out)
        clear hcx hd
        go_wp2_with fail
        refine (digit_any _ _ (by assumption) (by assumption)).mono ?_
        rintro e w' ⟨rfl, rfl⟩
        rw [Hcx.out]
        go_wp2_with fail
        go_round
        case rel =>
         refine ⟨j + 1, by omega, by go_num, by show _ = _; rw [Hnx.out, hin.out, Hcx.out]; rfl, min 4503599627370497 (10 * m + (s[j].toNat - 48)), ?_, Nat.min_le_left _ _, ?_⟩
         ·congr 1; omega
         ·rw [Hnf.out, Hs.out]
        case measure => simp [intOf]; omega
     ·have hin' := hin.out
      have hmv := Hmv.out
      rw [List.take_of_length_le (by rw [bs_length]; omega)] at hin' hmv
      have hT2 := hT.out
      rw [if_neg (by rw [hin']; simp)] at hT2
      have HT2 := hJQ hT2
      have Hm2 := hJQ hmv
      clear hin' hT2 hT hmv
      by_cases hbig : 4503599627370496 < m
      ·have hv : Hid (numV (bs s) = .tuple #[.int .i64 0, .int .i64 6]) := by
        show _ = _
        unfold numV; rw [HT2.out, if_pos (by have := Hm2.out; omega)]
       go_wp2_with fail
       go_ret2
       exact ⟨by rw [hv.out]; rfl, rfl⟩
      ·have hv : Hid (numV (bs s) = .tuple #[.int .i64 m, .int .i64 0]) := by
        show _ = _
        unfold numV; rw [HT2.out, if_neg (by have := Hm2.out; omega)]
        have : numF 0 (bs s) = m := by have := Hm2.out; omega
        rw [this]
       go_wp2_with fail
       go_ret2
       exact ⟨by rw [hv.out]; rfl, rfl⟩
end Go.Proofs.YtkiffgdinmpljaaGreatDoor

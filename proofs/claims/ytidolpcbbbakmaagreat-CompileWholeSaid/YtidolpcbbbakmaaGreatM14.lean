/- The look at one node of a flat function (printed by gen_form.py). -/
import Derived.Test.YtidolpcbbbakmaaGreatM7
import Derived.Test.YtidolpcbbbakmaaGreatM12
namespace Go.Proofs.YtidolpcbbbakmaaGreat
open Go Go.RowKit

theorem formE_2 {caps : Int} {clo : Int → Int → Bool} {loc n : Int} {s : ByteArray} {k : Nat} (hs : (2 : Int) = 3 ∨ s.size = 0) : formB caps clo loc 2 n s k = (decide (k = 0) && inB n (-4503599627370496) 4503599627370496) := by
  unfold formB
  rw [if_neg (by omega), if_pos (rfl)]
theorem formE_3 {caps : Int} {clo : Int → Int → Bool} {loc n : Int} {s : ByteArray} {k : Nat} (hs : (3 : Int) = 3 ∨ s.size = 0) : formB caps clo loc 3 n s k = (decide (k = 0) && (decide (n = 0) && decide (s.size ≤ 16384))) := by
  unfold formB
  rw [if_neg (by omega), if_neg (by decide), if_pos (rfl)]
theorem formE_6 {caps : Int} {clo : Int → Int → Bool} {loc n : Int} {s : ByteArray} {k : Nat} (hs : (6 : Int) = 3 ∨ s.size = 0) : formB caps clo loc 6 n s k = (decide (n = 0) && decide (k ≤ 1000)) := by
  unfold formB
  rw [if_neg (by omega), if_neg (by decide), if_neg (by decide), if_pos (rfl)]
theorem formE_7 {caps : Int} {clo : Int → Int → Bool} {loc n : Int} {s : ByteArray} {k : Nat} (hs : (7 : Int) = 3 ∨ s.size = 0) : formB caps clo loc 7 n s k = (decide (k = 1) && inB n 0 999) := by
  unfold formB
  rw [if_neg (by omega), if_neg (by decide), if_neg (by decide), if_neg (by decide), if_pos (.inl rfl)]
theorem formE_8 {caps : Int} {clo : Int → Int → Bool} {loc n : Int} {s : ByteArray} {k : Nat} (hs : (8 : Int) = 3 ∨ s.size = 0) : formB caps clo loc 8 n s k = (decide (k = 1) && inB n 0 999) := by
  unfold formB
  rw [if_neg (by omega), if_neg (by decide), if_neg (by decide), if_neg (by decide), if_pos (.inr rfl)]
theorem formE_9 {caps : Int} {clo : Int → Int → Bool} {loc n : Int} {s : ByteArray} {k : Nat} (hs : (9 : Int) = 3 ∨ s.size = 0) : formB caps clo loc 9 n s k = (decide (n = 0) && inB k 2 1001) := by
  unfold formB
  rw [if_neg (by omega), if_neg (by decide), if_neg (by decide), if_neg (by decide), if_neg (by decide), if_pos (rfl)]
theorem formE_11 {caps : Int} {clo : Int → Int → Bool} {loc n : Int} {s : ByteArray} {k : Nat} (hs : (11 : Int) = 3 ∨ s.size = 0) : formB caps clo loc 11 n s k = (decide (n = 0) && decide (k = 2)) := by
  unfold formB
  rw [if_neg (by omega), if_neg (by decide), if_neg (by decide), if_neg (by decide), if_neg (by decide), if_neg (by decide), if_pos (.inl rfl)]
theorem formE_25 {caps : Int} {clo : Int → Int → Bool} {loc n : Int} {s : ByteArray} {k : Nat} (hs : (25 : Int) = 3 ∨ s.size = 0) : formB caps clo loc 25 n s k = (decide (n = 0) && decide (k = 2)) := by
  unfold formB
  rw [if_neg (by omega), if_neg (by decide), if_neg (by decide), if_neg (by decide), if_neg (by decide), if_neg (by decide), if_pos (.inr rfl)]
theorem formE_12 {caps : Int} {clo : Int → Int → Bool} {loc n : Int} {s : ByteArray} {k : Nat} (hs : (12 : Int) = 3 ∨ s.size = 0) : formB caps clo loc 12 n s k = (inB n 1 14 && decide ((k : Int) = ref46_arity n)) := by
  unfold formB
  rw [if_neg (by omega), if_neg (by decide), if_neg (by decide), if_neg (by decide), if_neg (by decide), if_neg (by decide), if_neg (by decide), if_pos (rfl)]
theorem formE_13 {caps : Int} {clo : Int → Int → Bool} {loc n : Int} {s : ByteArray} {k : Nat} (hs : (13 : Int) = 3 ∨ s.size = 0) : formB caps clo loc 13 n s k = (decide (k = 0) && inB n 1 1000000) := by
  unfold formB
  rw [if_neg (by omega), if_neg (by decide), if_neg (by decide), if_neg (by decide), if_neg (by decide), if_neg (by decide), if_neg (by decide), if_neg (by decide), if_pos (rfl)]
theorem formE_21 {caps : Int} {clo : Int → Int → Bool} {loc n : Int} {s : ByteArray} {k : Nat} (hs : (21 : Int) = 3 ∨ s.size = 0) : formB caps clo loc 21 n s k = (decide (k = 0) && inB n 0 (loc - 1)) := by
  unfold formB
  rw [if_neg (by omega), if_neg (by decide), if_neg (by decide), if_neg (by decide), if_neg (by decide), if_neg (by decide), if_neg (by decide), if_neg (by decide), if_neg (by decide), if_pos (rfl)]
theorem formE_22 {caps : Int} {clo : Int → Int → Bool} {loc n : Int} {s : ByteArray} {k : Nat} (hs : (22 : Int) = 3 ∨ s.size = 0) : formB caps clo loc 22 n s k = (decide (k = 0) && decide (n = 0)) := by
  unfold formB
  rw [if_neg (by omega), if_neg (by decide), if_neg (by decide), if_neg (by decide), if_neg (by decide), if_neg (by decide), if_neg (by decide), if_neg (by decide), if_neg (by decide), if_neg (by decide), if_pos (rfl)]
theorem formE_23 {caps : Int} {clo : Int → Int → Bool} {loc n : Int} {s : ByteArray} {k : Nat} (hs : (23 : Int) = 3 ∨ s.size = 0) : formB caps clo loc 23 n s k = (decide (k = 0) && inB n 0 (caps - 1)) := by
  unfold formB
  rw [if_neg (by omega), if_neg (by decide), if_neg (by decide), if_neg (by decide), if_neg (by decide), if_neg (by decide), if_neg (by decide), if_neg (by decide), if_neg (by decide), if_neg (by decide), if_neg (by decide), if_pos (rfl)]
theorem formE_24 {caps : Int} {clo : Int → Int → Bool} {loc n : Int} {s : ByteArray} {k : Nat} (hs : (24 : Int) = 3 ∨ s.size = 0) : formB caps clo loc 24 n s k = (decide (k ≤ 1000) && clo n k) := by
  unfold formB
  rw [if_neg (by omega), if_neg (by decide), if_neg (by decide), if_neg (by decide), if_neg (by decide), if_neg (by decide), if_neg (by decide), if_neg (by decide), if_neg (by decide), if_neg (by decide), if_neg (by decide), if_neg (by decide), if_pos (rfl)]
theorem formE_s {caps : Int} {clo : Int → Int → Bool} {loc n : Int} {s : ByteArray} {k : Nat} {op : Int} (h1 : op ≠ 3) (h2 : s.size ≠ 0) : formB caps clo loc op n s k = false := by
  unfold formB; rw [if_pos ⟨h1, h2⟩]
theorem formE_no {caps : Int} {clo : Int → Int → Bool} {loc n : Int} {s : ByteArray} {k : Nat} {op : Int} (h : ¬ (op = 2 ∨ op = 3 ∨ op = 6 ∨ op = 7 ∨ op = 8 ∨ op = 9 ∨ op = 11 ∨ op = 12 ∨ op = 13 ∨ op = 21 ∨ op = 22 ∨ op = 23 ∨ op = 24 ∨ op = 25)) : formB caps clo loc op n s k = false := by
  cases hb : formB caps clo loc op n s k
  · rfl
  · exact absurd (form_ops hb) h
theorem size_zero {s : ByteArray} (h : s.size = 0) : s = ⟨#[]⟩ := by
  cases s with
  | mk d => congr 1; exact Array.eq_empty_of_size_eq_zero h
theorem size_some {s : ByteArray} (h : s.size ≠ 0) : s.toList.isEmpty = false ∧ ¬ s.toList = [] ∧ s ≠ ⟨#[]⟩ := by
  have h1 : ¬ s.toList = [] := fun e => h (by
    have h2 : s.toList.length = s.size := by rw [ByteArray.toList_eq, Array.length_toList]; rfl
    rw [e] at h2; exact h2.symm)
  refine ⟨?_, h1, fun e => h (by rw [e]; rfl)⟩
  cases hl : s.toList with
  | nil => exact absurd hl h1
  | cons _ _ => rfl
theorem carity_any (n : Int) (w : World) : Calls Tryz.prog 96 #[.int .i64 n] w fun e w' => e = .returned (.int .i64 (ref46_arity n)) ∧ w = w' := by
  go_enter Tryz.func96, Tryz.ntmps96
  go_wp2
  all_goals
    go_ret
    refine ⟨ret_int ?_, rfl⟩
    simp only [beq_iff_eq, beq_eq_false_iff_ne, ne_eq] at *
    unfold ref46_arity
    repeat' split
    all_goals omega
def bindB (op part : Int) : Bool := (op == 11 || op == 9) && decide (0 < part)
theorem cbinds_any (op part : Int) (w : World) : Calls Tryz.prog 79 #[.int .i64 op, .int .i64 part] w fun e w' => e = .returned (.bool (bindB op part)) ∧ w = w' := by
  go_enter Tryz.func79, Tryz.ntmps79
  go_wp2
  all_goals
    go_ret
    refine ⟨ret_bool ?_, rfl⟩
    unfold bindB
    simp_all
def FormOk (b : Bool) (w : World) (e : Ending) (w' : World) : Prop := e = .returned (.bool b) ∧ Below w.heap.size w w'
theorem box_exp (op n : Int) (s : ByteArray) (v : Value) (w : World) : Below w.heap.size w (w.alloc (.cells #[.int .i64 op, .int .i64 n, .string s, v] 29)) := (Below.refl _ _).alloc (Nat.le_refl _) _
set_option maxHeartbeats 1000000 in
set_option maxRecDepth 100000 in
theorem form_s_any (cb : Nat) (caps : Int) (cf : Value) (clo : Int → Int → Bool) (n loc : Int) (s : ByteArray) (a : Option Addr) (k c : Nat) (w : World) (op : Int) (h1 : op ≠ 3) (hs : s.size ≠ 0) :
    Calls Tryz.prog 87 #[.pointer (some ⟨cb, 0, none⟩), .agg #[.int .i64 op, .int .i64 n, .string s, .slice a k c], .int .i64 loc] w (FormOk (formB caps clo loc op n s k) w) := by
  have hb := box_exp op n s (.slice a k c) w
  have hE : Hid (formB caps clo loc op n s k = false) := formE_s h1 hs
  obtain ⟨s1, s2, s3⟩ := size_some hs
  have o1 : (op == 3) = false := beq_eq_false_iff_ne.2 h1
  go_enter Tryz.func87, Tryz.ntmps87
  go_wp2_with fail
  go_ret
  exact ⟨by rw [hE.out]; rfl, hb⟩
set_option maxHeartbeats 1000000 in
set_option maxRecDepth 100000 in
theorem form_2_any (cb : Nat) (caps : Int) (cf : Value) (clo : Int → Int → Bool) (n loc : Int) (s : ByteArray) (a : Option Addr) (k c : Nat) (w : World) (hs : s.size = 0) :
    Calls Tryz.prog 87 #[.pointer (some ⟨cb, 0, none⟩), .agg #[.int .i64 2, .int .i64 n, .string s, .slice a k c], .int .i64 loc] w (FormOk (formB caps clo loc 2 n s k) w) := by
  have hb := box_exp 2 n s (.slice a k c) w
  have hE : Hid (formB caps clo loc 2 n s k = _) := formE_2 (.inr hs)
  obtain rfl := size_zero hs
  clear hs
  by_cases h0 : k = 0
  · subst h0
    go_enter Tryz.func87, Tryz.ntmps87
    go_wp2_with fail
    refine (cwithin_any _ _ _ _).mono ?_
    rintro e w' ⟨rfl, rfl⟩
    go_wp2_with fail
    go_ret
    exact ⟨by rw [hE.out]; rfl, hb⟩
  · have h1 : ¬ (k : Int) = 0 := by omega
    have h2 : ((k : Int) == 0) = false := beq_eq_false_iff_ne.2 h1
    have h3 : decide (k = 0) = false := decide_eq_false h0
    go_enter Tryz.func87, Tryz.ntmps87
    go_wp2_with fail
    go_ret
    exact ⟨by rw [hE.out]; rw [h3]; rfl, hb⟩
set_option maxHeartbeats 1000000 in
set_option maxRecDepth 100000 in
theorem form_13_any (cb : Nat) (caps : Int) (cf : Value) (clo : Int → Int → Bool) (n loc : Int) (s : ByteArray) (a : Option Addr) (k c : Nat) (w : World) (hs : s.size = 0) :
    Calls Tryz.prog 87 #[.pointer (some ⟨cb, 0, none⟩), .agg #[.int .i64 13, .int .i64 n, .string s, .slice a k c], .int .i64 loc] w (FormOk (formB caps clo loc 13 n s k) w) := by
  have hb := box_exp 13 n s (.slice a k c) w
  have hE : Hid (formB caps clo loc 13 n s k = _) := formE_13 (.inr hs)
  obtain rfl := size_zero hs
  clear hs
  by_cases h0 : k = 0
  · subst h0
    go_enter Tryz.func87, Tryz.ntmps87
    go_wp2_with fail
    refine (cwithin_any _ _ _ _).mono ?_
    rintro e w' ⟨rfl, rfl⟩
    go_wp2_with fail
    go_ret
    exact ⟨by rw [hE.out]; rfl, hb⟩
  · have h1 : ¬ (k : Int) = 0 := by omega
    have h2 : ((k : Int) == 0) = false := beq_eq_false_iff_ne.2 h1
    have h3 : decide (k = 0) = false := decide_eq_false h0
    go_enter Tryz.func87, Tryz.ntmps87
    go_wp2_with fail
    go_ret
    exact ⟨by rw [hE.out]; rw [h3]; rfl, hb⟩
set_option maxHeartbeats 1000000 in
set_option maxRecDepth 100000 in
theorem form_21_any (cb : Nat) (caps : Int) (cf : Value) (clo : Int → Int → Bool) (n loc : Int) (s : ByteArray) (a : Option Addr) (k c : Nat) (w : World) (hs : s.size = 0) (hl0 : 0 ≤ loc) (hl1 : loc ≤ 1000000) :
    Calls Tryz.prog 87 #[.pointer (some ⟨cb, 0, none⟩), .agg #[.int .i64 21, .int .i64 n, .string s, .slice a k c], .int .i64 loc] w (FormOk (formB caps clo loc 21 n s k) w) := by
  have hb := box_exp 21 n s (.slice a k c) w
  have hE : Hid (formB caps clo loc 21 n s k = _) := formE_21 (.inr hs)
  obtain rfl := size_zero hs
  clear hs
  by_cases h0 : k = 0
  · subst h0
    go_enter Tryz.func87, Tryz.ntmps87
    go_wp2_with fail
    refine (cwithin_any _ _ _ _).mono ?_
    rintro e w' ⟨rfl, rfl⟩
    go_wp2_with fail
    go_ret
    exact ⟨by rw [hE.out]; rfl, hb⟩
  · have h1 : ¬ (k : Int) = 0 := by omega
    have h2 : ((k : Int) == 0) = false := beq_eq_false_iff_ne.2 h1
    have h3 : decide (k = 0) = false := decide_eq_false h0
    go_enter Tryz.func87, Tryz.ntmps87
    go_wp2_with fail
    go_ret
    exact ⟨by rw [hE.out]; rw [h3]; rfl, hb⟩
set_option maxHeartbeats 1000000 in
set_option maxRecDepth 100000 in
theorem form_22_any (cb : Nat) (caps : Int) (cf : Value) (clo : Int → Int → Bool) (n loc : Int) (s : ByteArray) (a : Option Addr) (k c : Nat) (w : World) (hs : s.size = 0) :
    Calls Tryz.prog 87 #[.pointer (some ⟨cb, 0, none⟩), .agg #[.int .i64 22, .int .i64 n, .string s, .slice a k c], .int .i64 loc] w (FormOk (formB caps clo loc 22 n s k) w) := by
  have hb := box_exp 22 n s (.slice a k c) w
  have hE : Hid (formB caps clo loc 22 n s k = _) := formE_22 (.inr hs)
  obtain rfl := size_zero hs
  clear hs
  by_cases h0 : k = 0
  · subst h0
    by_cases hn : n = 0
    · subst hn
      go_enter Tryz.func87, Tryz.ntmps87
      go_wp2_with fail
      go_ret
      exact ⟨by rw [hE.out]; rfl, hb⟩
    · have n1 : (n == 0) = false := beq_eq_false_iff_ne.2 hn
      have n2 : decide (n = 0) = false := decide_eq_false hn
      go_enter Tryz.func87, Tryz.ntmps87
      go_wp2_with fail
      go_ret
      exact ⟨by rw [hE.out]; rw [n2]; rfl, hb⟩
  · have h1 : ¬ (k : Int) = 0 := by omega
    have h2 : ((k : Int) == 0) = false := beq_eq_false_iff_ne.2 h1
    have h3 : decide (k = 0) = false := decide_eq_false h0
    go_enter Tryz.func87, Tryz.ntmps87
    go_wp2_with fail
    go_ret
    exact ⟨by rw [hE.out]; rw [h3]; rfl, hb⟩
set_option maxHeartbeats 1000000 in
set_option maxRecDepth 100000 in
theorem form_23_any (cb : Nat) (caps : Int) (cf : Value) (clo : Int → Int → Bool) (n loc : Int) (s : ByteArray) (a : Option Addr) (k c : Nat) (w : World) (hs : s.size = 0) (hC : w.heap[cb]? = some (.cells #[.int .i64 caps, cf] 122 (0, 0))) (hc0 : 0 ≤ caps) (hc1 : caps ≤ 1000) :
    Calls Tryz.prog 87 #[.pointer (some ⟨cb, 0, none⟩), .agg #[.int .i64 23, .int .i64 n, .string s, .slice a k c], .int .i64 loc] w (FormOk (formB caps clo loc 23 n s k) w) := by
  have hb := box_exp 23 n s (.slice a k c) w
  have hE : Hid (formB caps clo loc 23 n s k = _) := formE_23 (.inr hs)
  obtain rfl := size_zero hs
  clear hs
  have hg := grown_alloc w (.cells #[.int .i64 23, .int .i64 n, .string ⟨#[]⟩, .slice a k c] 29)
  have hC2 := (hg.block _ (heap_lt hC) (by nofun)).trans hC
  have g0 : (w.alloc (.cells #[.int .i64 23, .int .i64 n, .string ⟨#[]⟩, .slice a k c] 29)).cell? ⟨cb, 0, none⟩ = some (.int .i64 caps) := by simp only [World.cell?, hC2]; rfl
  clear hC hC2 hg
  obtain ⟨bb, hbb⟩ : ∃ bb, inB n 0 (caps - 1) = bb := ⟨_, rfl⟩
  have Hbb := Lib.hid hbb
  by_cases h0 : k = 0
  · subst h0
    go_enter Tryz.func87, Tryz.ntmps87
    go_wp2_with fail
    go_quiet ((go_at_call 42; exact Calls.quiet_of_same ((cwithin_any _ _ _ _).mono fun _ _ h => ⟨by rw [h.1, hbb], h.2.symm⟩)))
    go_wp2_with fail
    go_ret
    refine ⟨by rw [hE.out, Hbb.out]; rfl, bdrewN hb _⟩
  · have h1 : ¬ (k : Int) = 0 := by omega
    have h2 : ((k : Int) == 0) = false := beq_eq_false_iff_ne.2 h1
    have h3 : decide (k = 0) = false := decide_eq_false h0
    go_enter Tryz.func87, Tryz.ntmps87
    go_wp2_with fail
    go_quiet (fail)
    go_wp2_with fail
    go_ret
    exact ⟨by rw [hE.out, h3]; rfl, bdrewN hb _⟩
set_option maxHeartbeats 1000000 in
set_option maxRecDepth 100000 in
theorem form_7_any (cb : Nat) (caps : Int) (cf : Value) (clo : Int → Int → Bool) (n loc : Int) (s : ByteArray) (a : Option Addr) (k c : Nat) (w : World) (hs : s.size = 0) :
    Calls Tryz.prog 87 #[.pointer (some ⟨cb, 0, none⟩), .agg #[.int .i64 7, .int .i64 n, .string s, .slice a k c], .int .i64 loc] w (FormOk (formB caps clo loc 7 n s k) w) := by
  have hb := box_exp 7 n s (.slice a k c) w
  have hE : Hid (formB caps clo loc 7 n s k = _) := formE_7 (.inr hs)
  obtain rfl := size_zero hs
  clear hs
  by_cases h0 : k = 1
  · subst h0
    go_enter Tryz.func87, Tryz.ntmps87
    go_wp2_with fail
    refine (cwithin_any _ _ _ _).mono ?_
    rintro e w' ⟨rfl, rfl⟩
    go_wp2_with fail
    go_ret
    exact ⟨by rw [hE.out]; rfl, hb⟩
  · have h1 : ¬ (k : Int) = 1 := by omega
    have h2 : ((k : Int) == 1) = false := beq_eq_false_iff_ne.2 h1
    have h3 : decide (k = 1) = false := decide_eq_false h0
    go_enter Tryz.func87, Tryz.ntmps87
    go_wp2_with fail
    go_ret
    exact ⟨by rw [hE.out]; rw [h3]; rfl, hb⟩
set_option maxHeartbeats 1000000 in
set_option maxRecDepth 100000 in
theorem form_8_any (cb : Nat) (caps : Int) (cf : Value) (clo : Int → Int → Bool) (n loc : Int) (s : ByteArray) (a : Option Addr) (k c : Nat) (w : World) (hs : s.size = 0) :
    Calls Tryz.prog 87 #[.pointer (some ⟨cb, 0, none⟩), .agg #[.int .i64 8, .int .i64 n, .string s, .slice a k c], .int .i64 loc] w (FormOk (formB caps clo loc 8 n s k) w) := by
  have hb := box_exp 8 n s (.slice a k c) w
  have hE : Hid (formB caps clo loc 8 n s k = _) := formE_8 (.inr hs)
  obtain rfl := size_zero hs
  clear hs
  by_cases h0 : k = 1
  · subst h0
    go_enter Tryz.func87, Tryz.ntmps87
    go_wp2_with fail
    refine (cwithin_any _ _ _ _).mono ?_
    rintro e w' ⟨rfl, rfl⟩
    go_wp2_with fail
    go_ret
    exact ⟨by rw [hE.out]; rfl, hb⟩
  · have h1 : ¬ (k : Int) = 1 := by omega
    have h2 : ((k : Int) == 1) = false := beq_eq_false_iff_ne.2 h1
    have h3 : decide (k = 1) = false := decide_eq_false h0
    go_enter Tryz.func87, Tryz.ntmps87
    go_wp2_with fail
    go_ret
    exact ⟨by rw [hE.out]; rw [h3]; rfl, hb⟩
set_option maxHeartbeats 1000000 in
set_option maxRecDepth 100000 in
theorem form_6_any (cb : Nat) (caps : Int) (cf : Value) (clo : Int → Int → Bool) (n loc : Int) (s : ByteArray) (a : Option Addr) (k c : Nat) (w : World) (hs : s.size = 0) :
    Calls Tryz.prog 87 #[.pointer (some ⟨cb, 0, none⟩), .agg #[.int .i64 6, .int .i64 n, .string s, .slice a k c], .int .i64 loc] w (FormOk (formB caps clo loc 6 n s k) w) := by
  have hb := box_exp 6 n s (.slice a k c) w
  have hE : Hid (formB caps clo loc 6 n s k = _) := formE_6 (.inr hs)
  obtain rfl := size_zero hs
  clear hs
  by_cases hn : n = 0
  · subst hn
    by_cases h0 : (k : Int) ≤ 1000
    · go_enter Tryz.func87, Tryz.ntmps87
      go_wp2_with fail
      go_ret
      exact ⟨by rw [hE.out]; rw [decide_eq_true (show k ≤ 1000 by omega)]; rfl, hb⟩
    · go_enter Tryz.func87, Tryz.ntmps87
      go_wp2_with fail
      go_ret
      exact ⟨by rw [hE.out]; rw [decide_eq_false (show ¬ k ≤ 1000 by omega)]; rfl, hb⟩
  · have n1 : (n == 0) = false := beq_eq_false_iff_ne.2 hn
    have n2 : decide (n = 0) = false := decide_eq_false hn
    go_enter Tryz.func87, Tryz.ntmps87
    go_wp2_with fail
    go_ret
    exact ⟨by rw [hE.out]; rw [n2]; rfl, hb⟩
set_option maxHeartbeats 1000000 in
set_option maxRecDepth 100000 in
theorem form_9_any (cb : Nat) (caps : Int) (cf : Value) (clo : Int → Int → Bool) (n loc : Int) (s : ByteArray) (a : Option Addr) (k c : Nat) (w : World) (hs : s.size = 0) :
    Calls Tryz.prog 87 #[.pointer (some ⟨cb, 0, none⟩), .agg #[.int .i64 9, .int .i64 n, .string s, .slice a k c], .int .i64 loc] w (FormOk (formB caps clo loc 9 n s k) w) := by
  have hb := box_exp 9 n s (.slice a k c) w
  have hE : Hid (formB caps clo loc 9 n s k = _) := formE_9 (.inr hs)
  obtain rfl := size_zero hs
  clear hs
  by_cases hn : n = 0
  · subst hn
    go_enter Tryz.func87, Tryz.ntmps87
    go_wp2_with fail
    refine (cwithin_any _ _ _ _).mono ?_
    rintro e w' ⟨rfl, rfl⟩
    go_wp2_with fail
    go_ret
    exact ⟨by rw [hE.out]; rfl, hb⟩
  · have n1 : (n == 0) = false := beq_eq_false_iff_ne.2 hn
    have n2 : decide (n = 0) = false := decide_eq_false hn
    go_enter Tryz.func87, Tryz.ntmps87
    go_wp2_with fail
    go_ret
    exact ⟨by rw [hE.out]; rw [n2]; rfl, hb⟩
set_option maxHeartbeats 1000000 in
set_option maxRecDepth 100000 in
theorem form_11_any (cb : Nat) (caps : Int) (cf : Value) (clo : Int → Int → Bool) (n loc : Int) (s : ByteArray) (a : Option Addr) (k c : Nat) (w : World) (hs : s.size = 0) :
    Calls Tryz.prog 87 #[.pointer (some ⟨cb, 0, none⟩), .agg #[.int .i64 11, .int .i64 n, .string s, .slice a k c], .int .i64 loc] w (FormOk (formB caps clo loc 11 n s k) w) := by
  have hb := box_exp 11 n s (.slice a k c) w
  have hE : Hid (formB caps clo loc 11 n s k = _) := formE_11 (.inr hs)
  obtain rfl := size_zero hs
  clear hs
  by_cases hn : n = 0
  · subst hn
    by_cases h0 : k = 2
    · subst h0
      go_enter Tryz.func87, Tryz.ntmps87
      go_wp2_with fail
      go_ret
      exact ⟨by rw [hE.out]; rfl, hb⟩
    · have h1 : ¬ (k : Int) = 2 := by omega
      have h2 : ((k : Int) == 2) = false := beq_eq_false_iff_ne.2 h1
      have h3 : decide (k = 2) = false := decide_eq_false h0
      go_enter Tryz.func87, Tryz.ntmps87
      go_wp2_with fail
      go_ret
      exact ⟨by rw [hE.out]; rw [h3]; rfl, hb⟩
  · have n1 : (n == 0) = false := beq_eq_false_iff_ne.2 hn
    have n2 : decide (n = 0) = false := decide_eq_false hn
    go_enter Tryz.func87, Tryz.ntmps87
    go_wp2_with fail
    go_ret
    exact ⟨by rw [hE.out]; rw [n2]; rfl, hb⟩
set_option maxHeartbeats 1000000 in
set_option maxRecDepth 100000 in
theorem form_25_any (cb : Nat) (caps : Int) (cf : Value) (clo : Int → Int → Bool) (n loc : Int) (s : ByteArray) (a : Option Addr) (k c : Nat) (w : World) (hs : s.size = 0) :
    Calls Tryz.prog 87 #[.pointer (some ⟨cb, 0, none⟩), .agg #[.int .i64 25, .int .i64 n, .string s, .slice a k c], .int .i64 loc] w (FormOk (formB caps clo loc 25 n s k) w) := by
  have hb := box_exp 25 n s (.slice a k c) w
  have hE : Hid (formB caps clo loc 25 n s k = _) := formE_25 (.inr hs)
  obtain rfl := size_zero hs
  clear hs
  by_cases hn : n = 0
  · subst hn
    by_cases h0 : k = 2
    · subst h0
      go_enter Tryz.func87, Tryz.ntmps87
      go_wp2_with fail
      go_ret
      exact ⟨by rw [hE.out]; rfl, hb⟩
    · have h1 : ¬ (k : Int) = 2 := by omega
      have h2 : ((k : Int) == 2) = false := beq_eq_false_iff_ne.2 h1
      have h3 : decide (k = 2) = false := decide_eq_false h0
      go_enter Tryz.func87, Tryz.ntmps87
      go_wp2_with fail
      go_ret
      exact ⟨by rw [hE.out]; rw [h3]; rfl, hb⟩
  · have n1 : (n == 0) = false := beq_eq_false_iff_ne.2 hn
    have n2 : decide (n = 0) = false := decide_eq_false hn
    go_enter Tryz.func87, Tryz.ntmps87
    go_wp2_with fail
    go_ret
    exact ⟨by rw [hE.out]; rw [n2]; rfl, hb⟩
set_option maxHeartbeats 1000000 in
set_option maxRecDepth 100000 in
theorem form_12_any (cb : Nat) (caps : Int) (cf : Value) (clo : Int → Int → Bool) (n loc : Int) (s : ByteArray) (a : Option Addr) (k c : Nat) (w : World) (hs : s.size = 0) :
    Calls Tryz.prog 87 #[.pointer (some ⟨cb, 0, none⟩), .agg #[.int .i64 12, .int .i64 n, .string s, .slice a k c], .int .i64 loc] w (FormOk (formB caps clo loc 12 n s k) w) := by
  have hb := box_exp 12 n s (.slice a k c) w
  have hE : Hid (formB caps clo loc 12 n s k = _) := formE_12 (.inr hs)
  obtain rfl := size_zero hs
  clear hs
  obtain ⟨bb, hbb⟩ : ∃ bb, inB n 1 14 = bb := ⟨_, rfl⟩
  have Hbb := Lib.hid hbb
  have ha := arity_val n
  cases bb
  · have h0 := Lib.hid (ha.2 hbb)
    clear ha hbb
    go_enter Tryz.func87, Tryz.ntmps87
    go_wp2_with fail
    refine (carity_any _ _).mono ?_
    rintro e w' ⟨rfl, rfl⟩
    rw [h0.out]
    go_wp2_with fail
    go_ret
    exact ⟨by rw [hE.out]; rw [Hbb.out]; rfl, hb⟩
  · have hp := (arity_pos n).2 hbb
    have hr0 : (0 : Int) < ref46_arity n := by omega
    clear ha hbb
    by_cases h1 : (k : Int) = ref46_arity n
    · have h5 : ((k : Int) == ref46_arity n) = true := beq_iff_eq.2 h1
      go_enter Tryz.func87, Tryz.ntmps87
      go_wp2_with fail
      refine (carity_any _ _).mono ?_
      rintro e w' ⟨rfl, rfl⟩
      go_wp2_with fail
      refine (carity_any _ _).mono ?_
      rintro e w' ⟨rfl, rfl⟩
      go_wp2_with fail
      go_ret
      exact ⟨by rw [hE.out]; rw [Hbb.out, decide_eq_true h1]; rfl, hb⟩
    · have h5 : ((k : Int) == ref46_arity n) = false := beq_eq_false_iff_ne.2 h1
      go_enter Tryz.func87, Tryz.ntmps87
      go_wp2_with fail
      refine (carity_any _ _).mono ?_
      rintro e w' ⟨rfl, rfl⟩
      go_wp2_with fail
      refine (carity_any _ _).mono ?_
      rintro e w' ⟨rfl, rfl⟩
      go_wp2_with fail
      go_ret
      exact ⟨by rw [hE.out]; rw [Hbb.out, decide_eq_false h1]; rfl, hb⟩
set_option maxHeartbeats 1000000 in
set_option maxRecDepth 100000 in
theorem form_3_any (cb : Nat) (caps : Int) (cf : Value) (clo : Int → Int → Bool) (n loc : Int) (s : ByteArray) (a : Option Addr) (k c : Nat) (w : World) :
    Calls Tryz.prog 87 #[.pointer (some ⟨cb, 0, none⟩), .agg #[.int .i64 3, .int .i64 n, .string s, .slice a k c], .int .i64 loc] w (FormOk (formB caps clo loc 3 n s k) w) := by
  have hb := box_exp 3 n s (.slice a k c) w
  have hE : Hid (formB caps clo loc 3 n s k = _) := formE_3 (.inl rfl)
  by_cases h0 : k = 0
  · subst h0
    by_cases hn : n = 0
    · subst hn
      by_cases hz : (s.size : Int) ≤ 16384
      · go_enter Tryz.func87, Tryz.ntmps87
        go_wp2_with fail
        go_ret
        exact ⟨by rw [hE.out]; rw [decide_eq_true (show s.size ≤ 16384 by omega)]; rfl, hb⟩
      · go_enter Tryz.func87, Tryz.ntmps87
        go_wp2_with fail
        go_ret
        exact ⟨by rw [hE.out]; rw [decide_eq_false (show ¬ s.size ≤ 16384 by omega)]; rfl, hb⟩
    · have n1 : (n == 0) = false := beq_eq_false_iff_ne.2 hn
      have n2 : decide (n = 0) = false := decide_eq_false hn
      go_enter Tryz.func87, Tryz.ntmps87
      go_wp2_with fail
      go_ret
      exact ⟨by rw [hE.out]; rw [n2]; rfl, hb⟩
  · have h1 : ¬ (k : Int) = 0 := by omega
    have h2 : ((k : Int) == 0) = false := beq_eq_false_iff_ne.2 h1
    have h3 : decide (k = 0) = false := decide_eq_false h0
    go_enter Tryz.func87, Tryz.ntmps87
    go_wp2_with fail
    go_ret
    exact ⟨by rw [hE.out]; rw [h3]; rfl, hb⟩
set_option maxHeartbeats 1000000 in
set_option maxRecDepth 100000 in
theorem form_no_any (cb : Nat) (caps : Int) (cf : Value) (clo : Int → Int → Bool) (n loc : Int) (s : ByteArray) (a : Option Addr) (k c : Nat) (w : World) (op : Int) (hs : s.size = 0) (h : ¬ (op = 2 ∨ op = 3 ∨ op = 6 ∨ op = 7 ∨ op = 8 ∨ op = 9 ∨ op = 11 ∨ op = 12 ∨ op = 13 ∨ op = 21 ∨ op = 22 ∨ op = 23 ∨ op = 24 ∨ op = 25)) :
    Calls Tryz.prog 87 #[.pointer (some ⟨cb, 0, none⟩), .agg #[.int .i64 op, .int .i64 n, .string s, .slice a k c], .int .i64 loc] w (FormOk (formB caps clo loc op n s k) w) := by
  have hb := box_exp op n s (.slice a k c) w
  have hE : Hid (formB caps clo loc op n s k = false) := formE_no h
  obtain rfl := size_zero hs
  clear hs
  have z2 : ¬ op = 2 := by omega
  have y2 : (op == 2) = false := beq_eq_false_iff_ne.2 z2
  have z3 : ¬ op = 3 := by omega
  have y3 : (op == 3) = false := beq_eq_false_iff_ne.2 z3
  have z6 : ¬ op = 6 := by omega
  have y6 : (op == 6) = false := beq_eq_false_iff_ne.2 z6
  have z7 : ¬ op = 7 := by omega
  have y7 : (op == 7) = false := beq_eq_false_iff_ne.2 z7
  have z8 : ¬ op = 8 := by omega
  have y8 : (op == 8) = false := beq_eq_false_iff_ne.2 z8
  have z9 : ¬ op = 9 := by omega
  have y9 : (op == 9) = false := beq_eq_false_iff_ne.2 z9
  have z11 : ¬ op = 11 := by omega
  have y11 : (op == 11) = false := beq_eq_false_iff_ne.2 z11
  have z12 : ¬ op = 12 := by omega
  have y12 : (op == 12) = false := beq_eq_false_iff_ne.2 z12
  have z13 : ¬ op = 13 := by omega
  have y13 : (op == 13) = false := beq_eq_false_iff_ne.2 z13
  have z21 : ¬ op = 21 := by omega
  have y21 : (op == 21) = false := beq_eq_false_iff_ne.2 z21
  have z22 : ¬ op = 22 := by omega
  have y22 : (op == 22) = false := beq_eq_false_iff_ne.2 z22
  have z23 : ¬ op = 23 := by omega
  have y23 : (op == 23) = false := beq_eq_false_iff_ne.2 z23
  have z24 : ¬ op = 24 := by omega
  have y24 : (op == 24) = false := beq_eq_false_iff_ne.2 z24
  have z25 : ¬ op = 25 := by omega
  have y25 : (op == 25) = false := beq_eq_false_iff_ne.2 z25
  clear h
  go_enter Tryz.func87, Tryz.ntmps87
  go_wp2_with fail
  go_ret
  exact ⟨by rw [hE.out]; rfl, hb⟩
end Go.Proofs.YtidolpcbbbakmaaGreat

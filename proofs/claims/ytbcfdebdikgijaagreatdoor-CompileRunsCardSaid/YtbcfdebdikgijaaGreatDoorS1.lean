/- Part of the proof; its texts: Bc1 Dc2 Dc3 Dc4 Dp1 Cq1. -/
import Derived.Test.YtbcfdebdikgijaaGreatDoorProg
import Derived.WalkKit
import Derived.WalkLawsBesides
import Derived.WalkSpells
import Derived.Outline
import Derived.BigQuiet
import Derived.Deep.QuietTactic
import Derived.Lib.Hide
import Derived.StillTailTactics
import Derived.Laws.Rows
import Derived.Laws.Tables
import Derived.Tactics
import Derived.LoopN
import Derived.Deep.RegionHeld
set_option maxRecDepth 100000
set_option linter.unusedVariables false
set_option linter.unusedSimpArgs false
set_option maxHeartbeats 2000000
namespace Go.Proofs.YtbcfdebdikgijaaGreatDoor
open Go Go.RowKit
theorem Z9 {p : Prop} (h : p) : RowKit.Hid p := h
theorem Zj {α : Type} (l : List α) (i : Nat) (a : α) : l.toArray.setIfInBounds i a = (l.set i a).toArray := List.setIfInBounds_toArray l i a
theorem Zi {α : Type} (x : α) (l : List α) (a : α) : (x :: l).set 0 a = a :: l := rfl
abbrev Z7 := @if_neg
abbrev ZY := @if_pos
theorem Zt {α : Type} [BEq α] [LawfulBEq α] {a b : α} (h : a ≠ b) : (a == b) = false := beq_eq_false_iff_ne.2 h
abbrev YR := @decide_eq_false
abbrev Zn := @heap_alloc_new
abbrev Zk := @cell_of_row
abbrev Zd := @setRow_heap
abbrev WM := @setRow_other
abbrev Y4 := @bodyPost_ret
abbrev YC := @results_cell_row
abbrev Zc := @wpList_store_row
abbrev VF := @wpList_load_row
abbrev XG := @wp_region_held_drew
abbrev Y3 := @rounds_succ
abbrev XL := @wp_loop_rounds
abbrev X3 := @wpAnyH_done
theorem Zh {α : Type} (x : α) (l : List α) (i : Nat) (a : α) : (x :: l).set (i + 1) a = x :: l.set i a := rfl
theorem Wi {k : IntKind} {a b : Int} (h : a = b) : Ending.returned (.int k a) = .returned (.int k b) := by rw [h]
theorem XT {a b : Bool} (h : a = b) : Ending.returned (.bool a) = .returned (.bool b) := by rw [h]
theorem UY {B : Nat} {a w : World} (h : Below B a w) (n : Nat) : Below B a (w.drewN n) := h.trans ⟨rfl, rfl, rfl, Nat.le_refl _, fun _ _ => rfl⟩
def Y7 (n a b : Int) : Bool := decide (a <= n) && decide (n <= b)
theorem Tf (n a b : Int) (w : World) :
 Calls Tryz.prog 68 #[.int .i64 n, .int .i64 a, .int .i64 b] w fun e w' => e = .returned (.bool (Y7 n a b)) /\ w = w' := by
 go_in
 go_wp2
 all_goals
  go_ret; refine ⟨XT ?_, rfl⟩; simp [Y7] <;> omega
theorem XC (n a b : Int) (w : World) :
 Calls Tryz.prog 26 #[.int .i64 n, .int .i64 a, .int .i64 b] w fun e w' => e = .returned (.bool (Y7 n a b)) /\ w = w' := by
 go_in
 go_wp2
 all_goals
  go_ret; refine ⟨XT ?_, rfl⟩; simp [Y7] <;> omega
def Zb (op : Int) : Bool := Y7 op 1 16
theorem Ae (n : Int) (w : World) :
 Calls Tryz.prog 70 #[.int .i64 n] w fun e w' => e = .returned (.bool (Zb n)) /\ w = w' := by
 go_in
 go_wp2_with fail
 refine (Tf _ _ _ _).mono ?_
 rintro e w' ⟨rfl, rfl⟩
 go_wp2
 go_ret
 exact ⟨rfl, rfl⟩
def ZA (n : Int) : Int := if n = 6 \/ n = 11 \/ n = 13 \/ n = 14 then 1 else if 1 <= n /\ n <= 14 then 2 else 0
theorem Ad (n : Int) (w : World) (h1 : 1 <= n) (h14 : n <= 14) :
 Calls Tryz.prog 69 #[.int .i64 n] w fun e w' => e = .returned (.int .i64 (ZA n)) /\ w = w' := by
 go_in
 go_wp2
 all_goals
  go_ret; refine ⟨Wi ?_, rfl⟩; simp only [beq_iff_eq, beq_eq_false_iff_ne, ne_eq] at *; unfold ZA
  repeat' split
  all_goals omega
theorem NV (n : Int) (w : World) :
 Calls Tryz.prog 60 #[.int .i64 n] w fun e w' => e = .returned (.int .i64 (ZA n)) /\ w = w' := by
 go_in
 go_wp2
 all_goals
  go_ret; refine ⟨Wi ?_, rfl⟩; simp only [beq_iff_eq, beq_eq_false_iff_ne, ne_eq] at *; unfold ZA
  repeat' split
  all_goals omega
def Ya (op a b : Int) : Int × Int × Int :=
 if op = 1 \/ op = 2 \/ op = 3 \/ op = 5 \/ op = 6 then (0, 1, 0)
 else if op = 4 \/ op = 9 \/ op = 13 then (1, 0, 0)
 else if op = 7 then (if Y7 b 0 1000 = true then (b, 1, 0) else (0, 0, 2))
 else if op = 10 then (if Y7 a 0 1000 = true then (a, 1, 0) else (0, 0, 2))
 else if op = 8 then (2, 1, 0)
 else if op = 11 \/ op = 12 then (1, 1, 0)
 else if op = 14 \/ op = 16 then (0, 0, 0)
 else if op = 15 then (if Y7 a 1 14 = true then (ZA a, 1, 0) else (0, 0, 2))
 else (0, 0, 2)
def NU (op a b : Int) : Value := .tuple #[.int .i64 (Ya op a b).1, .int .i64 (Ya op a b).2.1, .int .i64 (Ya op a b).2.2]
theorem Pj (op : Int) : op = 1 \/ op = 2 \/ op = 3 \/ op = 4 \/ op = 5 \/ op = 6 \/ op = 7 \/ op = 8 \/ op = 9 \/ op = 10 \/ op = 11 \/ op = 12 \/ op = 13 \/ op = 14 \/ op = 15 \/ op = 16 \/ (op < 1 \/ 16 < op) := by omega
theorem Tj (a : Int) : (1 <= ZA a /\ ZA a <= 2) ↔ Y7 a 1 14 = true := by
 unfold ZA Y7
 simp only [Bool.and_eq_true, decide_eq_true_eq]
 repeat' split
 all_goals omega
theorem Ea (op a b : Int) (w : World) :
 Calls Tryz.prog 38 #[.agg #[.int .i64 op, .int .i64 a, .int .i64 b]] w fun e w' => e = .returned (NU op a b) /\ Below w.heap.size w w' := by
 rcases Pj op with rfl | rfl | rfl | rfl | rfl | rfl | rfl | rfl | rfl | rfl | rfl | rfl | rfl | rfl | rfl | rfl | h
 all_goals
  go_in; go_wp2_with (first | (go_at_call 68; refine (Tf _ _ _ _).mono ?_; rintro e w' ⟨rfl, rfl⟩) | (go_at_call 69; refine (Ad _ _ (by simp_all [Y7]) (by simp_all [Y7])).mono ?_; rintro e w' ⟨rfl, rfl⟩))
 all_goals
  go_ret3; refine ⟨?_, (Below.refl _ _).alloc (Nat.le_refl _) _⟩
  first
   | (simp_all [NU, Ya]; done)
   | (unfold NU Ya
      rw [Z7 (by omega), Z7 (by omega), Z7 (by omega), Z7 (by omega), Z7 (by omega), Z7 (by omega), Z7 (by omega), Z7 (by omega)]; rfl)
theorem NT (a : Int) : (Y7 a 1 14 = true -> (ZA a == 0) = false /\ Y7 (ZA a) 0 1000 = true) /\ (Y7 a 1 14 = false -> ZA a = 0) := by
 unfold Y7
 constructor
 ·intro h
  have := (Tj a).2 (by unfold Y7; exact h); constructor
  ·simp; omega
  ·simp; omega
 ·intro h
  rcases Decidable.em (1 <= ZA a /\ ZA a <= 2) with h2 | h2
  ·have := (Tj a).1 h2; unfold Y7 at this; rw [this] at h; cases h
  ·unfold ZA at h2 ⊢
   repeat' split
   all_goals simp_all
theorem D9 (a b : Int) (w : World) :
 Calls Tryz.prog 64 #[.agg #[.int .i64 15, .int .i64 a, .int .i64 b]] w fun e w' => e = .returned (NU 15 a b) /\ Below w.heap.size w w' := by
 obtain ⟨bb, hbb⟩ : ∃ bb, Y7 a 1 14 = bb := ⟨_, rfl⟩
 have ha := NT a
 have VU := Z9 hbb
 cases bb
 ·have h0 := Z9 (ha.2 hbb)
  clear ha hbb; go_in; go_wp2_with fail; refine (NV _ _).mono ?_; rintro e w' ⟨rfl, rfl⟩; rw [h0.out]; go_wp2; go_ret3; refine ⟨?_, (Below.refl _ _).alloc (Nat.le_refl _) _⟩; unfold NU Ya; simp [VU.out]
 ·obtain ⟨h1, h2⟩ := ha.1 hbb
  clear ha hbb; have H2 := Z9 h2; clear h2; go_in; go_wp2_with fail; refine (NV _ _).mono ?_; rintro e w' ⟨rfl, rfl⟩; go_wp2_with fail; refine (XC _ _ _ _).mono ?_; rintro e w' ⟨rfl, rfl⟩; rw [H2.out]; go_wp2; go_ret3; refine ⟨?_, (Below.refl _ _).alloc (Nat.le_refl _) _⟩; unfold NU Ya; simp [VU.out]
theorem G6 (op a b : Int) (w : World) :
 Calls Tryz.prog 64 #[.agg #[.int .i64 op, .int .i64 a, .int .i64 b]] w fun e w' => e = .returned (NU op a b) /\ Below w.heap.size w w' := by
 rcases Pj op with rfl | rfl | rfl | rfl | rfl | rfl | rfl | rfl | rfl | rfl | rfl | rfl | rfl | rfl | rfl | rfl | h
 case inr.inr.inr.inr.inr.inr.inr.inr.inr.inr.inr.inr.inr.inr.inl => exact D9 a b w
 all_goals
  go_in; go_wp2_with (go_at_call 26; refine (XC _ _ _ _).mono ?_; rintro e w' ⟨rfl, rfl⟩)
 all_goals
  go_ret3; refine ⟨?_, (Below.refl _ _).alloc (Nat.le_refl _) _⟩
  first
   | (simp_all [NU, Ya]; done)
   | (simp_all [NU, Ya, Y7]; done)
   | (unfold NU Ya
      rw [Z7 (by omega), Z7 (by omega), Z7 (by omega), Z7 (by omega), Z7 (by omega), Z7 (by omega), Z7 (by omega), Z7 (by omega)]; rfl)
def Xe (w : World) (v : Value) (len : Nat) (xs : List Value) : Prop :=
 ∃ (a : Option Addr) (c : Nat), v = .slice a len c /\ len <= c /\ (0 < len -> ∃ b off, a = some ⟨b, off, none⟩ /\ b < w.heap.size /\ ∀ j, j < xs.length -> w.cell? ⟨b, off + j, none⟩ = some (xs.getD j undef))
theorem Xe.below {w w' : World} {v : Value} {n : Nat} {xs : List Value} (h : Xe w v n xs) (hb : Below w.heap.size w w') : Xe w' v n xs := by
 obtain ⟨a, c, hv, hlc, hl⟩ := h
 refine ⟨a, c, hv, hlc, fun hne => ?_⟩
 obtain ⟨b, off, ha, hlt, hc⟩ := hl hne
 exact ⟨b, off, ha, by have := hb.size; omega, fun j hj => by rw [hb.cell (p := ⟨b, off + j, none⟩) hlt]; exact hc j hj⟩
theorem Ac (w : World) : Xe w (.slice none 0 0) 0 [] := ⟨none, 0, rfl, Nat.le_refl _, fun h => absurd h (Nat.not_lt_zero _)⟩
theorem Ph (w : World) (cs : Array Value) (t : TypeId) (j : Nat) : (w.alloc (.cells cs t)).cell? ⟨w.heap.size, j, none⟩ = cs[j]? := by
 simp [World.cell?, World.alloc, -World.alloc_eq]
theorem GZ (w : World) (n : Nat) (xs : List Value) (t : TypeId) : Xe (w.alloc (.cells xs.toArray t)) (.slice (some ⟨w.heap.size, 0, none⟩) n n) n xs := by
 refine ⟨_, _, rfl, Nat.le_refl _, fun _ => ⟨w.heap.size, 0, rfl, by simp, fun j hj => ?_⟩⟩
 rw [Nat.zero_add, Ph]
 simp [List.getD, hj]
theorem Xn {w : World} {base : Nat} {v : Value} {n : Nat} {xs : List Value} {e : TypeId} {size : Nat} (h : w.ownsRow base e size v n xs) : Xe w v n xs := by
 obtain ⟨h1, h2⟩ := h
 rcases h2 with ⟨rfl, h0⟩ | ⟨g, cap, cur, rfl, hg, hh, hn, hm, hsz, htk⟩
 ·subst h0
  exact ⟨none, 0, rfl, Nat.le_refl _, fun h => absurd h (Nat.not_lt_zero _)⟩
 ·refine ⟨_, cap, rfl, hn, fun _ => ⟨g, 0, rfl, ?_, fun j hj => ?_⟩⟩
  ·rcases Nat.lt_or_ge g w.heap.size with h' | h'
   ·exact h'
   ·rw [Array.getElem?_eq_none h'] at hh; cases hh
  ·have e1 : cur.toList[j]? = some (xs.getD j undef) := by
    have : (cur.toList.take (n * size))[j]? = xs[j]? := by rw [htk]
    rw [List.getElem?_take, ZY (by omega)] at this; rw [this]; simp [List.getD, hj]
   simp only [World.cell?, hh, Nat.zero_add]; simpa using e1
theorem GX {w : World} {base : Nat} {v : Value} {n m : Nat} {xs : List Value} {e : TypeId} {size : Nat} (h : w.ownsRow base e size v n xs) (hn : n = m) : Xe w v m xs := by
 subst hn; exact Xn h
theorem mX {w : World} {base : Nat} {e : TypeId} {size : Nat} {v : Value} {n : Nat} {xs : List Value} (h : w.ownsRow base e size v n xs) {g : Nat} (hg : v.ownBlock = some g) : base <= g := by
 obtain ⟨_, h2⟩ := h
 rcases h2 with ⟨rfl, _⟩ | ⟨g', cap, cur, rfl, hb, _⟩
 ·cases hg
 ·cases hg; exact hb
def ints (l : List Int) : List Value := l.map (Value.int .i64)
structure Ins where
 op : Int
 a : Int
 b : Int
 deriving DecidableEq, Inhabited
def YE (l : List Ins) : List Value := l.flatMap fun i => [.int .i64 i.op, .int .i64 i.a, .int .i64 i.b]
theorem Vf (l : List Ins) : (YE l).length = l.length * 3 := by
 induction l with
 | nil => rfl
 | cons x l ih => simp [YE] at ih ⊢; omega
theorem T9 : ∀ (l : List Ins) (k : Nat), k < l.length -> (YE l).getD (k * 3) undef = .int .i64 (l.getD k default).op /\ (YE l).getD (k * 3 + 1) undef = .int .i64 (l.getD k default).a /\ (YE l).getD (k * 3 + 2) undef = .int .i64 (l.getD k default).b
 | [], k, h => by simp at h
 | x :: l, 0, _ => by simp [YE]
 | x :: l, k + 1, h => by
   have ih := T9 l k (by simpa using h); have e : YE (x :: l) = [.int .i64 x.op, .int .i64 x.a, .int .i64 x.b] ++ YE l := rfl; have g : ∀ j, (YE (x :: l)).getD (j + 3) undef = (YE l).getD j undef := fun j => by
    rw [e]; simp [List.getD]
   have e1 : (k + 1) * 3 = k * 3 + 3 := by omega
   refine ⟨?_, ?_, ?_⟩
   ·rw [e1, g]; exact ih.1
   ·rw [show (k + 1) * 3 + 1 = k * 3 + 1 + 3 by omega, g]; exact ih.2.1
   ·rw [show (k + 1) * 3 + 2 = k * 3 + 2 + 3 by omega, g]; exact ih.2.2
def VE (w : World) (v : Value) (l : List Ins) : Prop := Xe w v l.length (YE l)
def Rw (n : Nat) (k : Int) : Bool := !Y7 k 0 ((n : Int) - 1)
def KC (i : Ins) (k : Nat) : List Int :=
 if i.op = 9 \/ i.op = 16 then [] else if i.op = 14 then [i.a] else if i.op = 13 then (List.range i.b.toNat).map (fun (j : Nat) => (k : Int) + 1 + j) else [(k : Int) + 1]
def MJ (code : List Ins) (at_ : Int) : List Int × Int :=
 if at_ < 0 \/ (code.length : Int) <= at_ then ([], 2) else
 let i := code.getD at_.toNat default
 if Zb i.op = false then ([], 2) else
 if i.op = 13 /\ Y7 i.b 1 1000 = false then ([], 24) else
 if (KC i at_.toNat).any (Rw code.length) then ([], 24) else (KC i at_.toNat, 0)
theorem Jo (n cp lc dp : Int) (len : Nat) (p : Addr) (w : World) (hlen : len <= 1000000) (a : Option Addr) (c : Nat)
 (hp : w.heap[p.block]? = some (.cells #[.int .i64 cp, .int .i64 lc, .int .i64 dp, .slice a len c] 53 (0, 0))) (hp0 : p = ⟨p.block, 0, none⟩) :
 Calls Tryz.prog 72 #[.int .i64 n, .pointer (some p)] w fun e w' => e = .returned (.bool (Rw len n)) /\ w = w' := by
 obtain ⟨b, o, sp⟩ := p
 obtain ⟨rfl, rfl⟩ : o = 0 /\ sp = none := by simpa using hp0
 have hc : w.cell? ⟨b, 3, none⟩ = some (.slice a len c) := by simp only at hp; simp [World.cell?, hp]
 clear hp hp0
 go_in
 go_wp2_with fail
 refine (Tf _ _ _ _).mono ?_
 rintro e w' ⟨rfl, rfl⟩
 go_wp2
 go_ret
 exact ⟨rfl, rfl⟩
theorem TY {α : Type} (d : α) (l : List α) (p : α -> Bool) (k : Nat) (h : k < l.length) (hn : (l.take k).any p = false) (hf : p (l.getD k d) = false) : (l.take (k + 1)).any p = false := by
 rw [List.take_succ_eq_append_getElem h, List.any_append, hn]
 simp [List.getD, h] at hf
 simp [hf]
theorem Sw {α : Type} (d : α) (l : List α) (p : α -> Bool) (k : Nat) (h : k < l.length) (hp : p (l.getD k d) = true) : l.any p = true := by
 rw [List.any_eq_true]
 exact ⟨l.getD k d, by simp [List.getD, h], hp⟩
theorem ints_at (l : List Int) (k : Nat) (h : k < l.length) : (ints l).getD k undef = .int .i64 (l.getD k 0) := by simp [ints, List.getD, h]
theorem Ng (l : List Int) : (ints l).length = l.length := by simp [ints]
def jB (b : Bool) (w : World) (e : Ending) (w' : World) : Prop := ∃ r : Int, e = .returned (.int .i64 r) /\ decide (0 <= r) = b /\ w = w'
theorem Jm (v : Value) (l : List Int) (cp lc dp : Int) (len : Nat) (B : Nat) (w : World) (hlen : len <= 1000000) (a : Option Addr) (c : Nat) (h : Xe w v l.length (ints l)) (hl : l.length <= 1000000)
 (hp : w.heap[B]? = some (.cells #[.int .i64 cp, .int .i64 lc, .int .i64 dp, .slice a len c] 53 (0, 0))) :
 Calls Tryz.prog 94 #[v, .func (.func 72) #[] #[.pointer (some ⟨B, 0, none⟩)]] w (jB (l.any (Rw len)) w) := by
 have HT : Hid (∀ n : Int, Calls Tryz.prog 72 #[.int .i64 n, .pointer (some ⟨B, 0, none⟩)] w fun e w' => e = .returned (.bool (Rw len n)) /\ w = w') :=
  fun n => Jo n cp lc dp len ⟨B, 0, none⟩ w hlen a c hp rfl
 clear hp
 obtain ⟨a', c', rfl, hlc, hcell⟩ := h
 by_cases hne : l.length = 0
 ·have hnil : l = [] := List.length_eq_zero_iff.1 hne
  subst hnil; clear hcell; go_in; go_wp2_with fail; go_loop [8] (fun i => i = .int .i64 0) (fun i => 0)
  case atStart => rfl
  case round =>
   subst hrel; go_wp2; go_ret; exact ⟨-1, rfl, rfl, rfl⟩
 ·obtain ⟨b, off, rfl, hlt, hc⟩ := hcell (by omega)
  have Hc : Hid (∀ k, k < l.length -> w.cell? ⟨b, off + k, none⟩ = some (.int .i64 (l.getD k 0))) := fun k hk => by rw [hc k (by rw [Ng]; exact hk), ints_at l k hk]
  clear hcell hc; go_in; go_wp2_with fail; go_loop [8] (fun i => ∃ k : Nat, k <= l.length /\ i = .int .i64 k /\ Hid ((l.take k).any (Rw len) = false)) (fun i => l.length - (intOf i).toNat)
  case atStart => exact ⟨0, Nat.zero_le _, rfl, rfl⟩
  case round =>
   obtain ⟨k, hk, rfl, hno⟩ := hrel; by_cases hkl : k < l.length
   ·have hc := Hc.out k hkl
    have Hn := Z9 (TY 0 l (Rw len) k hkl hno.out); have Hy := Z9 (Sw 0 l (Rw len) k hkl); generalize l.getD k 0 = x at *; go_wp2_with fail; refine (HT.out x).mono ?_; rintro e w' ⟨rfl, rfl⟩; obtain ⟨bb, hbb⟩ : ∃ bb, Rw len x = bb := ⟨_, rfl⟩; have VU := Z9 hbb; rw [hbb]; clear hbb; cases bb
    ·have hN : Hid ((l.take (k + 1)).any (Rw len) = false) := Hn.out VU.out
     go_wp2_with fail; go_round
     case rel => exact ⟨k + 1, by omega, by go_num, hN⟩
     case measure => simp [intOf]; omega
    ·go_wp2
     go_ret; exact ⟨k, rfl, by rw [Hy.out VU.out]; simp, rfl⟩
   ·go_wp2
    go_ret; refine ⟨-1, rfl, ?_, rfl⟩; have := hno.out; rw [List.take_of_length_le (by omega)] at this; rw [this]; rfl
theorem TM (v : Value) (l : List Int) (cp lc dp : Int) (len : Nat) (B : Nat) (w : World) (hlen : len <= 1000000) (a : Option Addr) (c : Nat) (h : Xe w v l.length (ints l)) (hl : l.length <= 1000000)
 (hp : w.heap[B]? = some (.cells #[.int .i64 cp, .int .i64 lc, .int .i64 dp, .slice a len c] 53 (0, 0))) :
 Calls Tryz.prog 71 #[v, .func (.func 72) #[] #[.pointer (some ⟨B, 0, none⟩)]] w fun e w' => e = .returned (.bool (l.any (Rw len))) /\ w = w' := by
 have H := Z9 (Jm v l cp lc dp len B w hlen a c h hl hp)
 clear hp
 go_in
 go_wp2_with fail
 refine H.out.mono ?_
 rintro e w' ⟨r, rfl, hr, rfl⟩
 have Hr := Z9 hr
 clear hr
 go_wp2
 go_ret
 exact ⟨XT Hr.out, rfl⟩
theorem J7 (w : World) (z : Int) (t : TypeId) (n : Nat) (hn : w.heap.size = n) : Xe (w.alloc (.cells #[.int .i64 z] t)) (.slice (some ⟨n, 0, none⟩) 1 1) [z].length (ints [z]) := by
 subst hn; exact GZ w 1 (ints [z]) t
theorem Me (w : World) (a b c : Obj) : (((w.alloc a).alloc b).alloc c).heap[w.heap.size]? = some a := by
 rw [Below.heap_alloc _ _ _ (by simp; omega), Below.heap_alloc _ _ _ (by simp)]
 simp [World.alloc, -World.alloc_eq]
theorem Pg : (Tryz.prog.info? 3).map (fun i => (i.zero, i.size, i.bytes)) = some (some (.int .i64 0), 1, 8) := by kernel_rfl
def TL (k n : Nat) : List Int := (List.range n).map fun (j : Nat) => (k : Int) + 1 + j
theorem P9 (k n : Nat) : (TL k n).length = n := by simp [TL]
theorem GV (k n : Nat) : TL k (n + 1) = TL k n ++ [(k : Int) + 1 + n] := by simp [TL, List.range_succ]
def mW (k n : Nat) (B : Nat) (W : World) (v iv : Value) (wr : World) : Prop :=
 ∃ j : Nat, iv = .int .i64 j /\ j <= n /\ wr.ownsRow B 3 1 v j (ints (TL k j)) /\ Below B W wr
def xC (B : Nat) (w : World) (v : Value) (n : Nat) (xs : List Value) : Prop := Xe w v n xs /\ ∀ b off sp m c, v = .slice (some ⟨b, off, sp⟩) m c -> B <= b
theorem TW (B : Nat) (w : World) : xC B w (.slice none 0 0) 0 [] := ⟨Ac w, fun b off sp m c h => by cases h⟩
theorem BH {V : World} {B : Nat} {e : TypeId} {s n : Nat} {v : Value} {xs : List Value} (h : V.ownsRow B e s v n xs) (b off : Nat) (sp) (m c : Nat) (hv : v = .slice (some ⟨b, off, sp⟩) m c) : B <= b := by
 obtain ⟨_, h2⟩ := h
 rcases h2 with ⟨rfl, _⟩ | ⟨g, cap, cur, rfl, hb, _⟩
 ·cases hv
 ·have e : g = b := by have := (Value.slice.inj hv).1; simp at this; exact this.1
  subst e; exact hb
def aT (code : List Ins) (at_ : Int) (w : World) (e : Ending) (w' : World) : Prop :=
 ∃ v, e = .returned (.tuple #[v, .int .i64 (MJ code at_).2]) /\ xC w.heap.size w' v (MJ code at_).1.length (ints (MJ code at_).1) /\ Below w.heap.size w w'
theorem GU (cp lc dp at_ : Int) (v : Value) (code : List Ins) (w : World) (h : VE w v code) (hl : code.length <= 1000000) :
 Calls Tryz.prog 39 #[.agg #[.int .i64 cp, .int .i64 lc, .int .i64 dp, v], .int .i64 at_] w (aT code at_ w) := by
 obtain ⟨a, c, rfl, hlc, hcell⟩ := h
 by_cases hr : at_ < 0 \/ (code.length : Int) <= at_
 ·have ht : Hid (MJ code at_ = ([], 2)) := by show _ = _; unfold MJ; rw [ZY hr]
  clear hcell; rcases hr with hr | hr
  ·go_in
   go_wp2; go_ret2; exact ⟨_, by rw [ht.out]; rfl, by rw [ht.out]; exact TW _ _, (Below.refl _ _).alloc (Nat.le_refl _) _⟩
  ·go_in
   go_wp2; go_ret2; exact ⟨_, by rw [ht.out]; rfl, by rw [ht.out]; exact TW _ _, (Below.refl _ _).alloc (Nat.le_refl _) _⟩
 ·obtain ⟨k, rfl⟩ := Int.eq_ofNat_of_zero_le (show 0 <= at_ by omega)
  have hk : k < code.length := by omega
  obtain ⟨b, off, rfl, hlt, hc⟩ := hcell (by omega); obtain ⟨c0, c1, c2⟩ := T9 code k hk; have hlen := Vf code; have e0 := hc (k * 3) (by omega); have e1 := hc (k * 3 + 1) (by omega); have e2 := hc (k * 3 + 2) (by omega); rw [c0] at e0; rw [c1, <- Nat.add_assoc] at e1; rw [c2, <- Nat.add_assoc] at e2; obtain ⟨i, hi⟩ : ∃ i, i = code.getD k default := ⟨_, rfl⟩; rw [<- hi] at e0 e1 e2; have Hi := Z9 hi; obtain ⟨op, x, y⟩ := i; simp only at e0 e1 e2; clear hcell hc c0 c1 c2 hlen hi hr; go_in; go_wp2_with fail; refine (Ae _ _).mono ?_; rintro e w' ⟨rfl, rfl⟩; obtain ⟨bb, hbb⟩ : ∃ bb, Zb op = bb := ⟨_, rfl⟩; have VU := Z9 hbb; rw [hbb]; clear hbb; have ht0 : MJ code (k : Int) = if bb = false then ([], 2) else if op = 13 /\ Y7 y 1 1000 = false then ([], 24) else if (KC ⟨op, x, y⟩ k).any (Rw code.length) then ([], 24) else (KC ⟨op, x, y⟩ k, 0) := by
   unfold MJ; rw [Z7 (by omega), Int.toNat_natCast, <- Hi.out, <- VU.out]
  have Ht := Z9 ht0; clear ht0 Hi; cases bb
  ·have ht : Hid (MJ code (k : Int) = ([], 2)) := Ht.out
   go_wp2; go_ret2; exact ⟨_, by rw [ht.out]; rfl, by rw [ht.out]; exact TW _ _, (Below.refl _ _).alloc (Nat.le_refl _) _⟩
  ·by_cases h9 : op = 9 \/ op = 16
   ·have ht : Hid (MJ code (k : Int) = ([], 0)) := by
     show _ = _
     rw [Ht.out, Z7 (by simp), Z7 (by omega)]; unfold KC; rw [ZY h9]; rfl
    rcases h9 with rfl | rfl
    all_goals
     go_wp2; go_ret2; exact ⟨_, by rw [ht.out]; rfl, by rw [ht.out]; exact TW _ _, ((Below.refl _ _).alloc (Nat.le_refl _) _).alloc (by simp) _⟩
   ·by_cases h14 : op = 14
    ·subst h14
     have hL : Hid (KC ⟨14, x, y⟩ k = [x]) := rfl; go_wp2_with fail; have hI := J7 ((w.alloc (.cells #[.int .i64 cp, .int .i64 lc, .int .i64 dp, .slice (some ⟨b, off, none⟩) code.length c] 53)).alloc (.cells #[.int .i64 14, .int .i64 x, .int .i64 y] 59)) (x) 3 (w.heap.size + 1 + 1) (by simp); have hp := Me w (.cells #[.int .i64 cp, .int .i64 lc, .int .i64 dp, .slice (some ⟨b, off, none⟩) code.length c] 53) (.cells #[.int .i64 14, .int .i64 x, .int .i64 y] 59) (.cells #[.int .i64 (x)] 3); have hB : Below w.heap.size w (((w.alloc (.cells #[.int .i64 cp, .int .i64 lc, .int .i64 dp, .slice (some ⟨b, off, none⟩) code.length c] 53)).alloc (.cells #[.int .i64 14, .int .i64 x, .int .i64 y] 59)).alloc (.cells #[.int .i64 (x)] 3)) := (((Below.refl _ _).alloc (Nat.le_refl _) _).alloc (by simp) _).alloc (by simp; omega) _; refine (TM _ [x] cp lc dp code.length w.heap.size _ hl _ c hI (by simp) hp).mono ?_; rintro e w' ⟨rfl, hw'⟩; rw [<- hw']; clear hw' hp; generalize ((w.alloc (.cells #[.int .i64 cp, .int .i64 lc, .int .i64 dp, .slice (some ⟨b, off, none⟩) code.length c] 53)).alloc (.cells #[.int .i64 14, .int .i64 x, .int .i64 y] 59)).alloc (.cells #[.int .i64 (x)] 3) = W at hI hB ⊢; obtain ⟨bb, hbb⟩ : ∃ bb, [x].any (Rw code.length) = bb := ⟨_, rfl⟩; have Hb2 := Z9 hbb; rw [hbb]; clear hbb; cases bb
     ·have ht : Hid (MJ code (k : Int) = ([x], 0)) := by
       show _ = _
       rw [Ht.out, Z7 (by simp), Z7 (by omega), hL.out, Hb2.out]; rfl
      go_wp2; go_ret2; exact ⟨_, by rw [ht.out]; rfl, by rw [ht.out]; exact ⟨hI, fun b o sp m c hv => by have := (Value.slice.inj hv).1; simp at this; omega⟩, hB⟩
     ·have ht : Hid (MJ code (k : Int) = ([], 24)) := by
       show _ = _
       rw [Ht.out, Z7 (by simp), Z7 (by omega), hL.out, Hb2.out]; rfl
      go_wp2; go_ret2; exact ⟨.slice none 0 0, by rw [ht.out]; rfl, by rw [ht.out]; exact TW _ _, hB⟩
    ·by_cases h13 : op = 13
     ·subst h13
      obtain ⟨bb, hbb⟩ : ∃ bb, Y7 y 1 1000 = bb := ⟨_, rfl⟩; have Hy := Z9 hbb; cases bb
      ·have ht : Hid (MJ code (k : Int) = ([], 24)) := by
        show _ = _
        rw [Ht.out, Z7 (by simp), if_pos ⟨rfl, hbb⟩]
       clear hbb; go_wp2_with fail; refine (Tf _ _ _ _).mono ?_; rintro e w' ⟨rfl, rfl⟩; rw [Hy.out]; go_wp2; go_ret2; exact ⟨_, by rw [ht.out]; rfl, by rw [ht.out]; exact TW _ _, ((Below.refl _ _).alloc (Nat.le_refl _) _).alloc (by simp) _⟩
      ·obtain ⟨y1, y2⟩ : 1 <= y /\ y <= 1000 := by
        unfold Y7 at hbb; simpa using hbb
       clear hbb; obtain ⟨n, rfl⟩ := Int.eq_ofNat_of_zero_le (show 0 <= y by omega); have hL : Hid (KC ⟨13, x, n⟩ k = TL k n) := rfl; obtain ⟨i0, hi, hz0, hz1, hz2⟩ := info_parts Pg; go_wp2_with fail; refine (Tf _ _ _ _).mono ?_; rintro e w' ⟨rfl, rfl⟩; rw [Hy.out]; go_wp2_with fail; go_loopw [7, 54] (fun v iv wr => mW k n (w.heap.size + 1 + 1) ((w.alloc (.cells #[.int .i64 cp, .int .i64 lc, .int .i64 dp, .slice (some ⟨b, off, none⟩) code.length c] 53)).alloc (.cells #[.int .i64 13, .int .i64 x, .int .i64 n] 59)) v iv wr) (fun _ iv _ => n - (intOf iv).toNat)
       case atStart => exact ⟨0, rfl, Nat.zero_le _, ⟨rfl, .inl ⟨rfl, rfl⟩⟩, Below.refl _ _⟩
       case round =>
        obtain ⟨j, rfl, hj, hown, hbr⟩ := hrel; have q8 := Z9 hown; clear hown; have hwz : w.heap.size + 1 + 1 <= wr.heap.size := by have := hbr.size; simpa using this
        by_cases hjn : j < n
        ·go_wp2_with (at_builtin; refine wpList_append_own _ rfl _ _ 101 rfl (w.heap.size + 1 + 1) 3 i0 (.int .i64 0) 1 8 Tryz.underlying101 hi hz0 hz1 hz2 rfl (by decide) _ j (ints (TL k j)) rfl (q8.out.alloc _) ⟨wr.heap.size, 0, none⟩ 1 1 [.int .i64 ((k : Int) + 1 + j)] rfl rfl ?c1 ?c2 ?c3 ?c4 ?c5 ?_)
         case c1 => exact cell_one_new _ _ _
         case c2 => intro u hu; simp at hu; subst hu; rfl
         case c3 => unfold maxLen; omega
         case c4 => omega
         case c5 => simp; omega
         intro v' w1 hown1 hgrow1 _; have hb1 : Hid (Below (w.heap.size + 1 + 1) _ w1) := (hbr.alloc hwz _).grown hgrow1 (by simp; omega) (fun g hg => mX q8.out hg); have hown2 : Hid (w1.ownsRow (w.heap.size + 1 + 1) 3 1 v' (j + 1) (ints (TL k (j + 1)))) := by
          show World.ownsRow _ _ _ _ _ _ _
          rw [GV]; unfold ints at hown1 ⊢; rw [List.map_append]; exact hown1
         clear hown1 hgrow1 hbr; go_wp2_with fail; go_roundw
         case rel => exact ⟨j + 1, by go_num, by omega, hown2.out, hb1.out⟩
         case measure => simp [intOf]; omega
        ·obtain rfl : j = n := by omega
         have hI := GX q8.out (P9 k j).symm; have hp : wr.heap[w.heap.size]? = some (.cells #[.int .i64 cp, .int .i64 lc, .int .i64 dp, .slice (some ⟨b, off, none⟩) code.length c] 53 (0, 0)) := by
          rw [hbr.block w.heap.size (by omega), Below.heap_alloc _ _ _ (by simp)]; simp [World.alloc, -World.alloc_eq]
         have hB : Below w.heap.size w wr := (((Below.refl _ _).alloc (Nat.le_refl _) _).alloc (by simp) _).trans (hbr.mono (by omega)); have Hp := Z9 hp; have HI := Z9 hI; clear hp hI; go_wp2_with fail; refine (TM _ (TL k j) cp lc dp code.length w.heap.size _ hl _ c HI.out (by rw [P9]; omega) Hp.out).mono ?_; rintro e w' ⟨rfl, rfl⟩; obtain ⟨bb, hbb⟩ : ∃ bb, (TL k j).any (Rw code.length) = bb := ⟨_, rfl⟩; have Hb2 := Z9 hbb; rw [hbb]; clear hbb; cases bb
         ·have ht : Hid (MJ code (k : Int) = (TL k j, 0)) := by
           show _ = _
           rw [Ht.out, Z7 (by simp), Z7 (by rw [Hy.out]; simp), hL.out, Hb2.out]; rfl
          have hI := HI.out; go_wp2; go_ret2; exact ⟨_, by rw [ht.out]; rfl, by rw [ht.out]; exact ⟨hI, fun b o sp m c hv => by have := BH q8.out b o sp m c hv; omega⟩, hB⟩
         ·have ht : Hid (MJ code (k : Int) = ([], 24)) := by
           show _ = _
           rw [Ht.out, Z7 (by simp), Z7 (by rw [Hy.out]; simp), hL.out, Hb2.out]; rfl
          go_wp2; go_ret2; exact ⟨.slice none 0 0, by rw [ht.out]; rfl, by rw [ht.out]; exact TW _ _, hB⟩
     ·have hL : Hid (KC ⟨op, x, y⟩ k = [(k : Int) + 1]) := by
       show _ = _
       unfold KC; rw [Z7 h9, Z7 h14, Z7 h13]
      have n9 : (op == 9) = false := by rw [beq_eq_false_iff_ne]; omega
      have n16 : (op == 16) = false := by rw [beq_eq_false_iff_ne]; omega
      have n14 : (op == 14) = false := by rw [beq_eq_false_iff_ne]; omega
      have n13 : (op == 13) = false := by rw [beq_eq_false_iff_ne]; omega
      go_wp2_with fail; have hI := J7 ((w.alloc (.cells #[.int .i64 cp, .int .i64 lc, .int .i64 dp, .slice (some ⟨b, off, none⟩) code.length c] 53)).alloc (.cells #[.int .i64 op, .int .i64 x, .int .i64 y] 59)) ((k : Int) + 1) 3 (w.heap.size + 1 + 1) (by simp); have hp := Me w (.cells #[.int .i64 cp, .int .i64 lc, .int .i64 dp, .slice (some ⟨b, off, none⟩) code.length c] 53) (.cells #[.int .i64 op, .int .i64 x, .int .i64 y] 59) (.cells #[.int .i64 ((k : Int) + 1)] 3); have hB : Below w.heap.size w (((w.alloc (.cells #[.int .i64 cp, .int .i64 lc, .int .i64 dp, .slice (some ⟨b, off, none⟩) code.length c] 53)).alloc (.cells #[.int .i64 op, .int .i64 x, .int .i64 y] 59)).alloc (.cells #[.int .i64 ((k : Int) + 1)] 3)) := (((Below.refl _ _).alloc (Nat.le_refl _) _).alloc (by simp) _).alloc (by simp; omega) _; refine (TM _ [(k : Int) + 1] cp lc dp code.length w.heap.size _ hl _ c hI (by simp) hp).mono ?_; rintro e w' ⟨rfl, hw'⟩; rw [<- hw']; clear hw' hp; generalize ((w.alloc (.cells #[.int .i64 cp, .int .i64 lc, .int .i64 dp, .slice (some ⟨b, off, none⟩) code.length c] 53)).alloc (.cells #[.int .i64 op, .int .i64 x, .int .i64 y] 59)).alloc (.cells #[.int .i64 ((k : Int) + 1)] 3) = W at hI hB ⊢; obtain ⟨bb, hbb⟩ : ∃ bb, [(k : Int) + 1].any (Rw code.length) = bb := ⟨_, rfl⟩; have Hb2 := Z9 hbb; rw [hbb]; clear hbb; cases bb
      ·have ht : Hid (MJ code (k : Int) = ([(k : Int) + 1], 0)) := by
        show _ = _
        rw [Ht.out, Z7 (by simp), Z7 (by omega), hL.out, Hb2.out]; rfl
       go_wp2; go_ret2; exact ⟨_, by rw [ht.out]; rfl, by rw [ht.out]; exact ⟨hI, fun b o sp m c hv => by have := (Value.slice.inj hv).1; simp at this; omega⟩, hB⟩
      ·have ht : Hid (MJ code (k : Int) = ([], 24)) := by
        show _ = _
        rw [Ht.out, Z7 (by simp), Z7 (by omega), hL.out, Hb2.out]; rfl
       go_wp2; go_ret2; exact ⟨.slice none 0 0, by rw [ht.out]; rfl, by rw [ht.out]; exact TW _ _, hB⟩
def J6 : List ByteArray := [⟨#[]⟩, ⟨#[105, 110, 116]⟩, ⟨#[116, 101, 120, 116]⟩, ⟨#[108, 111, 99, 97, 108]⟩, ⟨#[115, 116, 111, 114, 101]⟩, ⟨#[99, 97, 112, 116, 117, 114, 101]⟩, ⟨#[115, 101, 108, 102]⟩, ⟨#[99, 108, 111, 115, 117, 114, 101]⟩, ⟨#[99, 97, 108, 108]⟩, ⟨#[114, 101, 116, 117, 114, 110]⟩, ⟨#[98, 108, 111, 99, 107]⟩, ⟨#[102, 105, 101, 108, 100]⟩, ⟨#[116, 97, 103]⟩, ⟨#[115, 119, 105, 116, 99, 104]⟩, ⟨#[106, 117, 109, 112]⟩, ⟨#[112, 114, 105, 109]⟩, ⟨#[102, 97, 105, 108]⟩]
def Pf (op : Int) : ByteArray := if 1 <= op /\ op <= 16 then J6.getD op.toNat ByteArray.empty else ⟨#[]⟩
theorem D8 (op : Int) (h : Zb op = true) : (Pf op).toList.isEmpty = false := by
 have h2 : 1 <= op /\ op <= 16 := by unfold Zb Y7 at h; simpa using h
 rcases Pj op with rfl | rfl | rfl | rfl | rfl | rfl | rfl | rfl | rfl | rfl | rfl | rfl | rfl | rfl | rfl | rfl | h3
 all_goals first | (rw [Go.ByteArray.toList_eq]; rfl) | (exfalso; omega)
theorem Jl (op : Int) (h : Zb op = false) : Pf op = ⟨#[]⟩ := by
 unfold Pf
 rw [if_neg]
 intro h2
 unfold Zb Y7 at h
 simp [h2.1, h2.2] at h
theorem Ab (w w' : World) (hw : w' = w.alloc (.cells (J6.map Value.string).toArray 9)) (k : Nat) (h5 : k <= 16) : w'.cell? ⟨w.heap.size, k, none⟩ = some (.string (J6.getD k ByteArray.empty)) := by
 rw [hw, Ph]
 have : k < J6.length := by show k < 17; omega
 simp [List.getD, this]
theorem xB (op : Int) (w : World) :
 Calls Tryz.prog 58 #[.int .i64 op] w fun e w' => e = .returned (.string (Pf op)) /\ Below w.heap.size w w' := by
 by_cases h : op < 1 \/ 16 < op
 ·have hw : Hid (Pf op = ⟨#[]⟩) := by show _ = _; unfold Pf; rw [Z7 (by omega)]
  rcases h with h | h
  all_goals
   go_in; go_wp2; go_ret; exact ⟨by rw [hw.out]; rfl, (Below.refl _ _).alloc (Nat.le_refl _) _⟩
 ·obtain ⟨k, rfl⟩ := Int.eq_ofNat_of_zero_le (show 0 <= op by omega)
  have hk : k <= 16 := by omega
  have hk1 : 1 <= k := by omega
  have hw : Hid (Pf k = J6.getD k ByteArray.empty) := by show _ = _; unfold Pf; rw [ZY (by omega)]; rfl
  have hc := Ab w _ rfl k hk; simp only [J6, List.map_cons, List.map_nil] at hc; generalize hx : List.getD _ k ByteArray.empty = x at hc; have Hx := Z9 hx; clear h hx; go_in; go_wp2; go_ret; refine ⟨?_, (Below.refl _ _).alloc (Nat.le_refl _) _⟩; rw [hw.out, <- Hx.out]; rfl
theorem ZV (w : World) (o : Obj) : (w.alloc o).heap[w.heap.size]? = some o := by simp [World.alloc, -World.alloc_eq]
def pops (code : List Ins) (at_ : Nat) : Int := (Ya (code.getD at_ default).op (code.getD at_ default).a (code.getD at_ default).b).1
def pushes (code : List Ins) (at_ : Nat) : Int := (Ya (code.getD at_ default).op (code.getD at_ default).a (code.getD at_ default).b).2.1
def qZ (code : List Ins) (at_ : Nat) : Int := (Ya (code.getD at_ default).op (code.getD at_ default).a (code.getD at_ default).b).2.2
def Rv (code : List Ins) (at_ : Nat) : List Int := (MJ code at_).1
def mV (code : List Ins) (at_ : Nat) : Int := (MJ code at_).2
def Pb (code : List Ins) (at_ : Nat) (d : Int) : Prop := qZ code at_ = 0 /\ mV code at_ = 0 /\ pops code at_ <= d
def O9 (code : List Ins) (at_ : Nat) (d : Int) : Int := d - pops code at_ + pushes code at_
inductive Reach (code : List Ins) : Nat -> Int -> Prop
 | start : Reach code 0 0
 | step {at_ : Nat} {d t : Int} : Reach code at_ d -> Pb code at_ d -> t ∈ Rv code at_ -> Reach code t.toNat (O9 code at_ d)
def Bad (code : List Ins) : Prop := (∃ a d, Reach code a d /\ ¬ Pb code a d) \/ ∃ a d d', Reach code a d /\ Reach code a d' /\ d ≠ d'
def Most (code : List Ins) (m : Int) : Prop := 0 <= m /\ (∀ a d, Reach code a d -> d <= m /\ O9 code a d <= m) /\ (m = 0 \/ ∃ a d, Reach code a d /\ (m = d \/ m = O9 code a d))
def TA (code : List Ins) (r e : Int) : Prop := if code.length = 0 then r = 0 /\ e = 24 else (r = 0 /\ e = 24 /\ Bad code) \/ (e = 0 /\ ¬ Bad code /\ Most code r)
theorem BG (code : List Ins) (r e r' e' : Int) (h : TA code r e) (h' : TA code r' e') : r = r' /\ e = e' := by
 unfold TA at h h'
 by_cases h0 : code.length = 0
 ·rw [ZY h0] at h h'
  exact ⟨h.1.trans h'.1.symm, h.2.trans h'.2.symm⟩
 ·rw [Z7 h0] at h h'
  rcases h with ⟨rfl, rfl, hb⟩ | ⟨rfl, hn, m1, m2, m3⟩
  ·rcases h' with ⟨rfl, rfl, _⟩ | ⟨_, hn, _⟩
   ·exact ⟨rfl, rfl⟩
   ·exact absurd hb hn
  ·rcases h' with ⟨_, _, hb⟩ | ⟨rfl, _, k1, k2, k3⟩
   ·exact absurd hb hn
   ·refine ⟨?_, rfl⟩
    have a1 : r <= r' := by
     rcases m3 with rfl | ⟨a, d, hr, h | h⟩
     ·exact k1
     ·rw [h]; exact (k2 a d hr).1
     ·rw [h]; exact (k2 a d hr).2
    have a2 : r' <= r := by
     rcases k3 with rfl | ⟨a, d, hr, h | h⟩
     ·exact m1
     ·rw [h]; exact (m2 a d hr).1
     ·rw [h]; exact (m2 a d hr).2
    omega
theorem Md (op a b : Int) : 0 <= (Ya op a b).1 /\ (Ya op a b).1 <= 1000 /\ 0 <= (Ya op a b).2.1 /\ (Ya op a b).2.1 <= 1 /\ 0 <= (Ya op a b).2.2 /\ (Ya op a b).2.2 <= 2 := by
 unfold Ya
 repeat' split
 all_goals try decide
 all_goals rename_i h
 ·unfold Y7 at h; simp at h; simp only; omega
 ·unfold Y7 at h; simp at h; simp only; omega
 ·have := (Tj a).2 h; simp only; omega
theorem QY (code : List Ins) (k : Nat) : 0 <= pops code k /\ pops code k <= 1000 /\ 0 <= pushes code k /\ pushes code k <= 1 := by
 have := Md (code.getD k default).op (code.getD k default).a (code.getD k default).b
 exact ⟨this.1, this.2.1, this.2.2.1, this.2.2.2.1⟩
theorem Jk (code : List Ins) (k : Nat) (h : mV code k = 0) (t : Int) (ht : t ∈ Rv code k) : 0 <= t /\ t < code.length := by
 have key : MJ code k = ([], 2) \/ MJ code k = ([], 24) \/ ((MJ code k).1.any (Rw code.length) = false) := by
  unfold MJ; by_cases c1 : ((k : Int) < 0 \/ (code.length : Int) <= (k : Int))
  ·rw [ZY c1]; exact .inl rfl
  ·rw [Z7 c1]
   simp only; by_cases c2 : Zb (code.getD (k : Int).toNat default).op = false
   ·rw [ZY c2]; exact .inl rfl
   ·rw [Z7 c2]
    by_cases c3 : (code.getD (k : Int).toNat default).op = 13 /\ Y7 (code.getD (k : Int).toNat default).b 1 1000 = false
    ·rw [ZY c3]; exact .inr (.inl rfl)
    ·rw [Z7 c3]
     cases c4 : (KC (code.getD (k : Int).toNat default) (k : Int).toNat).any (Rw code.length)
     ·exact .inr (.inr (by simpa using c4))
     ·exact .inr (.inl (by simp))
 unfold mV at h
 unfold Rv at ht
 rcases key with e | e | e
 ·rw [e] at h; cases h
 ·rw [e] at h; cases h
 ·have h4 := List.any_eq_false.1 e t ht
  unfold Rw Y7 at h4; simp at h4; omega
theorem qY (code : List Ins) (k : Nat) : (Rv code k).length <= 1000 := by
 unfold Rv MJ
 by_cases c1 : ((k : Int) < 0 \/ (code.length : Int) <= (k : Int))
 ·rw [ZY c1]; simp
 ·rw [Z7 c1]
  simp only; by_cases c2 : Zb (code.getD (k : Int).toNat default).op = false
  ·rw [ZY c2]; simp
  ·rw [Z7 c2]
   by_cases c3 : (code.getD (k : Int).toNat default).op = 13 /\ Y7 (code.getD (k : Int).toNat default).b 1 1000 = false
   ·rw [ZY c3]; simp
   ·rw [Z7 c3]
    by_cases c4 : (KC (code.getD (k : Int).toNat default) (k : Int).toNat).any (Rw code.length) = true
    ·rw [ZY c4]; simp
    ·rw [Z7 c4]
     simp only; unfold KC; split
     ·simp
     ·split
      ·simp
      ·split
       ·rename_i h13
        simp only [List.length_map, List.length_range]; have : Y7 (code.getD (k : Int).toNat default).b 1 1000 = true := by
         cases h : Y7 (code.getD (k : Int).toNat default).b 1 1000
         ·exact absurd ⟨h13, h⟩ c3
         ·rfl
        unfold Y7 at this; simp only [Bool.and_eq_true, decide_eq_true_eq] at this; omega
       ·simp
def GR (bs : List Int) : Nat := bs.count (-1)
structure Inv (code : List Ins) (bs : List Int) (todo : List Nat) (m : Int) (cur : Option Nat) (k : Nat) : Prop where
 len : bs.length = code.length
 zero : bs.getD 0 (-1) = 0
 lab : ∀ a, a < code.length -> bs.getD a (-1) ≠ -1 -> 0 <= bs.getD a (-1) /\ Reach code a (bs.getD a (-1)) /\ bs.getD a (-1) + (GR bs : Int) <= (code.length : Int) - 1
 inn : ∀ t ∈ todo, t < code.length /\ bs.getD t (-1) ≠ -1
 done : ∀ a, a < code.length -> bs.getD a (-1) ≠ -1 -> a ∉ todo -> cur ≠ some a -> Pb code a (bs.getD a (-1)) /\ (∀ t ∈ Rv code a, bs.getD t.toNat (-1) = O9 code a (bs.getD a (-1))) /\ bs.getD a (-1) <= m /\ O9 code a (bs.getD a (-1)) <= m
 m0 : 0 <= m
 jA : m = 0 \/ ∃ a d, Reach code a d /\ (m = d \/ m = O9 code a d)
 now : ∀ c, cur = some c -> c < code.length /\ bs.getD c (-1) ≠ -1 /\ Pb code c (bs.getD c (-1)) /\ bs.getD c (-1) <= m /\ O9 code c (bs.getD c (-1)) <= m /\ ∀ t ∈ (Rv code c).take k, bs.getD t.toNat (-1) = O9 code c (bs.getD c (-1))
theorem PW {code : List Ins} {a : Nat} {d : Int} (h : Pb code a d) : 0 <= O9 code a d := by
 have := QY code a; have := h.2.2; unfold O9; omega
theorem mU {code : List Ins} {a : Nat} {d : Int} : O9 code a d <= d + 1 := by
 have := QY code a; unfold O9; omega
theorem J5 (code : List Ins) (h : 0 < code.length) : GR ((List.replicate code.length (-1)).set 0 0) + 1 = code.length := by
 obtain ⟨n, hn⟩ : ∃ n, code.length = n + 1 := ⟨code.length - 1, by omega⟩
 rw [hn]
 show List.count (-1) (((-1 : Int) :: List.replicate n (-1)).set 0 0) + 1 = n + 1
 simp
theorem Aa (code : List Ins) (h : 0 < code.length) : Inv code ((List.replicate code.length (-1)).set 0 0) [0] 0 none 0 := by
 have hg : ∀ a, ((List.replicate code.length (-1 : Int)).set 0 0).getD a (-1) = if a = 0 then 0 else -1 := fun a => by
  simp only [List.getD_eq_getElem?_getD, List.getElem?_set, List.length_replicate]; by_cases ha : a = 0
  ·subst ha; simp [h]
  ·rw [Z7 (Ne.symm ha), Z7 ha]
   cases hq : (List.replicate code.length (-1 : Int))[a]? with
   | none => rfl
   | some x => have := List.mem_of_getElem? hq; rw [List.mem_replicate] at this; simpa using this.2
 have hu := J5 code h
 refine ⟨by simp, by rw [hg]; rfl, fun a ha hne => ?_, fun t ht => ?_, fun a ha hne hnt _ => ?_, by decide, .inl rfl, fun c hc => by cases hc⟩
 ·rw [hg] at hne ⊢
  by_cases h0 : a = 0
  ·subst h0; rw [ZY rfl]; exact ⟨by decide, .start, by omega⟩
  ·rw [Z7 h0] at hne; exact absurd rfl hne
 ·obtain rfl : t = 0 := by simpa using ht
  exact ⟨h, by rw [hg]; decide⟩
 ·rw [hg] at hne
  by_cases h0 : a = 0
  ·subst h0; exact absurd (List.mem_singleton.2 rfl) hnt
  ·rw [Z7 h0] at hne; exact absurd rfl hne
theorem Inv.take {code : List Ins} {bs : List Int} {todo rest : List Nat} {m : Int} (h : Inv code bs todo m none 0) (c : Nat) (hc : c ∈ todo) (h1 : ∀ t ∈ todo, t = c \/ t ∈ rest) (h2 : ∀ t ∈ rest, t ∈ todo) (hok : Pb code c (bs.getD c (-1))) (m' : Int) (hm : m' = max (max m (bs.getD c (-1))) (O9 code c (bs.getD c (-1)))) : Inv code bs rest m' (some c) 0 := by
 obtain ⟨hl, hne⟩ := h.inn c hc
 have hlab := h.lab c hl hne
 refine ⟨h.len, h.zero, h.lab, fun t ht => h.inn t (h2 t ht), fun a ha hn hnt hca => ?_, by have := h.m0; omega, ?_, fun c' hc' => ?_⟩
 ·have aS : a ∉ todo := fun ht => by
   rcases h1 a ht with e | e
   ·exact hca (by rw [e])
   ·exact hnt e
  obtain ⟨d1, d2, d3, d4⟩ := h.done a ha hn aS (by nofun); exact ⟨d1, d2, by omega, by omega⟩
 ·rcases h.jA with e | ⟨a, d, hr, hd⟩
  ·by_cases q1 : m' = 0
   ·exact .inl q1
   ·refine .inr ⟨c, _, hlab.2.1, ?_⟩
    omega
  ·by_cases q1 : m' = m
   ·exact .inr ⟨a, d, hr, by rw [q1]; exact hd⟩
   ·refine .inr ⟨c, _, hlab.2.1, ?_⟩
    omega
 ·cases hc'
  exact ⟨hl, hne, hok, by omega, by omega, fun t ht => by simp at ht⟩
theorem Inv.reach {code : List Ins} {bs : List Int} {todo : List Nat} {m : Int} {k : Nat} {c : Nat} (h : Inv code bs todo m (some c) k) (t : Int) (ht : t ∈ Rv code c) : Reach code t.toNat (O9 code c (bs.getD c (-1))) := by
 obtain ⟨hl, hne, hok, _⟩ := h.now c rfl
 exact .step (h.lab c hl hne).2.1 hok ht
theorem Inv.same {code : List Ins} {bs : List Int} {todo : List Nat} {m : Int} {k : Nat} {c : Nat} (h : Inv code bs todo m (some c) k) (hk : k < (Rv code c).length) (he : bs.getD ((Rv code c).getD k 0).toNat (-1) = O9 code c (bs.getD c (-1))) : Inv code bs todo m (some c) (k + 1) := by
 refine ⟨h.len, h.zero, h.lab, h.inn, h.done, h.m0, h.jA, fun c' hc' => ?_⟩
 cases hc'
 obtain ⟨n1, n2, n3, n4, n5, n6⟩ := h.now c rfl
 refine ⟨n1, n2, n3, n4, n5, fun t ht => ?_⟩
 rw [List.take_succ_eq_append_getElem hk] at ht
 rcases List.mem_append.1 ht with ht | ht
 ·exact n6 t ht
 ·obtain rfl : t = _ := by simpa using ht
  simpa [List.getD, hk] using he
theorem Inv.fresh {code : List Ins} {bs : List Int} {todo todo' : List Nat} {m : Int} {k : Nat} {c : Nat} (h : Inv code bs todo m (some c) k) (hk : k < (Rv code c).length) (he : bs.getD ((Rv code c).getD k 0).toNat (-1) = -1)
 (h1 : ∀ t ∈ todo', t ∈ todo \/ t = ((Rv code c).getD k 0).toNat) (h2 : ∀ t ∈ todo, t ∈ todo') (h3 : ((Rv code c).getD k 0).toNat ∈ todo') :
 Inv code (bs.set ((Rv code c).getD k 0).toNat (O9 code c (bs.getD c (-1)))) todo' m (some c) (k + 1) /\ GR (bs.set ((Rv code c).getD k 0).toNat (O9 code c (bs.getD c (-1)))) + 1 = GR bs := by
 obtain ⟨n1, n2, n3, n4, n5, n6⟩ := h.now c rfl
 have hmem : (Rv code c).getD k 0 ∈ Rv code c := by simp only [List.getD_eq_getElem?_getD, List.getElem?_eq_getElem hk, Option.getD_some]; exact List.getElem_mem hk
 have mR := h.reach _ hmem
 obtain ⟨t0, t1⟩ := Jk code c n3.2.1 _ hmem
 generalize hq : (Rv code c).getD k 0 = t at *
 have hq' : t.toNat < bs.length := by rw [h.len]; omega
 have hg : ∀ a, (bs.set t.toNat (O9 code c (bs.getD c (-1)))).getD a (-1) = if a = t.toNat then O9 code c (bs.getD c (-1)) else bs.getD a (-1) := fun a => by
  simp only [List.getD_eq_getElem?_getD, List.getElem?_set]; by_cases ha : a = t.toNat
  ·subst ha; simp [hq']
  ·rw [Z7 (Ne.symm ha), Z7 ha]
 have hct : c ≠ t.toNat := fun e => n2 (by rw [e]; exact he)
 have h0t : t.toNat ≠ 0 := fun e => by rw [e, h.zero] at he; exact absurd he (by decide)
 have haft := PW n3
 have hlab := h.lab c n1 n2
 have hu : GR (bs.set t.toNat (O9 code c (bs.getD c (-1)))) + 1 = GR bs := by
  unfold GR; have e1 := List.count_set (a := O9 code c (bs.getD c (-1))) (b := (-1 : Int)) (l := bs) (i := t.toNat) hq'; rw [e1]; have e2 : bs[t.toNat] = -1 := by simpa [List.getD, hq'] using he
  have e3 : ¬ (O9 code c (bs.getD c (-1)) = -1) := by omega
  have e4 : 0 < bs.count (-1) := List.count_pos_iff.2 (by rw [<- e2]; exact List.getElem_mem hq'); simp only [e2, beq_self_eq_true, if_pos, beq_iff_eq, Z7 e3]; omega
 refine ⟨⟨by simp [h.len], by rw [hg, Z7 (Ne.symm h0t)]; exact h.zero, fun a ha hne => ?_, fun s hs => ?_, fun a ha hne hnt hca => ?_, h.m0, h.jA, fun c' hc' => ?_⟩, hu⟩
 ·rw [hg] at hne ⊢
  by_cases e : a = t.toNat
  ·rw [ZY e]
   refine ⟨haft, by rw [e]; exact mR, ?_⟩; have := mU (code := code) (a := c) (d := bs.getD c (-1)); omega
  ·rw [Z7 e] at hne ⊢
   have := h.lab a ha hne; exact ⟨this.1, this.2.1, by omega⟩
 ·rw [hg]
  rcases h1 s hs with e | e
  ·have := h.inn s e
   refine ⟨this.1, ?_⟩; split
   ·omega
   ·exact this.2
  ·rw [ZY e]; exact ⟨by omega, by omega⟩
 ·rw [hg] at hne ⊢
  by_cases e : a = t.toNat
  ·rw [e] at hnt; exact absurd h3 hnt
  ·rw [Z7 e] at hne ⊢
   obtain ⟨d1, d2, d3, d4⟩ := h.done a ha hne (fun q => hnt (h2 a q)) hca; refine ⟨d1, fun s hs => ?_, d3, d4⟩; have hd := d2 s hs; rw [hg]; split
   ·rename_i e2
    have := PW d1; rw [e2, he] at hd; omega
   ·exact hd
 ·cases hc'
  rw [hg, Z7 hct]; refine ⟨n1, n2, n3, n4, n5, fun s hs => ?_⟩; rw [hg]; split
  ·rfl
  ·rename_i e2
   rw [List.take_succ_eq_append_getElem hk] at hs; rcases List.mem_append.1 hs with hs | hs
   ·exact n6 s hs
   ·obtain rfl : s = _ := by simpa using hs
    have : (Rv code c)[k] = t := by rw [<- hq]; simp [List.getD, hk]
    rw [this] at e2; exact absurd rfl e2
theorem Inv.close {code : List Ins} {bs : List Int} {todo : List Nat} {m : Int} {k : Nat} {c : Nat} (h : Inv code bs todo m (some c) k) (hk : (Rv code c).length <= k) : Inv code bs todo m none 0 := by
 obtain ⟨n1, n2, n3, n4, n5, n6⟩ := h.now c rfl
 rw [List.take_of_length_le hk] at n6
 refine ⟨h.len, h.zero, h.lab, h.inn, fun a ha hne hnt _ => ?_, h.m0, h.jA, fun c' hc' => by cases hc'⟩
 by_cases e : c = a
 ·subst e; exact ⟨n3, n6, n4, n5⟩
 ·exact h.done a ha hne hnt (fun q => e (Option.some.inj q))
theorem Inv.clash {code : List Ins} {bs : List Int} {todo : List Nat} {m : Int} {k : Nat} {c : Nat} (h : Inv code bs todo m (some c) k) (hk : k < (Rv code c).length) (he : bs.getD ((Rv code c).getD k 0).toNat (-1) ≠ -1) (hne : bs.getD ((Rv code c).getD k 0).toNat (-1) ≠ O9 code c (bs.getD c (-1))) : Bad code := by
 obtain ⟨n1, n2, n3, _⟩ := h.now c rfl
 have hmem : (Rv code c).getD k 0 ∈ Rv code c := by simp only [List.getD_eq_getElem?_getD, List.getElem?_eq_getElem hk, Option.getD_some]; exact List.getElem_mem hk
 obtain ⟨t0, t1⟩ := Jk code c n3.2.1 _ hmem
 exact .inr ⟨_, _, _, (h.lab _ (by omega) he).2.1, h.reach _ hmem, hne⟩
theorem Inv.fault {code : List Ins} {bs : List Int} {todo : List Nat} {m : Int} {c : Nat} (h : Inv code bs todo m none 0) (hc : c ∈ todo) (hno : ¬ Pb code c (bs.getD c (-1))) : Bad code := by
 obtain ⟨hl, hne⟩ := h.inn c hc
 exact .inl ⟨c, _, (h.lab c hl hne).2.1, hno⟩
theorem Inv.all {code : List Ins} {bs : List Int} {m : Int} (h : Inv code bs [] m none 0) (h0 : 0 < code.length) : ∀ a d, Reach code a d -> a < code.length /\ bs.getD a (-1) = d /\ 0 <= d := by
 intro a d hr
 induction hr with
 | start => exact ⟨h0, h.zero, by decide⟩
 | @step b e t hb hok ht ih =>
   obtain ⟨i1, i2, i3⟩ := ih; have hne : bs.getD b (-1) ≠ -1 := by omega
   obtain ⟨d1, d2, _⟩ := h.done b i1 hne (by simp) (by nofun); rw [i2] at d1 d2; obtain ⟨t0, t1⟩ := Jk code b hok.2.1 _ ht; exact ⟨by omega, d2 t ht, PW hok⟩
theorem Inv.end {code : List Ins} {bs : List Int} {m : Int} (h : Inv code bs [] m none 0) (h0 : 0 < code.length) : TA code m 0 := by
 have hall := h.all h0
 unfold TA
 rw [Z7 (by omega)]
 refine .inr ⟨rfl, fun hb => ?_, h.m0, fun a d hr => ?_, h.jA⟩
 ·rcases hb with ⟨a, d, hr, hno⟩ | ⟨a, d, d', hr, hr', hne⟩
  ·obtain ⟨i1, i2, i3⟩ := hall a d hr
   have := (h.done a i1 (by omega) (by simp) (by nofun)).1; rw [i2] at this; exact hno this
  ·exact hne ((hall a d hr).2.1.symm.trans (hall a d' hr').2.1)
 ·obtain ⟨i1, i2, i3⟩ := hall a d hr
  have := h.done a i1 (by omega) (by simp) (by nofun); rw [i2] at this; exact ⟨this.2.2.1, this.2.2.2⟩
theorem MB {code : List Ins} (h0 : 0 < code.length) (h : Bad code) : TA code 0 24 := by
 unfold TA; rw [Z7 (by omega)]; exact .inl ⟨rfl, rfl, h⟩
inductive Z0 where
 | mk : Int -> Int -> ByteArray -> Value -> List Z0 -> Z0
def Z0.op : Z0 -> Int | .mk o _ _ _ _ => o
def Z0.n : Z0 -> Int | .mk _ n _ _ _ => n
def Z0.s : Z0 -> ByteArray | .mk _ _ s _ _ => s
def Z0.lv : Z0 -> Value | .mk _ _ _ v _ => v
def Z0.l : Z0 -> List Z0 | .mk _ _ _ _ l => l
instance : Inhabited Z0 := ⟨.mk 0 0 ⟨#[]⟩ (.slice none 0 0) []⟩
theorem Z0.induct {P : Z0 -> Prop} (h : ∀ op n s lv l, (∀ y ∈ l, P y) -> P (.mk op n s lv l)) (x : Z0) : P x :=
 Z0.rec (motive_1 := P) (motive_2 := fun l => ∀ y ∈ l, P y) (fun op n s lv l ih => h op n s lv l ih) (fun _ h => by cases h)
  (fun a l ha hl y hy => by rcases List.mem_cons.1 hy with rfl | hy; exact ha; exact hl y hy) x
mutual
def YO : Z0 -> Nat
 | .mk _ _ _ _ l => Yv l + 1
def Yv : List Z0 -> Nat
 | [] => 0
 | x :: r => YO x + Yv r
end
mutual
def ZU : Z0 -> Nat
 | .mk op _ _ _ l => if op = 9 then ZC l + 2 * (l.length - 1) else ZC l + 1
def ZC : List Z0 -> Nat
 | [] => 0
 | x :: r => ZU x + ZC r
end
theorem Zm (x : Z0) (r : List Z0) : ZC (x :: r) = ZU x + ZC r := by rw [ZC]
theorem Yi : ZC [] = 0 := by rw [ZC]
theorem Xx (op n : Int) (s : ByteArray) (v : Value) (l : List Z0) : ZU (.mk op n s v l) = if op = 9 then ZC l + 2 * (l.length - 1) else ZC l + 1 := by rw [ZU]
def bump (op : Int) : Int := if op = 9 \/ op = 11 then 1 else 0
def UW (T : ByteArray -> Int) (op n : Int) (s : ByteArray) (k : Nat) : Ins :=
 if op = 2 then ⟨1, n, 0⟩ else if op = 3 then ⟨2, T s, 0⟩ else if op = 13 then ⟨16, n, 0⟩ else if op = 21 then ⟨3, n, 0⟩ else if op = 22 then ⟨6, 0, 0⟩ else if op = 23 then ⟨5, n, 0⟩
 else if op = 24 then ⟨7, n, k⟩ else if op = 25 then ⟨8, 0, 0⟩ else if op = 6 then ⟨10, k, 0⟩ else if op = 7 then ⟨11, n, 0⟩ else if op = 8 then ⟨12, n, 0⟩ else ⟨15, n, 0⟩
section
variable (C : List Ins) (T : ByteArray -> Int)
mutual
def YL : Int -> Z0 -> Nat -> Prop
 | loc, .mk op n s _ l, p =>
   if op = 11 then Ru loc l p else if op = 9 then PV loc l p else Wy loc l p /\ C[p + ZC l]? = some (UW T op n s l.length)
def Wy : Int -> List Z0 -> Nat -> Prop
 | _, [], _ => True
 | loc, x :: r, p => YL loc x p /\ Wy loc r (p + ZU x)
def Ru : Int -> List Z0 -> Nat -> Prop
 | _, [], _ => False
 | loc, x :: r, p => YL loc x p /\ C[p + ZU x]? = some ⟨4, loc, 0⟩ /\ Wy (loc + 1) r (p + ZU x + 1)
def PV : Int -> List Z0 -> Nat -> Prop
 | _, [], _ => False
 | loc, x :: r, p => YL loc x p /\ C[p + ZU x]? = some ⟨13, loc, r.length⟩ /\ Tz (loc + 1) r (p + ZU x + 1) (p + ZU x + 1 + r.length) (p + ZU x + ZC r + 2 * r.length)
def Tz : Int -> List Z0 -> Nat -> Nat -> Nat -> Prop
 | _, [], _, _, _ => True
 | loc, y :: r, tab, p, e => C[tab]? = some ⟨14, p, 0⟩ /\ YL loc y p /\ (r ≠ [] -> C[p + ZU y]? = some ⟨14, e, 0⟩) /\ Tz loc r (tab + 1) (p + ZU y + 1) e
end
end
mutual
def dep : Z0 -> Nat -> Nat
 | .mk op _ _ _ l, o => if op = 11 then Sg l o else if op = 9 then QX l o else RY 0 l o
def RY : Nat -> List Z0 -> Nat -> Nat
 | k, [], o => if o = 0 then k else 1
 | k, x :: r, o => if o < ZU x then k + dep x o else RY (k + 1) r (o - ZU x)
def Sg : List Z0 -> Nat -> Nat
 | [], _ => 1
 | x :: r, o => if o < ZU x then dep x o else if o = ZU x then 1 else RY 0 r (o - ZU x - 1)
def QX : List Z0 -> Nat -> Nat
 | [], _ => 1
 | x :: r, o => if o < ZU x then dep x o else if o = ZU x then 1 else if o < ZU x + 1 + r.length then 0 else Q5 r (o - ZU x - 1 - r.length)
def Q5 : List Z0 -> Nat -> Nat
 | [], _ => 1
 | y :: r, o => if o < ZU y then dep y o else if o = ZU y then 1 else Q5 r (o - ZU y - 1)
end
def Zy (caps : Int) (Ze : Int -> Int -> Bool) (loc op n : Int) (s : ByteArray) (k : Nat) : Bool :=
 if op ≠ 3 /\ s.size ≠ 0 then false
 else if op = 2 then decide (k = 0) && Y7 n (-4503599627370496) 4503599627370496
 else if op = 3 then decide (k = 0) && (decide (n = 0) && decide (s.size <= 16384))
 else if op = 6 then decide (n = 0) && decide (k <= 1000)
 else if op = 7 \/ op = 8 then decide (k = 1) && Y7 n 0 999
 else if op = 9 then decide (n = 0) && Y7 k 2 1001
 else if op = 11 \/ op = 25 then decide (n = 0) && decide (k = 2)
 else if op = 12 then Y7 n 1 14 && decide ((k : Int) = ZA n)
 else if op = 13 then decide (k = 0) && Y7 n 1 1000000
 else if op = 21 then decide (k = 0) && Y7 n 0 (loc - 1)
 else if op = 22 then decide (k = 0) && decide (n = 0)
 else if op = 23 then decide (k = 0) && Y7 n 0 (caps - 1)
 else if op = 24 then decide (k <= 1000) && Ze n k
 else false
section
variable (caps : Int) (Ze : Int -> Int -> Bool)
mutual
def ZI : Int -> Z0 -> Bool
 | loc, .mk op n s _ l => Zy caps Ze loc op n s l.length && XF loc (loc + bump op) l
def XF : Int -> Int -> List Z0 -> Bool
 | _, _, [] => true
 | a, b, x :: r => ZI a x && XF b b r
end
end
mutual
def Xm : Int -> Z0 -> Int
 | loc, .mk op _ _ _ l => SB loc loc (loc + bump op) l
def SB : Int -> Int -> Int -> List Z0 -> Int
 | m, _, _, [] => m
 | m, a, b, x :: r => SB (max m (Xm a x)) b b r
end
theorem xA {op : Int} (h : op ≠ 9) (h' : op ≠ 11) : bump op = 0 := by unfold bump; rw [if_neg]; omega
theorem xw {op : Int} (h : op = 9 \/ op = 11) : bump op = 1 := by unfold bump; rw [ZY h]
theorem TV {caps : Int} {Ze : Int -> Int -> Bool} {loc n : Int} {s : ByteArray} {k : Nat} (h : Zy caps Ze loc 11 n s k = true) : k = 2 := by
 unfold Zy at h
 by_cases hs : (11 : Int) ≠ 3 /\ s.size ≠ 0
 ·rw [ZY hs] at h; cases h
 ·rw [Z7 hs, Z7 (by decide), Z7 (by decide), Z7 (by decide), Z7 (by decide), Z7 (by decide), ZY (.inl rfl), Bool.and_eq_true] at h
  exact of_decide_eq_true h.2
theorem Mx {caps : Int} {Ze : Int -> Int -> Bool} {loc n : Int} {s : ByteArray} {k : Nat} (h : Zy caps Ze loc 9 n s k = true) : 2 <= k /\ k <= 1001 := by
 unfold Zy at h
 by_cases hs : (9 : Int) ≠ 3 /\ s.size ≠ 0
 ·rw [ZY hs] at h; cases h
 ·rw [Z7 hs, Z7 (by decide), Z7 (by decide), Z7 (by decide), Z7 (by decide), ZY rfl, Bool.and_eq_true] at h
  have := h.2; unfold Y7 at this; simp only [Bool.and_eq_true, decide_eq_true_eq] at this; omega
theorem O8 {α : Type} {l : List α} (h : l.length = 2) : ∃ x y, l = [x, y] := by
 match l, h with
 | [x, y], _ => exact ⟨x, y, rfl⟩
theorem Qx {α : Type} {l : List α} (h : 1 <= l.length) : ∃ x r, l = x :: r := by
 match l, h with
 | x :: r, _ => exact ⟨x, r, rfl⟩
theorem xu {α : Type} {l : List α} (h : 2 <= l.length) : ∃ x y r, l = x :: y :: r := by
 match l, h with
 | x :: y :: r, _ => exact ⟨x, y, r, rfl⟩
theorem zZ : ∀ x : Z0, 0 < ZU x \/ (x.op = 9 /\ x.l.length <= 1) := by
 intro x
 cases x with
 | mk op n s lv l =>
   by_cases h : op = 9
   ·by_cases hl : l.length <= 1
    ·exact .inr ⟨h, hl⟩
    ·left; rw [Xx, ZY h]; omega
   ·left; rw [Xx, Z7 h]; omega
theorem Te {caps : Int} {Ze : Int -> Int -> Bool} {loc : Int} {x : Z0} (h : ZI caps Ze loc x = true) : 0 < ZU x := by
 rcases zZ x with h1 | ⟨h1, h2⟩
 ·exact h1
 ·cases x with
  | mk op n s lv l =>
    have h1 : op = 9 := h1; have h2 : l.length <= 1 := h2; subst h1; unfold ZI at h; rw [Bool.and_eq_true] at h; have := Mx h.1; omega
theorem D7 {caps : Int} {Ze : Int -> Int -> Bool} (k : Nat) (a b : Int) : ∀ l : List Z0, (∀ y ∈ l, ∀ loc, ZI caps Ze loc y = true -> dep y 0 = 0) -> XF caps Ze a b l = true -> RY k l 0 = k
 | [], _, _ => by unfold RY; rfl
 | x :: r, h, hf => by
   unfold XF at hf; rw [Bool.and_eq_true] at hf; unfold RY; rw [ZY (Te hf.1), h x (List.mem_cons_self ..) _ hf.1]; rfl
theorem BF {caps : Int} {Ze : Int -> Int -> Bool} (x : Z0) : ∀ loc, ZI caps Ze loc x = true -> dep x 0 = 0 := by
 induction x using Z0.induct with
 | h op n s lv l ih =>
   intro loc h; unfold ZI at h; rw [Bool.and_eq_true] at h; obtain ⟨h1, h2⟩ := h; unfold dep; by_cases e1 : op = 11
   ·subst e1
    rw [ZY rfl]; have hl := TV h1; obtain ⟨x, r, rfl⟩ := Qx (by omega : 1 <= l.length); unfold XF at h2; rw [Bool.and_eq_true] at h2; unfold Sg; rw [ZY (Te h2.1)]; exact ih x (List.mem_cons_self ..) _ h2.1
   ·rw [Z7 e1]
    by_cases e2 : op = 9
    ·subst e2
     rw [ZY rfl]; have hl := Mx h1; obtain ⟨x, r, rfl⟩ := Qx (by omega : 1 <= l.length); unfold XF at h2; rw [Bool.and_eq_true] at h2; unfold QX; rw [ZY (Te h2.1)]; exact ih x (List.mem_cons_self ..) _ h2.1
    ·rw [Z7 e2]
     exact D7 0 _ _ l (fun y hy loc hf => ih y hy loc hf) h2
theorem O7 {caps : Int} {Ze : Int -> Int -> Bool} (k : Nat) (a b : Int) : ∀ l : List Z0, XF caps Ze a b l = true -> RY k l (ZC l) = k + l.length /\ RY k l (ZC l + 1) = 1
 | [], _ => by unfold ZC RY; simp
 | x :: r, hf => by
   unfold XF at hf; rw [Bool.and_eq_true] at hf; obtain ⟨i1, i2⟩ := O7 (k + 1) b b r hf.2; rw [Zm]; unfold RY; rw [Z7 (by omega), Z7 (by omega), show ZU x + ZC r - ZU x = ZC r by omega, show ZU x + ZC r + 1 - ZU x = ZC r + 1 by omega, i1, i2]; simp; omega
theorem Mc {caps : Int} {Ze : Int -> Int -> Bool} (b : Int) : ∀ l : List Z0, XF caps Ze b b l = true -> l ≠ [] -> Q5 l (ZC l + l.length - 1) = 1
 | [], _, h => absurd rfl h
 | [y], _, _ => by
   rw [Zm, Yi]; unfold Q5; rw [Z7 (by simp), ZY (by simp)]
 | y :: z :: r, hf, _ => by
   unfold XF at hf; rw [Bool.and_eq_true] at hf; have ih := Mc b (z :: r) hf.2 (by simp); rw [Zm]; unfold Q5; have hp : 0 < ZU z := by unfold XF at hf; simp only [Bool.and_eq_true] at hf; exact Te hf.2.1
   have e0 : ZC (z :: r) = ZU z + ZC r := by rw [Zm]
   simp only [List.length_cons] at ih ⊢; rw [Z7 (by omega), Z7 (by omega), show ZU y + ZC (z :: r) + (r.length + 1 + 1) - 1 - ZU y - 1 = ZC (z :: r) + (r.length + 1) - 1 by omega]; exact ih
theorem O6 {caps : Int} {Ze : Int -> Int -> Bool} (x : Z0) (loc : Int) (h : ZI caps Ze loc x = true) : dep x (ZU x) = 1 := by
 cases x with
 | mk op n s lv l =>
   unfold ZI at h; rw [Bool.and_eq_true] at h; obtain ⟨h1, h2⟩ := h; rw [Xx]; unfold dep; by_cases e1 : op = 11
   ·subst e1
    rw [ZY rfl, Z7 (by decide)]; have hl := TV h1; obtain ⟨x, y, rfl⟩ := O8 hl; unfold XF at h2; rw [Bool.and_eq_true] at h2; have hy : XF caps Ze (loc + bump 11) (loc + bump 11) [y] = true := h2.2; unfold Sg; have e0 : ZC [x, y] = ZU x + ZC [y] := Zm _ _; have e2 : ZC [y] = ZU y := by rw [Zm, Yi]; rfl
    have hp := Te (by unfold XF at hy; simp only [Bool.and_eq_true] at hy; exact hy.1); rw [Z7 (by omega), Z7 (by omega), show ZC [x, y] + 1 - ZU x - 1 = ZU y by omega]; have := (O7 0 _ _ [y] hy).1; rw [e2] at this; rw [this]; rfl
   ·rw [Z7 e1]
    by_cases e2 : op = 9
    ·subst e2
     rw [ZY rfl, ZY rfl]; have hl := Mx h1; obtain ⟨x, y, r, rfl⟩ := xu hl.1; unfold XF at h2; rw [Bool.and_eq_true] at h2; unfold QX; have e0 : ZC (x :: y :: r) = ZU x + ZC (y :: r) := Zm _ _; have e3 : ZC (y :: r) = ZU y + ZC r := Zm _ _; have hp : 0 < ZU y := Te (by have := h2.2; unfold XF at this; simp only [Bool.and_eq_true] at this; exact this.1); simp only [List.length_cons]; rw [Z7 (by omega), Z7 (by omega), Z7 (by omega)]; have := Mc _ (y :: r) h2.2 (by simp); simp only [List.length_cons] at this; rw [show ZC (x :: y :: r) + 2 * (r.length + 1 + 1 - 1) - ZU x - 1 - (r.length + 1) = ZC (y :: r) + (r.length + 1) - 1 by omega]; exact this
    ·rw [Z7 e2, Z7 e2]
     exact (O7 0 _ _ l h2).2
end Go.Proofs.YtbcfdebdikgijaaGreatDoor

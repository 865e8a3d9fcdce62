/- Part of the proof; its texts: Cs5 Cs6 Cs7 Cs8 Ct1 Ct2. -/
import Derived.Test.YtbcfdebdikgijaaGreatDoorS7
import Derived.Maps.OwnSet
set_option maxRecDepth 100000
set_option linter.unusedVariables false
set_option linter.unusedSimpArgs false
set_option maxHeartbeats 4000000
namespace Go.Proofs.YtbcfdebdikgijaaGreatDoor
open Go Go.RowKit
structure mD (F : FuncId) (p : Value) (J : World -> Prop) (r : Option Nat) (Ze : Int -> Int -> Bool) (ok : Int -> Int -> Prop) : Prop where
 call : ∀ (w : World) (n parts : Int), J w -> ok n parts -> Calls Tryz.prog F #[.int .i64 n, .int .i64 parts, p] w fun e w' => e = .returned (.bool (Ze n parts)) /\ J w' /\ w.grownBy w' r
 kept : ∀ (w w' : World), J w -> w.grownBy w' none -> J w'
 low : ∀ (w : World), J w -> ∀ k, r = some k -> k < w.heap.size
def M7 (J : World -> Prop) (r : Option Nat) (b : Bool) (w : World) (e : Ending) (w' : World) : Prop := e = .returned (.bool b) /\ J w' /\ w.grownBy w' r
theorem vR (p : Value) (J : World -> Prop) (r : Option Nat) (Ze : Int -> Int -> Bool) (ok : Int -> Int -> Prop) (H : mD 50 p J r Ze ok) (cb : Nat) (caps : Int) (n loc : Int) (s : ByteArray) (a : Option Addr) (k c : Nat) (w : World) (hs : s.size = 0)
 (hC : w.heap[cb]? = some (.cells #[.int .i64 caps, .func (.func 50) #[] #[p]] 145 (0, 0))) (hJ : J w) (hok : ok n k) (hr : r ≠ some cb) :
 Calls Tryz.prog 98 #[.pointer (some ⟨cb, 0, none⟩), .agg #[.int .i64 24, .int .i64 n, .string s, .slice a k c], .int .i64 loc] w (M7 J r (Zy caps Ze loc 24 n s k) w) := by
 have hE : Hid (Zy caps Ze loc 24 n s k = _) := QT (.inr hs)
 obtain rfl := YN hs
 clear hs
 have hg := Z8 w (.cells #[.int .i64 24, .int .i64 n, .string ⟨#[]⟩, .slice a k c] 36)
 have gP := ZV w (.cells #[.int .i64 24, .int .i64 n, .string ⟨#[]⟩, .slice a k c] 36)
 obtain ⟨e0, e1, e2, e3⟩ := ZP gP
 have hC2 := (hg.block _ (Z6 hC) (by nofun)).trans hC
 have g1 : (w.alloc (.cells #[.int .i64 24, .int .i64 n, .string ⟨#[]⟩, .slice a k c] 36)).cell? ⟨cb, 1, none⟩ = some (.func (.func 50) #[] #[p]) := by simp only [World.cell?, hC2]; rfl
 have hJ2 := Z9 (H.kept _ _ hJ hg)
 have hr2 : r ≠ some w.heap.size := fun e => by have := H.low w hJ _ e; omega
 have HG := Z9 hg
 clear hC hC2 hg hJ gP
 by_cases hk : (k : Int) <= 1000
 ·have hk2 := Z9 (decide_eq_true (show k <= 1000 by omega))
  go_in; go_upto_region 30 with fail; generalize w.alloc (.cells #[.int .i64 24, .int .i64 n, .string ⟨#[]⟩, .slice a k c] 36) = W at *; have hJd := H.kept _ _ hJ2.out (Z4 W)
  go_region_held3 (fun w' => w'.cell? ⟨cb, 1, none⟩ = some (.func (.func 50) #[] #[p]) /\ w'.cell? ⟨w.heap.size, 1, none⟩ = some (.int .i64 n)) (first | exact ⟨g1, e1⟩ | exact ⟨k1, k2⟩)
   ((go_at_call 50; refine (H.call _ n k hJd hok).mono ?_; rintro e w3 ⟨rfl, hJ3, hg3⟩; have k1 := World.grownBy.cell (a := ⟨cb, 1, none⟩) hg3 g1 (fun e => hr e.symm); have k2 := World.grownBy.cell (a := ⟨w.heap.size, 1, none⟩) hg3 e1 (fun e => hr2 e.symm)))
  all_goals
   have hgf := both (both (YA HG.out r) (YA (Z4 W) r)) hg3; go_wp2; go_ret; exact ⟨by rw [hE.out, hk2.out]; rfl, hJ3, hgf⟩
 ·have hk2 := Z9 (YR (show ¬ k <= 1000 by omega))
  go_in; go_upto_region 30 with fail; generalize w.alloc (.cells #[.int .i64 24, .int .i64 n, .string ⟨#[]⟩, .slice a k c] 36) = W at *; go_quiet (fail); go_wp2; go_ret; refine ⟨by rw [hE.out, hk2.out]; rfl, H.kept _ _ hJ2.out ?_, both (YA HG.out r) (YA ?_ r)⟩
  ·exact Yf (UY (Below.refl _ _) _)
  ·exact Yf (UY (Below.refl _ _) _)
theorem vQ (p : Value) (J : World -> Prop) (r : Option Nat) (Ze : Int -> Int -> Bool) (ok : Int -> Int -> Prop) (H : mD 66 p J r Ze ok) (cb : Nat) (caps : Int) (n loc : Int) (s : ByteArray) (a : Option Addr) (k c : Nat) (w : World) (hs : s.size = 0)
 (hC : w.heap[cb]? = some (.cells #[.int .i64 caps, .func (.func 66) #[] #[p]] 145 (0, 0))) (hJ : J w) (hok : ok n k) (hr : r ≠ some cb) :
 Calls Tryz.prog 98 #[.pointer (some ⟨cb, 0, none⟩), .agg #[.int .i64 24, .int .i64 n, .string s, .slice a k c], .int .i64 loc] w (M7 J r (Zy caps Ze loc 24 n s k) w) := by
 have hE : Hid (Zy caps Ze loc 24 n s k = _) := QT (.inr hs)
 obtain rfl := YN hs
 clear hs
 have hg := Z8 w (.cells #[.int .i64 24, .int .i64 n, .string ⟨#[]⟩, .slice a k c] 36)
 have gP := ZV w (.cells #[.int .i64 24, .int .i64 n, .string ⟨#[]⟩, .slice a k c] 36)
 obtain ⟨e0, e1, e2, e3⟩ := ZP gP
 have hC2 := (hg.block _ (Z6 hC) (by nofun)).trans hC
 have g1 : (w.alloc (.cells #[.int .i64 24, .int .i64 n, .string ⟨#[]⟩, .slice a k c] 36)).cell? ⟨cb, 1, none⟩ = some (.func (.func 66) #[] #[p]) := by simp only [World.cell?, hC2]; rfl
 have hJ2 := Z9 (H.kept _ _ hJ hg)
 have hr2 : r ≠ some w.heap.size := fun e => by have := H.low w hJ _ e; omega
 have HG := Z9 hg
 clear hC hC2 hg hJ gP
 by_cases hk : (k : Int) <= 1000
 ·have hk2 := Z9 (decide_eq_true (show k <= 1000 by omega))
  go_in; go_upto_region 30 with fail; generalize w.alloc (.cells #[.int .i64 24, .int .i64 n, .string ⟨#[]⟩, .slice a k c] 36) = W at *; have hJd := H.kept _ _ hJ2.out (Z4 W)
  go_region_held3 (fun w' => w'.cell? ⟨cb, 1, none⟩ = some (.func (.func 66) #[] #[p]) /\ w'.cell? ⟨w.heap.size, 1, none⟩ = some (.int .i64 n)) (first | exact ⟨g1, e1⟩ | exact ⟨k1, k2⟩)
   ((go_at_call 66; refine (H.call _ n k hJd hok).mono ?_; rintro e w3 ⟨rfl, hJ3, hg3⟩; have k1 := World.grownBy.cell (a := ⟨cb, 1, none⟩) hg3 g1 (fun e => hr e.symm); have k2 := World.grownBy.cell (a := ⟨w.heap.size, 1, none⟩) hg3 e1 (fun e => hr2 e.symm)))
  all_goals
   have hgf := both (both (YA HG.out r) (YA (Z4 W) r)) hg3; go_wp2; go_ret; exact ⟨by rw [hE.out, hk2.out]; rfl, hJ3, hgf⟩
 ·have hk2 := Z9 (YR (show ¬ k <= 1000 by omega))
  go_in; go_upto_region 30 with fail; generalize w.alloc (.cells #[.int .i64 24, .int .i64 n, .string ⟨#[]⟩, .slice a k c] 36) = W at *; go_quiet (fail); go_wp2; go_ret; refine ⟨by rw [hE.out, hk2.out]; rfl, H.kept _ _ hJ2.out ?_, both (YA HG.out r) (YA ?_ r)⟩
  ·exact Yf (UY (Below.refl _ _) _)
  ·exact Yf (UY (Below.refl _ _) _)
mutual
def OJ (ok : Int -> Int -> Prop) : Z0 -> Prop
 | .mk op n _ _ l => (op = 24 -> ok n l.length) /\ Ku ok l
def Ku (ok : Int -> Int -> Prop) : List Z0 -> Prop
 | [] => True
 | x :: r => OJ ok x /\ Ku ok r
end
theorem FZ {ok : Int -> Int -> Prop} : ∀ {l : List Z0}, Ku ok l -> ∀ y ∈ l, OJ ok y
 | [], _, _, h => by cases h
 | x :: r, h, y, hy => by
   unfold Ku at h; rcases List.mem_cons.1 hy with rfl | hy
   ·exact h.1
   ·exact FZ h.2 y hy
theorem Dq {ok : Int -> Int -> Prop} {op n : Int} {s : ByteArray} {v : Value} {l : List Z0} (h : OJ ok (.mk op n s v l)) : (op = 24 -> ok n l.length) /\ ∀ y ∈ l, OJ ok y := by
 unfold OJ at h; exact ⟨h.1, FZ h.2⟩
def F24 (F : FuncId) (p : Value) (J : World -> Prop) (r : Option Nat) (Ze : Int -> Int -> Bool) (ok : Int -> Int -> Prop) (cb : Nat) (caps : Int) : Prop :=
 ∀ (n loc : Int) (s : ByteArray) (a : Option Addr) (k c : Nat) (w : World), s.size = 0 -> w.heap[cb]? = some (.cells #[.int .i64 caps, .func (.func F) #[] #[p]] 145 (0, 0)) -> J w -> ok n k -> r ≠ some cb ->
  Calls Tryz.prog 98 #[.pointer (some ⟨cb, 0, none⟩), .agg #[.int .i64 24, .int .i64 n, .string s, .slice a k c], .int .i64 loc] w (M7 J r (Zy caps Ze loc 24 n s k) w)
theorem vP {F : FuncId} {p : Value} {J : World -> Prop} {r : Option Nat} {Ze : Int -> Int -> Bool} {ok : Int -> Int -> Prop} (H : mD F p J r Ze ok) {cb : Nat} {caps : Int} (H24 : F24 F p J r Ze ok cb caps) (op n loc : Int) (s : ByteArray) (a : Option Addr) (k c : Nat) (w : World)
 (hC : w.heap[cb]? = some (.cells #[.int .i64 caps, .func (.func F) #[] #[p]] 145 (0, 0))) (hJ : J w) (hok : op = 24 -> ok n k) (hr : r ≠ some cb) (hl0 : 0 <= loc) (hl1 : loc <= 1000000) (hc0 : 0 <= caps) (hc1 : caps <= 1000) :
 Calls Tryz.prog 98 #[.pointer (some ⟨cb, 0, none⟩), .agg #[.int .i64 op, .int .i64 n, .string s, .slice a k c], .int .i64 loc] w (M7 J r (Zy caps Ze loc op n s k) w) := by
 have conv : ∀ {b : Bool} {e : Ending} {w' : World}, Yn b w e w' -> M7 J r b w e w' := fun h => ⟨h.1, H.kept _ _ hJ (Yf h.2), YA (Yf h.2) r⟩
 by_cases hs : s.size = 0
 ·by_cases h : op = 2 \/ op = 3 \/ op = 6 \/ op = 7 \/ op = 8 \/ op = 9 \/ op = 11 \/ op = 12 \/ op = 13 \/ op = 21 \/ op = 22 \/ op = 23 \/ op = 24 \/ op = 25
  ·rcases h with rfl | rfl | rfl | rfl | rfl | rfl | rfl | rfl | rfl | rfl | rfl | rfl | rfl | rfl
   ·exact (Dx cb caps undef Ze n loc s a k c w hs).mono fun _ _ => conv
   ·exact (LC cb caps undef Ze n loc s a k c w).mono fun _ _ => conv
   ·exact (Du cb caps undef Ze n loc s a k c w hs).mono fun _ _ => conv
   ·exact (Dw cb caps undef Ze n loc s a k c w hs).mono fun _ _ => conv
   ·exact (Dv cb caps undef Ze n loc s a k c w hs).mono fun _ _ => conv
   ·exact (Dt cb caps undef Ze n loc s a k c w hs).mono fun _ _ => conv
   ·exact (F7 cb caps undef Ze n loc s a k c w hs).mono fun _ _ => conv
   ·exact (F5 cb caps undef Ze n loc s a k c w hs).mono fun _ _ => conv
   ·exact (Gb cb caps undef Ze n loc s a k c w hs).mono fun _ _ => conv
   ·exact (Ga cb caps undef Ze n loc s a k c w hs hl0 hl1).mono fun _ _ => conv
   ·exact (F9 cb caps undef Ze n loc s a k c w hs).mono fun _ _ => conv
   ·exact (F8 cb caps _ Ze n loc s a k c w hs hC hc0 hc1).mono fun _ _ => conv
   ·exact H24 n loc s a k c w hs hC hJ (hok rfl) hr
   ·exact (F6 cb caps undef Ze n loc s a k c w hs).mono fun _ _ => conv
  ·exact (F4 cb caps undef Ze n loc s a k c w op hs h).mono fun _ _ => conv
 ·by_cases h3 : op = 3
  ·subst h3; exact (LC cb caps undef Ze n loc s a k c w).mono fun _ _ => conv
  ·exact (Dy cb caps undef Ze n loc s a k c w op h3 hs).mono fun _ _ => conv
def lo (op loc : Int) (i : Nat) : Int := if 0 < i then loc + bump op else loc
theorem vO {op loc : Int} {i : Nat} (h : Uy op i = true) : lo op loc i = loc + 1 := by
 unfold Uy at h
 simp only [Bool.and_eq_true, Bool.or_eq_true, beq_iff_eq, decide_eq_true_eq] at h
 unfold lo bump
 rw [ZY (by omega), ZY (by omega)]
theorem vN {op loc : Int} {i : Nat} (h : Uy op i = false) : lo op loc i = loc := by
 unfold lo
 split
 ·rename_i hi
  unfold Uy at h; rw [decide_eq_true (show (0 : Int) < (i : Int) by omega), Bool.and_true, Bool.or_eq_false_iff] at h; rw [xA (by simpa using h.2) (by simpa using h.1)]; omega
 ·rfl
theorem JU {caps : Int} {Ze : Int -> Int -> Bool} (a b : Int) : ∀ (l : List Z0), (∀ i, i < l.length -> ZI caps Ze (if 0 < i then b else a) (l.getD i default) = true) -> XF caps Ze a b l = true
 | [], _ => by unfold XF; rfl
 | x :: r, h => by
   unfold XF; rw [Bool.and_eq_true]; refine ⟨by simpa using h 0 (by simp), JU b b r fun i hi => ?_⟩; have := h (i + 1) (by simpa using hi); simpa using this
theorem PS {caps : Int} {Ze : Int -> Int -> Bool} (a b : Int) : ∀ (l : List Z0) (i : Nat), i < l.length -> ZI caps Ze (if 0 < i then b else a) (l.getD i default) = false -> XF caps Ze a b l = false
 | [], i, h, _ => by simp at h
 | x :: r, 0, _, h => by unfold XF; rw [Bool.and_eq_false_iff]; exact .inl (by simpa using h)
 | x :: r, i + 1, hi, h => by
   unfold XF; rw [Bool.and_eq_false_iff]; refine .inr (PS b b r i (by simpa using hi) ?_); simpa using h
theorem OI {caps : Int} {Ze : Int -> Int -> Bool} {loc op n : Int} {s : ByteArray} {v : Value} {l : List Z0} (h1 : Zy caps Ze loc op n s l.length = true) (h : ∀ i, i < l.length -> ZI caps Ze (lo op loc i) (l.getD i default) = true) : ZI caps Ze loc (.mk op n s v l) = true := by
 unfold ZI; rw [h1, JU _ _ l h]; rfl
theorem Ms {caps : Int} {Ze : Int -> Int -> Bool} {loc op n : Int} {s : ByteArray} {v : Value} {l : List Z0} (i : Nat) (hi : i < l.length) (h : ZI caps Ze (lo op loc i) (l.getD i default) = false) : ZI caps Ze loc (.mk op n s v l) = false := by
 unfold ZI; rw [PS _ _ l i hi h]; simp
theorem OH {caps : Int} {Ze : Int -> Int -> Bool} {loc op n : Int} {s : ByteArray} {v : Value} {l : List Z0} (h1 : Zy caps Ze loc op n s l.length = false) : ZI caps Ze loc (.mk op n s v l) = false := by
 unfold ZI; rw [h1]; rfl
theorem Xd {l : List Z0} {y : Z0} (h : y ∈ l) : Y5 y <= YI l := by
 induction l with
 | nil => cases h
 | cons x r ih =>
   rw [WK]; rcases List.mem_cons.1 h with rfl | h
   ·omega
   ·have := ih h; omega
theorem vM (B : Nat) {F : FuncId} {p : Value} {J : World -> Prop} {r : Option Nat} {Ze : Int -> Int -> Bool} {ok : Int -> Int -> Prop} (H : mD F p J r Ze ok) {cb : Nat} {caps : Int} (H24 : F24 F p J r Ze ok cb caps) (hr : r ≠ some cb) (aG : ∀ k, r = some k -> B <= k) (hc0 : 0 <= caps) (hc1 : caps <= 1000) (x : Z0) :
 ∀ (loc : Int) (w : World), B <= w.heap.size -> Y0 B w x -> OJ ok x -> w.heap[cb]? = some (.cells #[.int .i64 caps, .func (.func F) #[] #[p]] 145 (0, 0)) -> J w -> 0 <= loc -> loc + Y5 x <= 1000000 ->
 Calls Tryz.prog 78 #[.pointer (some ⟨cb, 0, none⟩), Ws x, .int .i64 loc] w (M7 J r (ZI caps Ze loc x) w) := by
 induction x using Z0.induct with
 | h op n s lv l ih =>
   intro loc w hBw hx hcl hC hJ hl0 hl1; rw [ZE]; have SC := Z9 ih; obtain ⟨hrow, hm, hy⟩ := hx.parts; have HY := Z9 hy; have HR := Z9 hrow; have je := Z9 (Dq hcl); have hm' : l.length <= 9223372036854775807 := by unfold maxLen at hm; omega
   rw [WX] at hl1; obtain ⟨a, c, rfl, hlc, _⟩ := hrow; have hg1 := Z8 w (.cells #[.int .i64 op, .int .i64 n, .string s, .slice a l.length c] 36); have gP := ZV w (.cells #[.int .i64 op, .int .i64 n, .string s, .slice a l.length c] 36); obtain ⟨p0, p1, p2, p3⟩ := ZP gP; have HF := Z9 (vP H H24 op n loc s a l.length c (w.alloc (.cells #[.int .i64 op, .int .i64 n, .string s, .slice a l.length c] 36)) ((hg1.block _ (Z6 hC) (by nofun)).trans hC) (H.kept _ _ hJ hg1) (Dq hcl).1 hr hl0 (by omega) hc0 hc1); have WO := Z9 gP; have HC := Z9 hC; have HG1 := Z9 hg1; have hlow := H.low w hJ; clear ih hx hy gP hC hg1 hcl hm; go_in; go_wp2_with fail; generalize w.alloc (.cells #[.int .i64 op, .int .i64 n, .string s, .slice a l.length c] 36) = W at *; refine HF.out.mono ?_; rintro e w2 ⟨rfl, hJ2, hg2⟩; have HJ2 := Z9 hJ2; have HG2 := Z9 (both (YA HG1.out r) hg2); have gP2 := (hg2.block _ (Z6 WO.out) (fun e => by have := hlow _ e.symm; omega)).trans WO.out; have vL := Z9 gP2; clear p0 p1 p2 p3 hg2 hJ2 HF; obtain ⟨p0, p1, p2, p3⟩ := ZP gP2; obtain ⟨bb, hbb⟩ : ∃ bb, Zy caps Ze loc op n s l.length = bb := ⟨_, rfl⟩; have VU := Z9 hbb; rw [hbb]; clear hbb gP2; cases bb
   ·go_wp2
    go_ret; exact ⟨by rw [OH VU.out]; rfl, HJ2.out, HG2.out⟩
   ·go_wp2_with fail
    clear p0 p1 p2 p3; go_loopw [18] (fun i wr => ∃ k : Nat, k <= l.length /\ i = .int .i64 k /\ Hid (∀ i, i < k -> ZI caps Ze (lo op loc i) (l.getD i default) = true) /\ Hid (J wr) /\ Hid (w.grownBy wr r) /\ Hid (w2.grownBy wr r)) (fun i _ => l.length - (intOf i).toNat)
    case atStart => exact ⟨0, Nat.zero_le _, rfl, fun i hi => by omega, HJ2, HG2, ⟨rfl, rfl, rfl, Nat.le_refl _, fun _ _ _ => rfl⟩⟩
    case round =>
     obtain ⟨k, hk, rfl, HS, HJ, HG, HG3⟩ := hrel; have Qd := (HG3.out.block _ (Z6 vL.out) (fun e => by have := hlow _ e.symm; omega)).trans vL.out; by_cases hkl : k < l.length
     ·have Rx : Below B w wr := ZX HG.out hBw aG
      obtain ⟨b, off, rfl, vK, c0, c1, c2, c3⟩ := XY HR.out Rx k hkl; have hmem := Zr default l k hkl; have hhm := Xd hmem; have hyk := (HY.out _ hmem).under Rx; have hck := je.out.2 _ hmem; have hih := SC.out _ hmem; have HN := Z9 (Ms (caps := caps) (Ze := Ze) (loc := loc) (op := op) (n := n) (s := s) (v := .slice (some ⟨b, off, none⟩) l.length c) k hkl); have HS2 := Z9 (fun (hx : ZI caps Ze (lo op loc k) (l.getD k default) = true) (i : Nat) (hi : i < k + 1) => show ZI caps Ze (lo op loc i) (l.getD i default) = true from by
       by_cases e : i = k
       ·subst e; exact hx
       ·exact HS.out i (by omega))
      clear hmem; generalize l.getD k default = x at *; obtain ⟨xo, xn, xs, xv, xl⟩ := x; obtain ⟨xa, xc, rfl, _⟩ := hyk.parts.1; simp only [Z0.op, Z0.n, Z0.s, Z0.lv] at c0 c1 c2 c3; have hg3 := Z8 wr (.cells #[.int .i64 xo, .int .i64 xn, .string xs, .slice xa xl.length xc] 36); have gX := ZV wr (.cells #[.int .i64 xo, .int .i64 xn, .string xs, .slice xa xl.length xc] 36); have gP3 := (hg3.block _ (Z6 Qd) (by nofun)).trans Qd; obtain ⟨e0, e1, e2, e3⟩ := ZP gX; obtain ⟨p0, p1, p2, p3⟩ := ZP gP3; have hgx := both HG.out (YA hg3 r); have HG4 := Z9 hgx; have HG5 := Z9 (both HG3.out (YA hg3 r)); have HM := Z9 (fun (lc : Int) (h0 : 0 <= lc) (h1 : lc + Y5 (.mk xo xn xs (.slice xa xl.length xc) xl) <= 1000000) => hih lc (wr.alloc (.cells #[.int .i64 xo, .int .i64 xn, .string xs, .slice xa xl.length xc] 36)) (by have := hgx.size; omega) (hyk.grown hg3 (by have := Rx.size; omega) (by nofun)) hck ((hgx.block _ (Z6 HC.out) (fun e => hr e.symm)).trans HC.out) (H.kept _ _ HJ.out hg3) h0 h1); rw [ZE] at HM; have jM : lo op loc k = loc \/ lo op loc k = loc + 1 := by unfold lo bump; split <;> (try split) <;> omega
      clear hih hyk gX hg3 gP3 Qd hgx hck; go_wp2_with fail; refine (LD _ _ _).mono ?_; rintro e w' ⟨rfl, rfl⟩; obtain ⟨bk, hbk⟩ : ∃ bk, Uy op k = bk := ⟨_, rfl⟩; have A8 := Z9 hbk; rw [hbk]; clear hbk; cases bk
      ·have HM2 := Z9 (HM.out loc hl0 (by omega))
       have hlo := vN (loc := loc) A8.out; rw [hlo] at HN HS2; clear hlo HM; go_wp2_with fail; refine HM2.out.mono ?_; rintro e w3 ⟨rfl, hJ3, hg4⟩; have HJ3 := Z9 hJ3; have HG6 := Z9 (both HG4.out hg4); have HG7 := Z9 (both HG5.out hg4); obtain ⟨bx, hbx⟩ : ∃ bx, ZI caps Ze loc (.mk xo xn xs (.slice xa xl.length xc) xl) = bx := ⟨_, rfl⟩; have OG := Z9 hbx; rw [hbx]; clear hbx e0 e1 e2 e3 p0 p1 p2 p3 c0 c1 c2 c3 hJ3 hg4 HM2; cases bx
       ·go_wp2
        go_ret; exact ⟨by rw [HN.out OG.out]; rfl, HJ3.out, HG6.out⟩
       ·have HS3 := Z9 (HS2.out OG.out)
        go_wp2_with fail; go_round
        case rel => exact ⟨k + 1, by omega, by go_num, HS3, HJ3, HG6, HG7⟩
        case measure => simp [intOf]; omega
      ·have HM2 := Z9 (HM.out (loc + 1) (by omega) (by omega))
       have hlo := vO (loc := loc) A8.out; rw [hlo] at HN HS2; clear hlo HM; go_wp2_with fail; refine HM2.out.mono ?_; rintro e w3 ⟨rfl, hJ3, hg4⟩; have HJ3 := Z9 hJ3; have HG6 := Z9 (both HG4.out hg4); have HG7 := Z9 (both HG5.out hg4); obtain ⟨bx, hbx⟩ : ∃ bx, ZI caps Ze (loc + 1) (.mk xo xn xs (.slice xa xl.length xc) xl) = bx := ⟨_, rfl⟩; have OG := Z9 hbx; rw [hbx]; clear hbx e0 e1 e2 e3 p0 p1 p2 p3 c0 c1 c2 c3 hJ3 hg4 HM2; cases bx
       ·go_wp2
        go_ret; exact ⟨by rw [HN.out OG.out]; rfl, HJ3.out, HG6.out⟩
       ·have HS3 := Z9 (HS2.out OG.out)
        go_wp2_with fail; go_round
        case rel => exact ⟨k + 1, by omega, by go_num, HS3, HJ3, HG6, HG7⟩
        case measure => simp [intOf]; omega
     ·have hall : ∀ i, i < l.length -> ZI caps Ze (lo op loc i) (l.getD i default) = true := fun i hi => HS.out i (by omega)
      have HA := Z9 (OI (v := .slice a l.length c) VU.out hall); clear hall; go_wp2; go_ret; exact ⟨by rw [HA.out]; rfl, HJ.out, HG.out⟩
def V6 (Ze : Int -> Int -> Bool) (f : ZJ) : Bool := Y7 f.caps 0 1000 && ZI f.caps Ze 1 f.body
theorem FY (B : Nat) {F : FuncId} {p : Value} {J : World -> Prop} {r : Option Nat} {Ze : Int -> Int -> Bool} {ok : Int -> Int -> Prop} (H : mD F p J r Ze ok) (f : ZJ) (H24 : ∀ cb, F24 F p J r Ze ok cb f.caps) (aG : ∀ k, r = some k -> B <= k) (w : World) (hBw : B <= w.heap.size) (hx : Y0 B w f.body) (hcl : OJ ok f.body) (hJ : J w) (hs : YO f.body <= 600) (hh : Y5 f.body <= 211) :
 Calls Tryz.prog 49 #[TJ f, .func (.func F) #[] #[p]] w (M7 J r (V6 Ze f) w) := by
 obtain ⟨caps, ⟨op, n, s, lv, l⟩⟩ := f
 show Calls Tryz.prog _ #[.agg #[.int .i64 caps, .int .i64 op, .int .i64 n, .string s, lv], _] _ _
 have HX := Z9 hx
 have hlow := H.low w hJ
 have hb : w.grownBy ((w.alloc (.cells #[.int .i64 caps, .int .i64 op, .int .i64 n, .string s, lv] 38)).alloc (.cells #[.int .i64 caps, .func (.func F) #[] #[p]] 145)) none := both (Z8 _ _) (Z8 _ _)
 have gP : ((w.alloc (.cells #[.int .i64 caps, .int .i64 op, .int .i64 n, .string s, lv] 38)).alloc (.cells #[.int .i64 caps, .func (.func F) #[] #[p]] 145)).heap[w.heap.size]? = some (.cells #[.int .i64 caps, .int .i64 op, .int .i64 n, .string s, lv] 38 (0, 0)) := (Below.heap_alloc _ _ _ (by simp)).trans (ZV w _)
 have gC : ((w.alloc (.cells #[.int .i64 caps, .int .i64 op, .int .i64 n, .string s, lv] 38)).alloc (.cells #[.int .i64 caps, .func (.func F) #[] #[p]] 145)).heap[w.heap.size + 1]? = some (.cells #[.int .i64 caps, .func (.func F) #[] #[p]] 145 (0, 0)) := (congrArg _ (by simp)).trans (ZV (w.alloc _) _)
 have hJ1 := H.kept _ _ hJ hb
 obtain ⟨q0, q1, q2, q3, q4⟩ := XR (ZV w (.cells #[.int .i64 caps, .int .i64 op, .int .i64 n, .string s, lv] 38))
 clear hx
 go_in
 go_upto_region 2 with fail
 clear q0 q1 q2 q3 q4
 generalize ((w.alloc (.cells #[.int .i64 caps, .int .i64 op, .int .i64 n, .string s, lv] 38)).alloc (.cells #[.int .i64 caps, .func (.func F) #[] #[p]] 145)) = W at *
 have WO := Z9 gP
 have HGC := Z9 gC
 have HJ1 := Z9 hJ1
 obtain ⟨p0, p1, p2, p3, p4⟩ := XR gP
 have jL := HX.out.grown hb hBw (by nofun)
 have HL := Z9 (zP B (.mk op n s lv l) W (by have := hb.size; omega) jL hs hh)
 rw [ZE] at HL
 have HB := Z9 hb
 clear gP gC hJ1 hJ
 obtain ⟨bb, hbb⟩ : ∃ bb, Y7 caps 0 1000 = bb := ⟨_, rfl⟩
 have VU := Z9 hbb
 go_wp2_with fail
 refine (YU _ _ _ _).mono ?_
 rintro e w' ⟨rfl, rfl⟩
 rw [hbb]
 clear hbb
 cases bb
 ·go_wp2
  go_ret; exact ⟨by unfold V6; rw [VU.out]; rfl, HJ1.out, YA HB.out r⟩
 ·go_wp2_with fail
  refine HL.out.mono ?_; rintro e w2 ⟨rfl, hb2⟩; have hg2 := Yf hb2; have hgg := both HB.out hg2; have gP2 := (hb2.block _ (Z6 WO.out)).trans WO.out; have gC2 := (hb2.block _ (Z6 HGC.out)).trans HGC.out; clear p0 p1 p2 p3 p4; obtain ⟨p0, p1, p2, p3, p4⟩ := XR gP2; have hin := VU.out; have SQ : 0 <= caps /\ caps <= 1000 := by unfold Y7 at hin; simpa using hin
  have HM := Z9 (vM B H (H24 (w.heap.size + 1)) (fun e => by have := hlow _ e; omega) aG SQ.1 SQ.2 (.mk op n s lv l) 1 w2 (by have := hgg.size; omega) (jL.grown hg2 (by have := HB.out.size; omega) (by nofun)) hcl gC2 (H.kept _ _ HJ1.out hg2) (by omega) (by omega)); rw [ZE] at HM; have HG2 := Z9 hgg; clear hin SQ gP2 gC2 hg2 hgg hb2 jL HL; go_wp2_with fail; refine HM.out.mono ?_; rintro e w3 ⟨rfl, hJ3, hg3⟩; have HR := Z9 (both (YA HG2.out r) hg3); have HJ3 := Z9 hJ3; clear hg3 hJ3 HM; go_wp2; go_ret; exact ⟨by unfold V6; rw [VU.out]; rfl, HJ3.out, HR.out⟩
def YM (fl : List ZJ) (n parts : Int) : Bool := Y7 n 0 ((fl.length : Int) - 1) && decide ((fl.getD n.toNat default).caps = parts)
def JV (B vb : Nat) (fv : Value) (fl : List ZJ) (w : World) : Prop := w.heap[vb]? = some (.cells #[fv] 22 (0, 0)) /\ Xh B w fv fl /\ B <= vb
theorem FX (B vb : Nat) (fv : Value) (fl : List ZJ) (n parts : Int) (w : World) (h : JV B vb fv fl w) : Calls Tryz.prog 50 #[.int .i64 n, .int .i64 parts, .pointer (some ⟨vb, 0, none⟩)] w fun e w' => e = .returned (.bool (YM fl n parts)) /\ w = w' := by
 obtain ⟨hv, hF, hB⟩ := h
 have HF := Z9 hF
 have hm' : fl.length <= 9223372036854775807 := by have := hF.2.1; unfold maxLen at this; omega
 obtain ⟨⟨a, c, rfl, hlc, _⟩, _⟩ := hF
 have q0 := (one_cell hv).1
 clear hv
 have hw1 : IntKind.i64.wrap ((fl.length : Int) - 1) = (fl.length : Int) - 1 := YJ _ (by omega) (by omega)
 obtain ⟨bb, hbb⟩ : ∃ bb, Y7 n 0 ((fl.length : Int) - 1) = bb := ⟨_, rfl⟩
 have VU := Z9 hbb
 cases bb
 ·go_in
  go_wp2_with fail; refine (YU _ _ _ _).mono ?_; rintro e w' ⟨rfl, rfl⟩; rw [hbb]; clear hbb; go_wp2; go_ret; exact ⟨by unfold YM; rw [VU.out]; rfl, rfl⟩
 ·obtain ⟨m, rfl⟩ : ∃ m : Nat, n = m := ⟨n.toNat, by unfold Y7 at hbb; simp at hbb; omega⟩
  have hml : m < fl.length := by unfold Y7 at hbb; simp at hbb; omega
  obtain ⟨b, off, c', ha, _, _, c0, _⟩ := VT HF.out.1 m hml; obtain rfl := (Value.slice.inj ha).1; have Hm : Hid ((fl.getD (m : Int).toNat default).caps = (fl.getD m default).caps) := rfl; clear ha; generalize (fl.getD m default).caps = x at *; go_in; go_wp2_with fail; refine (YU _ _ _ _).mono ?_; rintro e w' ⟨rfl, rfl⟩; rw [hbb]; clear hbb; go_wp2; go_ret; exact ⟨XT (by unfold YM; rw [VU.out, Hm.out, Bool.true_and]; by_cases h : x = parts <;> simp [h]), rfl⟩
theorem Mr (B vb : Nat) (fv : Value) (fl : List ZJ) : mD 50 (.pointer (some ⟨vb, 0, none⟩)) (JV B vb fv fl) none (YM fl) (fun _ _ => True) where
 call w n parts h _ := (FX B vb fv fl n parts w h).mono fun e w' hh => ⟨hh.1, hh.2 ▸ h, hh.2 ▸ ⟨rfl, rfl, rfl, Nat.le_refl _, fun _ _ _ => rfl⟩⟩
 kept w w' h hg := by
  obtain ⟨hv, hF, hB⟩ := h; exact ⟨(hg.block _ (Z6 hv) (by nofun)).trans hv, hF.under (ZX hg (by have := Z6 hv; omega) (by nofun)), hB⟩
 low w h k hk := by cases hk
theorem vJ : ∀ x : Z0, OJ (fun _ _ => True) x := by
 intro x
 induction x using Z0.induct with
 | h op n s lv l ih =>
   unfold OJ; refine ⟨fun _ => trivial, ?_⟩; have : ∀ l : List Z0, (∀ y ∈ l, OJ (fun _ _ => True) y) -> Ku (fun _ _ => True) l := fun l => by
    induction l with
    | nil => intro _; unfold Ku; trivial
    | cons x r ih2 => intro h; unfold Ku; exact ⟨h x (List.mem_cons_self ..), ih2 fun y hy => h y (List.mem_cons_of_mem _ hy)⟩
   exact this l ih
theorem aF (B vb : Nat) (fv : Value) (fl : List ZJ) (cb : Nat) (caps : Int) : F24 50 (.pointer (some ⟨vb, 0, none⟩)) (JV B vb fv fl) none (YM fl) (fun _ _ => True) cb caps :=
 fun n loc s a k c w hs hC hJ hok hr => vR _ _ none (YM fl) _ (Mr B vb fv fl) cb caps n loc s a k c w hs hC hJ hok hr
theorem Dp (B vb : Nat) (fv : Value) (fl : List ZJ) (f : ZJ) (w : World) (h : JV B vb fv fl w) (hBw : B <= w.heap.size) (hx : Y0 B w f.body) (hs : YO f.body <= 600) (hh : Y5 f.body <= 211) :
 Calls Tryz.prog 48 #[TJ f, .pointer (some ⟨vb, 0, none⟩)] w (M7 (JV B vb fv fl) none (!V6 (YM fl) f) w) := by
 obtain ⟨caps, ⟨op, n, s, lv, l⟩⟩ := f
 show Calls Tryz.prog _ #[.agg #[.int .i64 caps, .int .i64 op, .int .i64 n, .string s, lv], _] _ _
 have hg := Z8 w (.cells #[.int .i64 caps, .int .i64 op, .int .i64 n, .string s, lv] 38)
 obtain ⟨q0, q1, q2, q3, q4⟩ := XR (ZV w (.cells #[.int .i64 caps, .int .i64 op, .int .i64 n, .string s, lv] 38))
 have HM := Z9 (FY B (Mr B vb fv fl) ⟨caps, .mk op n s lv l⟩ (fun cb => aF B vb fv fl cb caps) (by nofun) _ (by have := hg.size; omega) (hx.grown hg hBw (by nofun)) (vJ _) ((Mr B vb fv fl).kept _ _ h hg) hs hh)
 have HG := Z9 hg
 rw [show TJ ⟨caps, .mk op n s lv l⟩ = .agg #[.int .i64 caps, .int .i64 op, .int .i64 n, .string s, lv] from rfl] at HM
 clear h hx hg
 go_in
 go_wp2_with fail
 refine HM.out.mono ?_
 rintro e w2 ⟨rfl, hJ2, hg2⟩
 have HR := Z9 (both HG.out hg2)
 have HJ := Z9 hJ2
 clear hg2 hJ2
 go_wp2
 go_ret
 exact ⟨rfl, HJ.out, HR.out⟩
def aD (b : Bool) (w : World) (e : Ending) (w' : World) : Prop := ∃ r : Int, e = .returned (.int .i64 r) /\ decide (0 <= r) = b /\ w.grownBy w' none
theorem Dn (B vb : Nat) (fv : Value) (fl : List ZJ) (w : World) (h : JV B vb fv fl w) (hBw : B <= w.heap.size) (hs : ∀ f ∈ fl, YO f.body <= 600 /\ Y5 f.body <= 211) :
 Calls Tryz.prog 24 #[fv, .func (.func 48) #[] #[.pointer (some ⟨vb, 0, none⟩)]] w (aD (fl.any fun f => !V6 (YM fl) f) w) := by
 have HJ0 := Z9 h
 have HS := Z9 hs
 have hm' : fl.length <= 9223372036854775807 := by have := h.2.1.2.1; unfold maxLen at this; omega
 obtain ⟨_, ⟨⟨a, c, rfl, hlc, _⟩, _⟩, _⟩ := h
 clear hs
 go_in
 go_wp2_with fail
 go_loopw [8] (fun i wr => ∃ (k : Nat), k <= fl.length /\ i = .int .i64 k /\ Hid ((fl.take k).any (fun f => !V6 (YM fl) f) = false) /\ Hid (w.grownBy wr none)) (fun i _ => fl.length - (intOf i).toNat)
 case atStart => exact ⟨0, Nat.zero_le _, rfl, rfl, ⟨rfl, rfl, rfl, Nat.le_refl _, fun _ _ _ => rfl⟩⟩
 case round =>
  obtain ⟨k, hk, rfl, hno, HG⟩ := hrel; by_cases hkl : k < fl.length
  ·have jd := (Mr B vb (.slice a fl.length c) fl).kept _ _ HJ0.out HG.out
   obtain ⟨b, off, c', ha, _, Rx, c0, c1, c2, c3, c4⟩ := VT jd.2.1.1 k hkl; obtain rfl := (Value.slice.inj ha).1; have hmem := Zr default fl k hkl; have HF := Z9 (Dp B vb _ fl (fl.getD k default) wr jd (by have := HG.out.size; omega) (jd.2.1.2.2 _ hmem) (HS.out _ hmem).1 (HS.out _ hmem).2); have Hn := Z9 (TY default fl (fun f => !V6 (YM fl) f) k hkl hno.out); have Hy := Z9 (Sw default fl (fun f => !V6 (YM fl) f) k hkl); have HJr := Z9 jd; clear ha hmem jd; generalize fl.getD k default = x at *; obtain ⟨caps, ⟨op, m, s, xv, xl⟩⟩ := x; simp only [Z0.op, Z0.n, Z0.s, Z0.lv] at c0 c1 c2 c3 c4; rw [show TJ ⟨caps, .mk op m s xv xl⟩ = .agg #[.int .i64 caps, .int .i64 op, .int .i64 m, .string s, xv] from rfl] at HF; go_wp2_with fail; refine HF.out.mono ?_; rintro e w2 ⟨rfl, hJ2, hg2⟩; have HG2 := Z9 (both HG.out hg2); obtain ⟨bb, hbb⟩ : ∃ bb, (!V6 (YM fl) ⟨caps, .mk op m s xv xl⟩) = bb := ⟨_, rfl⟩; have VU := Z9 hbb; rw [hbb]; clear hbb hJ2 hg2 c0 c1 c2 c3 c4; cases bb
   ·have hN := Z9 (Hn.out VU.out)
    go_wp2_with fail; go_round
    case rel => exact ⟨k + 1, by omega, by go_num, hN, HG2⟩
    case measure => simp [intOf]; omega
   ·go_wp2
    go_ret; exact ⟨k, rfl, by rw [Hy.out VU.out]; simp, HG2.out⟩
  ·go_wp2
   go_ret; refine ⟨-1, rfl, ?_, HG.out⟩; have := hno.out; rw [List.take_of_length_le (by omega)] at this; rw [this]; rfl
theorem Kt (B vb : Nat) (fv : Value) (fl : List ZJ) (w : World) (h : JV B vb fv fl w) (hBw : B <= w.heap.size) (hs : ∀ f ∈ fl, YO f.body <= 600 /\ Y5 f.body <= 211) :
 Calls Tryz.prog 8 #[fv, .func (.func 48) #[] #[.pointer (some ⟨vb, 0, none⟩)]] w fun e w' => e = .returned (.bool (fl.any fun f => !V6 (YM fl) f)) /\ w.grownBy w' none := by
 have H := Z9 (Dn B vb fv fl w h hBw hs)
 obtain ⟨_, ⟨⟨a, c, rfl, hlc, _⟩, _⟩, _⟩ := h
 clear hs
 go_in
 go_wp2_with fail
 refine H.out.mono ?_
 rintro e w' ⟨r, rfl, hr, hb⟩
 have Hr := Z9 hr
 clear hr
 go_wp2
 go_ret
 exact ⟨XT Hr.out, hb⟩
def XI (fl : List ZJ) (main : Int) : Bool := Y7 (fl.length : Int) 1 4096 && (Y7 main 0 ((fl.length : Int) - 1) && (decide ((fl.getD main.toNat default).caps = 0) && fl.all fun f => V6 (YM fl) f))
theorem jc {fl : List ZJ} {main : Int} (h : Y7 (fl.length : Int) 1 4096 = false) : XI fl main = false := by unfold XI; rw [h]; rfl
theorem iZ {fl : List ZJ} {main : Int} (h : Y7 main 0 ((fl.length : Int) - 1) = false) : XI fl main = false := by unfold XI; rw [h]; simp
theorem iY {fl : List ZJ} {main : Int} (h : ¬ (fl.getD main.toNat default).caps = 0) : XI fl main = false := by unfold XI; rw [YR h]; simp
theorem iX {fl : List ZJ} {main : Int} (h0 : Y7 (fl.length : Int) 1 4096 = true) (h1 : Y7 main 0 ((fl.length : Int) - 1) = true) (h2 : (fl.getD main.toNat default).caps = 0) : XI fl main = !(fl.any fun f => !V6 (YM fl) f) := by
 unfold XI; rw [h0, h1, decide_eq_true h2, LZ]; rfl
def FW (b : Bool) (w : World) (e : Ending) (w' : World) : Prop := e = .returned (.bool b) /\ Below w.heap.size w w'
theorem LB (B : Nat) (fv : Value) (fl : List ZJ) (main : Int) (w : World) (hF : Xh B w fv fl) (hBw : B <= w.heap.size) (hs : ∀ f ∈ fl, YO f.body <= 600 /\ Y5 f.body <= 211) :
 Calls Tryz.prog 21 #[fv, .int .i64 main] w (FW (XI fl main) w) := by
 have hm' : fl.length <= 9223372036854775807 := by have := hF.2.1; unfold maxLen at this; omega
 have hw1 : IntKind.i64.wrap ((fl.length : Int) - 1) = (fl.length : Int) - 1 := YJ _ (by omega) (by omega)
 have hg := Z8 w (.cells #[fv] 22)
 have gV := ZV w (.cells #[fv] 22)
 have hJ : JV B w.heap.size fv fl (w.alloc (.cells #[fv] 22)) := ⟨gV, hF.under (ZX hg hBw (by nofun)), hBw⟩
 have HC := Z9 (Kt B w.heap.size fv fl _ hJ (by have := hg.size; omega) hs)
 have HG := Z9 hg
 have HF := Z9 hJ.2.1
 obtain ⟨⟨a, c, rfl, hlc, _⟩, _⟩ := hF
 have q0 := (one_cell gV).1
 clear hJ hg gV hs
 obtain ⟨b0, hb0⟩ : ∃ bb, Y7 (fl.length : Int) 1 4096 = bb := ⟨_, rfl⟩
 have Hb0 := Z9 hb0
 obtain ⟨b1, hb1⟩ : ∃ bb, Y7 main 0 ((fl.length : Int) - 1) = bb := ⟨_, rfl⟩
 have Hb1 := Z9 hb1
 clear hb0 hb1
 cases b0
 ·go_in
  go_wp2_with fail; refine (YU _ _ _ _).mono ?_; rintro e w' ⟨rfl, rfl⟩; rw [Hb0.out]; go_wp2; go_ret; exact ⟨by rw [jc Hb0.out]; rfl, ZX HG.out (Nat.le_refl _) (by nofun)⟩
 ·cases b1
  ·go_in
   go_wp2_with fail; refine (YU _ _ _ _).mono ?_; rintro e w' ⟨rfl, rfl⟩; rw [Hb0.out]; go_wp2_with fail; refine (YU _ _ _ _).mono ?_; rintro e w' ⟨rfl, rfl⟩; rw [Hb1.out]; go_wp2; go_ret; exact ⟨by rw [iZ Hb1.out]; rfl, ZX HG.out (Nat.le_refl _) (by nofun)⟩
  ·obtain ⟨m, rfl⟩ : ∃ m : Nat, main = m := ⟨main.toNat, by have := Hb1.out; unfold Y7 at this; simp at this; omega⟩
   have hml : m < fl.length := by have := Hb1.out; unfold Y7 at this; simp at this; omega
   obtain ⟨b, off, c', ha, _, _, c0, _⟩ := VT HF.out.1 m hml; obtain rfl := (Value.slice.inj ha).1; have H2 := Z9 (iY (fl := fl) (main := (m : Int))); have H3 := Z9 (iX (fl := fl) (main := (m : Int)) Hb0.out Hb1.out); rw [Int.toNat_natCast] at H2 H3; clear ha; generalize (fl.getD m default).caps = x at *; by_cases hx : x = 0
   ·subst hx
    have H3' := Z9 (H3.out rfl); go_in; go_wp2_with fail; refine (YU _ _ _ _).mono ?_; rintro e w' ⟨rfl, rfl⟩; rw [Hb0.out]; go_wp2_with fail; refine (YU _ _ _ _).mono ?_; rintro e w' ⟨rfl, rfl⟩; rw [Hb1.out]; go_wp2_with fail; refine HC.out.mono ?_; rintro e w2 ⟨rfl, hg2⟩; have HR := Z9 (both HG.out hg2); clear hg2; go_wp2; go_ret; exact ⟨by rw [H3'.out]; rfl, ZX HR.out (Nat.le_refl _) (by nofun)⟩
   ·have hx2 : (x == 0) = false := Zt hx
    have H2' := Z9 (H2.out hx); go_in; go_wp2_with fail; refine (YU _ _ _ _).mono ?_; rintro e w' ⟨rfl, rfl⟩; rw [Hb0.out]; go_wp2_with fail; refine (YU _ _ _ _).mono ?_; rintro e w' ⟨rfl, rfl⟩; rw [Hb1.out]; go_wp2; go_ret; exact ⟨by rw [H2'.out]; rfl, ZX HG.out (Nat.le_refl _) (by nofun)⟩
theorem Mq (loc op n : Int) (s : ByteArray) (v : Value) (l : List Z0) : Xm loc (.mk op n s v l) = SB loc loc (loc + bump op) l := by rw [Xm]
theorem Ut (m a b : Int) (x : Z0) (r : List Z0) : SB m a b (x :: r) = SB (max m (Xm a x)) b b r := by rw [SB]
theorem QS (m a b : Int) : SB m a b [] = m := by rw [SB]
theorem JR (x : Z0) : ∀ (l : List Z0) (m a b : Int), SB m a b (l ++ [x]) = max (SB m a b l) (Xm (if l.length = 0 then a else b) x)
 | [], m, a, b => by rw [List.nil_append, Ut, QS, QS]; rfl
 | y :: r, m, a, b => by
   rw [List.cons_append, Ut, Ut, JR x r]; congr 2; rw [Z7 (show ¬ (y :: r).length = 0 by simp)]; split <;> rfl
theorem vI (op loc : Int) (l : List Z0) (k : Nat) (hk : k < l.length) : SB loc loc (loc + bump op) (l.take (k + 1)) = max (SB loc loc (loc + bump op) (l.take k)) (Xm (lo op loc k) (l.getD k default)) := by
 rw [take_one default l k hk, JR]
 congr 2
 unfold lo
 rw [List.length_take]
 by_cases h : 0 < k
 ·rw [Z7 (by omega), ZY h]
 ·rw [ZY (by omega), Z7 h]
theorem I7 {M : Int} : ∀ (l : List Z0) (m a b : Int), m <= M -> (∀ y ∈ l, Xm a y <= M /\ Xm b y <= M) -> SB m a b l <= M
 | [], m, a, b, h, _ => by rw [QS]; exact h
 | x :: r, m, a, b, h, hy => by
   rw [Ut]; refine I7 r _ _ _ (by have := (hy x (List.mem_cons_self ..)).1; omega) fun y h2 => ?_
   have := (hy y (List.mem_cons_of_mem _ h2)).2; exact ⟨this, this⟩
theorem Ml : ∀ (l : List Z0) (m a b : Int), m <= SB m a b l
 | [], m, a, b => by rw [QS]; omega
 | x :: r, m, a, b => by rw [Ut]; have := Ml r (max m (Xm a x)) b b; omega
theorem AZ (op : Int) : 0 <= bump op /\ bump op <= 1 := by unfold bump; split <;> omega
theorem LA (x : Z0) : ∀ loc, Xm loc x <= loc + Y5 x := by
 induction x using Z0.induct with
 | h op n s lv l ih =>
   intro loc; rw [Mq, WX]; have hb := AZ op; refine I7 l _ _ _ (by omega) fun y hy => ?_
   have h1 := ih y hy loc; have h2 := ih y hy (loc + bump op); have h3 := Xd hy; omega
theorem Rn (x : Z0) (loc : Int) : loc <= Xm loc x := by
 obtain ⟨op, n, s, lv, l⟩ := x
 rw [Mq]; exact Ml _ _ _ _
def iW (loc : Int) (x : Z0) (w : World) (e : Ending) (w' : World) : Prop := e = .returned (.int .i64 (Xm loc x)) /\ Below w.heap.size w w'
theorem FV (B : Nat) (x : Z0) : ∀ (loc : Int) (w : World), B <= w.heap.size -> Y0 B w x -> 0 <= loc -> loc + Y5 x <= 1000000 ->
 Calls Tryz.prog 67 #[Ws x, .int .i64 loc] w (iW loc x w) := by
 induction x using Z0.induct with
 | h op n s lv l ih =>
   intro loc w hBw hx hl0 hl1; rw [ZE]; have SC := Z9 ih; obtain ⟨hr, hm, hy⟩ := hx.parts; have HY := Z9 hy; have HR := Z9 hr; have hm' : l.length <= 9223372036854775807 := by unfold maxLen at hm; omega
   have HLE := Z9 (fun (k : Nat) => show loc <= SB loc loc (loc + bump op) (l.take k) /\ SB loc loc (loc + bump op) (l.take k) <= 1000000 from ⟨Ml _ _ _ _, I7 _ _ _ _ (by omega) fun y hy => by
    have hy2 := List.mem_of_mem_take hy; have h1 := LA y loc; have h2 := LA y (loc + bump op); have h3 := Xd hy2; have hb := AZ op; rw [WX] at hl1; omega⟩)
   rw [WX] at hl1; obtain ⟨a, c, rfl, hlc, _⟩ := hr; have hb1 := YP op n s (.slice a l.length c) w; have gP := ZV w (.cells #[.int .i64 op, .int .i64 n, .string s, .slice a l.length c] 36); obtain ⟨p0, p1, p2, p3⟩ := ZP gP; have WO := Z9 gP; clear ih hx hy gP hm; go_in; go_wp2_with fail; generalize w.alloc (.cells #[.int .i64 op, .int .i64 n, .string s, .slice a l.length c] 36) = W at *; go_loopw [5, 12] (fun m i wr => ∃ (k : Nat) (ms : Int), k <= l.length /\ i = .int .i64 k /\ m = .int .i64 ms /\ Hid (ms = SB loc loc (loc + bump op) (l.take k)) /\ Below w.heap.size w wr /\ Below W.heap.size W wr) (fun _ i _ => l.length - (intOf i).toNat)
   case atStart => exact ⟨0, loc, Nat.zero_le _, rfl, rfl, show loc = SB loc loc (loc + bump op) (l.take 0) from by rw [List.take_zero, QS], hb1, Below.refl _ _⟩
   case round =>
    obtain ⟨k, ms, hk, rfl, rfl, HS, hbr, hbW⟩ := hrel; have hms : loc <= ms /\ ms <= 1000000 := by have := HLE.out k; have := HS.out; omega
    have Qd := (hbW.block _ (Z6 WO.out)).trans WO.out; obtain ⟨p0, p1, p2, p3⟩ := ZP Qd; by_cases hkl : k < l.length
    ·obtain ⟨b, off, rfl, Rx, c0, c1, c2, c3⟩ := XY HR.out (hbr.mono hBw) k hkl
     have hmem := Zr default l k hkl; have hhm := Xd hmem; have HT := Z9 (vI op loc l k hkl); have hyk := HY.out _ hmem; have hih := SC.out _ hmem; clear hmem p0 p1 p2 p3; generalize l.getD k default = x at *; obtain ⟨xo, xn, xs, xv, xl⟩ := x; obtain ⟨xa, xc, rfl, _⟩ := hyk.parts.1; simp only [Z0.op, Z0.n, Z0.s, Z0.lv] at c0 c1 c2 c3; have hb3 := YP xo xn xs (.slice xa xl.length xc) wr; have gX := ZV wr (.cells #[.int .i64 xo, .int .i64 xn, .string xs, .slice xa xl.length xc] 36); have gP3 := (hb3.block _ (Z6 Qd)).trans Qd; obtain ⟨e0, e1, e2, e3⟩ := ZP gX; obtain ⟨p0, p1, p2, p3⟩ := ZP gP3; have hbx := hbr.trans (hb3.mono hbr.size); have zO := hbW.trans (hb3.mono hbW.size); have HM := Z9 (fun (lc : Int) (h0 : 0 <= lc) (h1 : lc + Y5 (.mk xo xn xs (.slice xa xl.length xc) xl) <= 1000000) => hih lc _ (by have := hbx.size; omega) (hyk.under (hbx.mono hBw)) h0 h1); rw [ZE] at HM; have jM : lo op loc k = loc \/ lo op loc k = loc + 1 := by unfold lo bump; split <;> (try split) <;> omega
     have iU := Rn (.mk xo xn xs (.slice xa xl.length xc) xl) (lo op loc k); have iT := LA (.mk xo xn xs (.slice xa xl.length xc) xl) (lo op loc k); clear hih hyk gX hb3 Qd gP3; go_wp2_with fail; refine (LD _ _ _).mono ?_; rintro e w' ⟨rfl, rfl⟩; obtain ⟨bk, hbk⟩ : ∃ bk, Uy op k = bk := ⟨_, rfl⟩; have A8 := Z9 hbk; rw [hbk]; clear hbk; cases bk
     ·have HM2 := Z9 (HM.out loc hl0 (by omega))
      have hlo := vN (loc := loc) A8.out; rw [hlo] at HT iU iT; clear hlo HM; go_wp2_with fail; refine HM2.out.mono ?_; rintro e w3 ⟨rfl, hb4⟩; have hbe := hbx.trans (hb4.mono hbx.size); have Dm := zO.trans (hb4.mono zO.size); generalize Xm loc (.mk xo xn xs (.slice xa xl.length xc) xl) = lx at *; have HS2 : Hid (max ms lx = SB loc loc (loc + bump op) (l.take (k + 1))) := by rw [HT.out, HS.out]; rfl
      clear hb4 e0 e1 e2 e3 c0 c1 c2 c3 p0 p1 p2 p3 HM2 hbx zO; by_cases hmx : ms < lx
      ·have hmm : max ms lx = lx := by omega
       go_wp2_with fail; go_round
       case rel => exact ⟨k + 1, lx, by omega, by go_num, rfl, by rw [<- hmm]; exact HS2.out, hbe, Dm⟩
       case measure => simp [intOf]; omega
      ·have hmm : max ms lx = ms := by omega
       go_wp2_with fail; go_round
       case rel => exact ⟨k + 1, ms, by omega, by go_num, rfl, by rw [<- hmm]; exact HS2.out, hbe, Dm⟩
       case measure => simp [intOf]; omega
     ·have HM2 := Z9 (HM.out (loc + 1) (by omega) (by omega))
      have hlo := vO (loc := loc) A8.out; rw [hlo] at HT iU iT; clear hlo HM; go_wp2_with fail; refine HM2.out.mono ?_; rintro e w3 ⟨rfl, hb4⟩; have hbe := hbx.trans (hb4.mono hbx.size); have Dm := zO.trans (hb4.mono zO.size); generalize Xm (loc + 1) (.mk xo xn xs (.slice xa xl.length xc) xl) = lx at *; have HS2 : Hid (max ms lx = SB loc loc (loc + bump op) (l.take (k + 1))) := by rw [HT.out, HS.out]; rfl
      clear hb4 e0 e1 e2 e3 c0 c1 c2 c3 p0 p1 p2 p3 HM2 hbx zO; by_cases hmx : ms < lx
      ·have hmm : max ms lx = lx := by omega
       go_wp2_with fail; go_round
       case rel => exact ⟨k + 1, lx, by omega, by go_num, rfl, by rw [<- hmm]; exact HS2.out, hbe, Dm⟩
       case measure => simp [intOf]; omega
      ·have hmm : max ms lx = ms := by omega
       go_wp2_with fail; go_round
       case rel => exact ⟨k + 1, ms, by omega, by go_num, rfl, by rw [<- hmm]; exact HS2.out, hbe, Dm⟩
       case measure => simp [intOf]; omega
    ·have HE : Hid (ms = SB loc loc (loc + bump op) l) := by have := HS.out; rw [List.take_of_length_le (by omega)] at this; exact this
     go_wp2; go_ret; exact ⟨by rw [Mq, <- HE.out]; rfl, hbr⟩
end Go.Proofs.YtbcfdebdikgijaaGreatDoor
namespace Go.Proofs.YtbcfdebdikgijaaGreatDoor
open Go Go.RowKit
open Go.Maps
theorem VO : Keyed Tryz.prog 3 := int_keyed Tryz.underlying3
theorem OE (w : World) : (zeroValue 3).run Tryz.prog w = .ok (.int .i64 0) w := by kernel_rfl
def PO (fl : List ZJ) (kb mb : Nat) (w : World) : Prop :=
 w.heap[kb]? = some (.cells #[.map (some mb)] 131 (0, 0)) /\ kb ≠ mb /\ ∃ D : DataW Unit, w.ownsMap Tryz.prog 3 (plainElem Tryz.prog 3) mb (Maps.size D) D /\ Maps.size D <= (List.range 4096).countP (fun i : Nat => Maps.has D (.int .i64 (i : Int))) /\
  ∀ n : Nat, Maps.has D (.int .i64 (n : Int)) = true -> D.atKey (.int .i64 (n : Int)) (.lit (.int .i64 0)) = .lit (.int .i64 (fl.getD n default).caps)
theorem FU {p q : Nat -> Bool} (k : Nat) (hpk : p k = false) (hqk : q k = true) (h : ∀ i, p i = true -> q i = true) : ∀ l : List Nat, k ∈ l -> l.countP p + 1 <= l.countP q
 | [], hm => by cases hm
 | x :: r, hm => by
   have mono : ∀ r : List Nat, r.countP p <= r.countP q := fun r => List.countP_mono_left fun i _ hi => h i hi
   by_cases e : x = k
   ·subst e
    rw [List.countP_cons_of_neg (by simp [hpk]), List.countP_cons_of_pos hqk]; have := mono r; omega
   ·have hm2 : k ∈ r := by
     rcases List.mem_cons.1 hm with e2 | e2
     ·exact absurd e2.symm e
     ·exact e2
    have ih := FU k hpk hqk h r hm2; rw [List.countP_cons, List.countP_cons]; by_cases hx : p x = true
    ·rw [ZY hx, ZY (h x hx)]; omega
    ·rw [Z7 hx]; split <;> omega
theorem I6 (n : Nat) (h : n <= 4096) : (Lit.int .i64 (n : Int)).wf = true := WalkArith.wf_i64 (by omega)
theorem vH {w : World} {b n : Nat} {D : DataW Unit} {k : TypeId} {R : Value -> Option (DataW Unit × List MemPlace)} (h : w.ownsMap Tryz.prog k R b n D) : w.ownsMap Tryz.prog k R b (Maps.size D) D := by
 obtain ⟨es, clock, hb, F, hs, hD⟩ := h
 refine ⟨es, clock, hb, F, ?_, hD⟩
 subst hD
 rw [show Maps.size (DataW.map ((es.toList.map (WideElems.rg Tryz.prog k R)).foldr DataW.insert [])) = ((es.toList.map (WideElems.rg Tryz.prog k R)).foldr DataW.insert []).length from rfl, length_read]
 exact Nat.le_refl _
theorem Mk (n : Nat) : WideAt.IsKeyLit (.int .i64 (n : Int)) := trivial
theorem zN {fl : List ZJ} {D : DataW Unit} (hT : Tidy D) (m : Nat) (hm : m < 4096) (hs : Maps.size D <= (List.range 4096).countP (fun i : Nat => Maps.has D (.int .i64 (i : Int)))) (ha : ∀ n : Nat, Maps.has D (.int .i64 (n : Int)) = true -> D.atKey (.int .i64 (n : Int)) (.lit (.int .i64 0)) = .lit (.int .i64 (fl.getD n default).caps)) :
 Maps.size (D.put (.int .i64 (m : Int)) (.lit (.int .i64 (fl.getD m default).caps))) <= (List.range 4096).countP (fun i : Nat => Maps.has (D.put (.int .i64 (m : Int)) (.lit (.int .i64 (fl.getD m default).caps))) (.int .i64 (i : Int))) /\
 ∀ n : Nat, Maps.has (D.put (.int .i64 (m : Int)) (.lit (.int .i64 (fl.getD m default).caps))) (.int .i64 (n : Int)) = true -> (D.put (.int .i64 (m : Int)) (.lit (.int .i64 (fl.getD m default).caps))).atKey (.int .i64 (n : Int)) (.lit (.int .i64 0)) = .lit (.int .i64 (fl.getD n default).caps) := by
 have other : ∀ n : Nat, n ≠ m -> (Lit.int .i64 (n : Int)) ≠ (Lit.int .i64 (m : Int)) := fun n hn e => hn (by injection e with _ e2; omega)
 constructor
 ·rw [size_put hT]
  have up : ∀ i : Nat, Maps.has D (.int .i64 (i : Int)) = true -> Maps.has (D.put (.int .i64 (m : Int)) (.lit (.int .i64 (fl.getD m default).caps))) (.int .i64 (i : Int)) = true := fun i hi => by
   by_cases e : i = m
   ·subst e; exact has_put_same hT.isMap (Mk i) _
   ·rw [has_put_other (other i e)]; exact hi
  split
  ·exact Nat.le_trans hs (List.countP_mono_left fun i _ hi => up i hi)
  ·rename_i hno
   have := FU (p := fun i : Nat => Maps.has D (.int .i64 (i : Int))) (q := fun i : Nat => Maps.has (D.put (.int .i64 (m : Int)) (.lit (.int .i64 (fl.getD m default).caps))) (.int .i64 (i : Int))) m (by simpa using hno) (has_put_same hT.isMap (Mk m) _) up (List.range 4096) (List.mem_range.2 hm); omega
 ·intro n hn
  by_cases e : n = m
  ·subst e; exact atKey_put_same hT.isMap (Mk n) _ _
  ·rw [atKey_put_other (other n e)]
   rw [has_put_other (other n e)] at hn; exact ha n hn
theorem Dl {w : World} {mb n : Nat} {D : DataW Unit} (h : w.ownsMap Tryz.prog 3 (plainElem Tryz.prog 3) mb n D) (m : Nat) (hm : m < 4096) :
 ∃ c, (Instr.lookup 131 (.map (some mb)) (.int .i64 (m : Int)) true).run Tryz.prog w = .ok (.tuple #[.int .i64 c, .bool (Maps.has D (.int .i64 (m : Int)))]) w /\ D.atKey (.int .i64 (m : Int)) (.lit (.int .i64 0)) = .lit (.int .i64 c) := by
 obtain ⟨v, ps, hrun, hv⟩ := h.look_ok VO Tryz.underlying131 (OE w) (plainElem_int Tryz.underlying3 (by decide)) (keyOf_int_mk Tryz.underlying3 (I6 m (by omega)))
 obtain ⟨c, rfl, hc, _⟩ := plainElem_int_inv Tryz.underlying3 hv
 exact ⟨c, hrun, congrArg Prod.fst hc⟩
def qM (fl : List ZJ) (kb mb : Nat) (w : World) (e : Ending) (w' : World) : Prop := e = .returned (.bool true) /\ PO fl kb mb w' /\ w.grownBy w' (some mb)
theorem vG (fl : List ZJ) (kb mb m : Nat) (w : World) (h : PO fl kb mb w) (hm : m < 4096) (hc0 : 0 <= (fl.getD m default).caps) (hc1 : (fl.getD m default).caps <= 1000) :
 Calls Tryz.prog 66 #[.int .i64 m, .int .i64 (fl.getD m default).caps, .pointer (some ⟨kb, 0, none⟩)] w (qM fl kb mb w) := by
 obtain ⟨hk, hne, D, hown, hsz, hat⟩ := h
 obtain ⟨c, hrun, hc⟩ := Dl hown m hm
 have hcnt : (List.range 4096).countP (fun i : Nat => Maps.has D (.int .i64 (i : Int))) <= 4096 := by
  have := List.countP_le_length (p := fun i : Nat => Maps.has D (.int .i64 (i : Int))) (l := List.range 4096)
  rwa [List.length_range] at this
 obtain ⟨w1, hput, hown1, hg⟩ := hown.update (n := Maps.size D) VO Tryz.underlying131 (by unfold maxLen; omega) (keyOf_int_mk Tryz.underlying3 (I6 m (by omega))) (plainElem_int Tryz.underlying3 (a := (fl.getD m default).caps) (WalkArith.wf_i64 (by omega)))
 obtain ⟨s1, s2⟩ := zN (hown.tidy VO) m hm hsz hat
 have HR : Hid (PO fl kb mb w1 /\ w.grownBy w1 (some mb)) := ⟨⟨(hg.block _ (Z6 hk) (fun e => hne (Option.some.inj e))).trans hk, hne, _, vH hown1, s1, s2⟩, hg⟩
 have hh := hat m
 have k0 := (one_cell hk).1
 have hin : Y7 (m : Int) 0 4095 = true := by unfold Y7; simp; omega
 clear hat s1 s2 hg hown1 hcnt hsz hown
 generalize (fl.getD m default).caps = x at *
 obtain ⟨bb, hbb⟩ : ∃ bb, Maps.has D (.int .i64 (m : Int)) = bb := ⟨_, rfl⟩
 rw [hbb] at hrun hh
 clear hbb
 cases bb
 ·clear hh hc
  go_in; go_wp2_with fail; refine (YU _ _ _ _).mono ?_; rintro e w' ⟨rfl, rfl⟩; rw [hin]; go_wp2; go_ret; exact ⟨rfl, HR.out⟩
 ·have hcx : c = x := by have := hc.symm.trans (hh rfl); injection this with e; injection e
  subst hcx; clear hh hc; go_in; go_wp2_with fail; refine (YU _ _ _ _).mono ?_; rintro e w' ⟨rfl, rfl⟩; rw [hin]; go_wp2; go_ret; exact ⟨rfl, HR.out⟩
def aC (fl : List ZJ) (n parts : Int) : Prop := YM fl n parts = true
theorem JQ (fl : List ZJ) (hl : fl.length <= 4096) (SQ : ∀ f ∈ fl, 0 <= f.caps /\ f.caps <= 1000) (kb mb : Nat) : mD 66 (.pointer (some ⟨kb, 0, none⟩)) (PO fl kb mb) (some mb) (YM fl) (aC fl) where
 call w n parts h hok := by
  have ho := hok; unfold aC YM at ho; rw [Bool.and_eq_true] at ho; obtain ⟨h1, h2⟩ := ho; obtain ⟨m, rfl⟩ : ∃ m : Nat, n = m := ⟨n.toNat, by unfold Y7 at h1; simp at h1; omega⟩; have hml : m < fl.length := by unfold Y7 at h1; simp at h1; omega
  have hp : (fl.getD m default).caps = parts := by simpa using h2
  subst hp; have hc := SQ _ (Zr default fl m hml); refine (vG fl kb mb m w h (by omega) hc.1 hc.2).mono ?_; rintro e w' ⟨rfl, hJ, hg⟩; exact ⟨by rw [show YM fl (m : Int) (fl.getD m default).caps = true from hok], hJ, hg⟩
 kept w w' h hg := by
  obtain ⟨hk, hne, D, hown, hsz, hat⟩ := h; exact ⟨(hg.block _ (Z6 hk) (by nofun)).trans hk, hne, D, hown.kept hg (by nofun), hsz, hat⟩
 low w h k hk := by cases hk; obtain ⟨_, _, D, hown, _⟩ := h; exact hown.lt
theorem vF (fl : List ZJ) (hl : fl.length <= 4096) (SQ : ∀ f ∈ fl, 0 <= f.caps /\ f.caps <= 1000) (kb mb cb : Nat) (caps : Int) : F24 66 (.pointer (some ⟨kb, 0, none⟩)) (PO fl kb mb) (some mb) (YM fl) (aC fl) cb caps :=
 fun n loc s a k c w hs hC hJ hok hr => vQ _ _ (some mb) (YM fl) _ (JQ fl hl SQ kb mb) cb caps n loc s a k c w hs hC hJ hok hr
theorem vE {caps : Int} {Ze : Int -> Int -> Bool} {a b : Int} {l : List Z0} (h : XF caps Ze a b l = true) (i : Nat) (hi : i < l.length) : ZI caps Ze (if 0 < i then b else a) (l.getD i default) = true := by
 cases hx : ZI caps Ze (if 0 < i then b else a) (l.getD i default)
 ·rw [PS a b l i hi hx] at h; cases h
 ·rfl
theorem Za {caps : Int} {Ze : Int -> Int -> Bool} {loc op n : Int} {s : ByteArray} {v : Value} {l : List Z0} (h : ZI caps Ze loc (.mk op n s v l) = true) : Zy caps Ze loc op n s l.length = true /\ ∀ i, i < l.length -> ZI caps Ze (lo op loc i) (l.getD i default) = true := by
 unfold ZI at h
 rw [Bool.and_eq_true] at h
 exact ⟨h.1, fun i hi => vE h.2 i hi⟩
theorem AY {ok : Int -> Int -> Prop} : ∀ {l : List Z0}, (∀ y ∈ l, OJ ok y) -> Ku ok l
 | [], _ => by unfold Ku; trivial
 | x :: r, h => by unfold Ku; exact ⟨h x (List.mem_cons_self ..), AY fun y hy => h y (List.mem_cons_of_mem _ hy)⟩
theorem M6 {caps : Int} {Ze : Int -> Int -> Bool} (x : Z0) : ∀ loc, ZI caps Ze loc x = true -> OJ (fun n p => Ze n p = true) x := by
 induction x using Z0.induct with
 | h op n s lv l ih =>
   intro loc h; obtain ⟨h1, h2⟩ := Za h; unfold OJ; refine ⟨fun e => ?_, AY fun y hy => ?_⟩
   ·subst e
    have := (Qu h1).1; rw [Bool.and_eq_true] at this; exact this.2
   ·obtain ⟨k, hk, rfl⟩ := List.mem_iff_getElem.1 hy
    have := h2 k hk; rw [show l.getD k default = l[k] by simp [List.getD, hk]] at this; exact ih _ hy _ this
def mq (r : Int) (w : World) (e : Ending) (w' : World) : Prop := e = .returned (.tuple #[.int .i64 r, .int .i64 0]) /\ Below w.heap.size w w'
theorem FT (B : Nat) (fl : List ZJ) (hl : fl.length <= 4096) (SQ : ∀ f ∈ fl, 0 <= f.caps /\ f.caps <= 1000) (f : ZJ) (w : World) (hBw : B <= w.heap.size) (hx : Y0 B w f.body) (hf : V6 (YM fl) f = true) (hs : YO f.body <= 600) (hh : Y5 f.body <= 211) :
 Calls Tryz.prog 37 #[TJ f] w (mq (Xm 1 f.body) w) := by
 have aB := Z9 (fun (kb mb : Nat) (hmb : B <= mb) (V : World) (iR : B <= V.heap.size) (iQ : Y0 B V f.body) (hJ : PO fl kb mb V) => FY B (JQ fl hl SQ kb mb) f (fun cb => vF fl hl SQ kb mb cb f.caps) (by intro k hk; cases hk; exact hmb) V iR iQ (M6 f.body 1 (by have := hf; unfold V6 at this; rw [Bool.and_eq_true] at this; exact this.2)) hJ hs hh)
 rw [hf] at aB
 have bW := Z9 (fun (V : World) (iR : B <= V.heap.size) (iQ : Y0 B V f.body) => FV B f.body 1 V iR iQ (by omega) (by omega))
 clear hf hs hh SQ
 obtain ⟨caps, ⟨op, n, s, lv, l⟩⟩ := f
 rw [show TJ ⟨caps, .mk op n s lv l⟩ = .agg #[.int .i64 caps, .int .i64 op, .int .i64 n, .string s, lv] from rfl] at *
 have HX := Z9 hx
 have hmm := @run_makeMap Tryz.prog
 have g1 := Z8 w (.cells #[.int .i64 caps, .int .i64 op, .int .i64 n, .string s, lv] 38)
 have gF := ZV w (.cells #[.int .i64 caps, .int .i64 op, .int .i64 n, .string s, lv] 38)
 have hb1 := ZX g1 (Nat.le_refl _) (by nofun)
 clear g1 hx
 go_in
 go_upto_region 1 with fail
 generalize w.alloc (.cells #[.int .i64 caps, .int .i64 op, .int .i64 n, .string s, lv] 38) = W at *
 have g2 := Z8 W (.map #[] 0)
 have g3 := Z8 (W.alloc (.map #[] 0)) (.cells #[.map (some W.heap.size)] 131)
 have mK := Z6 gF
 have gF3 := (g3.block _ (by simp; omega) (by nofun)).trans ((g2.block _ mK (by nofun)).trans gF)
 have hb3 := (hb1.trans ((ZX (B := w.heap.size) g2 (by omega) (by nofun)))).trans (ZX (B := w.heap.size) g3 (by simp; omega) (by nofun))
 have hJ3 : PO fl (W.heap.size + 1) W.heap.size ((W.alloc (.map #[] 0)).alloc (.cells #[.map (some W.heap.size)] 131)) := by
  refine ⟨(congrArg _ (by simp)).trans (ZV (W.alloc (.map #[] 0)) _), by omega, .map [], ((World.ownsMap_made W Tryz.prog 3 _).kept g3 (by nofun)), Nat.zero_le _, fun n h => ?_⟩; rw [show Maps.has (DataW.map (H := Unit) []) (.int .i64 (n : Int)) = false from rfl] at h; cases h
 have hx3 := HX.out.under (hb3.mono hBw)
 have HM := Z9 (aB.out (W.heap.size + 1) W.heap.size (by omega) _ (by have := hb3.size; omega) hx3 hJ3)
 have HB3 := Z9 hb3
 have HGF := Z9 gF3
 obtain ⟨p0, p1, p2, p3, p4⟩ := XR gF3
 clear g2 g3 hJ3 hx3 hb3 gF3 aB
 go_wp2_with fail
 refine HM.out.mono ?_
 rintro e w4 ⟨rfl, hJ4, hg4⟩
 have hb4 : Below w.heap.size w w4 := HB3.out.trans (ZX hg4 HB3.out.size (by intro k hk; cases hk; omega))
 have gF4 := (hg4.block _ (Z6 HGF.out) (by intro e; have := Option.some.inj e; omega)).trans HGF.out
 have HL := Z9 (bW.out w4 (by have := hb4.size; omega) (HX.out.under (hb4.mono hBw)))
 have HB4 := Z9 hb4
 rw [ZE] at HL
 clear p0 p1 p2 p3 p4 hJ4 hg4 HM hb4
 obtain ⟨p0, p1, p2, p3, p4⟩ := XR gF4
 go_wp2_with fail
 refine HL.out.mono ?_
 rintro e w5 ⟨rfl, hb6⟩
 have HBE := Z9 (HB4.out.trans (hb6.mono HB4.out.size))
 clear hb6 HL p0 p1 p2 p3 p4
 go_wp2
 go_ret2
 exact ⟨rfl, HBE.out⟩
end Go.Proofs.YtbcfdebdikgijaaGreatDoor

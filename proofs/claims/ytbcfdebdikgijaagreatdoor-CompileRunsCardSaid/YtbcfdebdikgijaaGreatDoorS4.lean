/- Part of the proof; its texts: Cs1 Cs2 Cv1 Ex1 Ex3 Ex4 Ex6. -/
import Derived.Test.YtbcfdebdikgijaaGreatDoorS2
import Derived.Test.YtbcfdebdikgijaaGreatDoorS3
import Derived.Deep.Slices
import Derived.ChangeSame
import Derived.SliceStrings
import Derived.Deep.WholeRow
import Derived.Great.BuildSlice
import Derived.Deep.MidRow
set_option maxRecDepth 100000
set_option linter.unusedVariables false
set_option linter.unusedSimpArgs false
set_option maxHeartbeats 2000000
namespace Go.Proofs.YtbcfdebdikgijaaGreatDoor
open Go Go.RowKit
theorem both {a b c : World} {r : Option Nat} (h : a.grownBy b r) (k : b.grownBy c r) : a.grownBy c r :=
 ⟨k.os.trans h.os, k.tape.trans h.tape, k.output.trans h.output, Nat.le_trans h.size k.size, fun q hq hr => (k.block q (Nat.lt_of_lt_of_le hq h.size) hr).trans (h.block q hq hr)⟩
theorem YA {a b : World} (h : a.grownBy b none) (r : Option Nat) : a.grownBy b r := ⟨h.os, h.tape, h.output, h.size, fun q hq _ => h.block q hq (by nofun)⟩
def TK (x : Z0) : List Value := [.int .i64 x.op, .int .i64 x.n, .string x.s, x.lv]
def Ws (x : Z0) : Value := .agg #[.int .i64 x.op, .int .i64 x.n, .string x.s, x.lv]
def ZR (l : List Z0) : List Value := l.flatMap TK
def Uu (B : Nat) (w : World) (v : Value) (len : Nat) (xs : List Value) : Prop :=
 ∃ (a : Option Addr) (c : Nat), v = .slice a len c /\ len <= c /\ (0 < len -> ∃ b off, a = some ⟨b, off, none⟩ /\ b < B /\ ∀ j, j < xs.length -> w.cell? ⟨b, off + j, none⟩ = some (xs.getD j undef))
theorem Uu.kept {B : Nat} {w w' : World} {v : Value} {n : Nat} {xs : List Value} (h : Uu B w v n xs) (hb : ∀ b, b < B -> w'.heap[b]? = w.heap[b]?) : Uu B w' v n xs := by
 obtain ⟨a, c, hv, hlc, hl⟩ := h
 refine ⟨a, c, hv, hlc, fun hne => ?_⟩
 obtain ⟨b, off, ha, hlt, hc⟩ := hl hne
 exact ⟨b, off, ha, hlt, fun j hj => by rw [<- hc j hj]; unfold World.cell?; rw [hb b hlt]⟩
inductive Y0 (B : Nat) (w : World) : Z0 -> Prop
 | mk {op n : Int} {s : ByteArray} {lv : Value} {l : List Z0} : Uu B w lv l.length (ZR l) -> l.length <= maxLen -> (∀ y ∈ l, Y0 B w y) -> Y0 B w (.mk op n s lv l)
theorem Y0.kept {B : Nat} {w w' : World} (hb : ∀ b, b < B -> w'.heap[b]? = w.heap[b]?) (x : Z0) (h : Y0 B w x) : Y0 B w' x := by
 induction h with
 | mk h1 h2 _ ih => exact .mk (h1.kept hb) h2 ih
theorem Y0.under {B : Nat} {w w' : World} {x : Z0} (h : Y0 B w x) (hb : Below B w w') : Y0 B w' x := h.kept hb.block
theorem Y0.grown {B : Nat} {w w' : World} {x : Z0} {r : Option Nat} (h : Y0 B w x) (hg : w.grownBy w' r) (hB : B <= w.heap.size) (hr : ∀ k, r = some k -> B <= k) : Y0 B w' x   := h.under (ZX hg hB hr)
theorem Zg (l : List Z0) : (ZR l).length = l.length * 4 := by
 induction l with
 | nil => rfl
 | cons x l ih => simp [ZR, TK] at ih ⊢; omega
theorem TS : ∀ (l : List Z0) (k : Nat), k < l.length -> (ZR l).getD (k * 4) undef = .int .i64 (l.getD k default).op /\ (ZR l).getD (k * 4 + 1) undef = .int .i64 (l.getD k default).n /\ (ZR l).getD (k * 4 + 2) undef = .string (l.getD k default).s /\ (ZR l).getD (k * 4 + 3) undef = (l.getD k default).lv
 | [], k, h => by simp at h
 | x :: l, 0, _ => by simp [ZR, TK]
 | x :: l, k + 1, h => by
   have ih := TS l k (by simpa using h); have e : ZR (x :: l) = [.int .i64 x.op, .int .i64 x.n, .string x.s, x.lv] ++ ZR l := rfl; have g : ∀ j, (ZR (x :: l)).getD (j + 4) undef = (ZR l).getD j undef := fun j => by
    rw [e]; simp [List.getD]
   have e1 : (k + 1) * 4 = k * 4 + 4 := by omega
   refine ⟨?_, ?_, ?_, ?_⟩
   ·rw [e1, g]; exact ih.1
   ·rw [show (k + 1) * 4 + 1 = k * 4 + 1 + 4 by omega, g]; exact ih.2.1
   ·rw [show (k + 1) * 4 + 2 = k * 4 + 2 + 4 by omega, g]; exact ih.2.2.1
   ·rw [show (k + 1) * 4 + 3 = k * 4 + 3 + 4 by omega, g]; exact ih.2.2.2
theorem Bp {B : Nat} {w : World} {v : Value} {l : List Z0} (h : Uu B w v l.length (ZR l)) (n : Nat) (hn : n < l.length) :
 ∃ b off c, v = .slice (some ⟨b, off, none⟩) l.length c /\ l.length <= c /\ b < B /\ w.cell? ⟨b, off + n * 4, none⟩ = some (.int .i64 (l.getD n default).op) /\ w.cell? ⟨b, off + n * 4 + 1, none⟩ = some (.int .i64 (l.getD n default).n) /\ w.cell? ⟨b, off + n * 4 + 2, none⟩ = some (.string (l.getD n default).s) /\ w.cell? ⟨b, off + n * 4 + 3, none⟩ = some (l.getD n default).lv := by
 obtain ⟨a, c, rfl, hlc, hcell⟩ := h
 obtain ⟨b, off, rfl, hlt, hc⟩ := hcell (by omega)
 obtain ⟨c0, c1, c2, c3⟩ := TS l n hn
 have hlen := Zg l
 refine ⟨b, off, c, rfl, hlc, hlt, ?_, ?_, ?_, ?_⟩
 ·rw [hc (n * 4) (by omega), c0]
 ·rw [Nat.add_assoc, hc (n * 4 + 1) (by omega), c1]
 ·rw [Nat.add_assoc, hc (n * 4 + 2) (by omega), c2]
 ·rw [Nat.add_assoc, hc (n * 4 + 3) (by omega), c3]
theorem ZE (op n : Int) (s : ByteArray) (lv : Value) (l : List Z0) : Ws (.mk op n s lv l) = .agg #[.int .i64 op, .int .i64 n, .string s, lv] := rfl
theorem Y0.parts {B : Nat} {w : World} {op n : Int} {s : ByteArray} {lv : Value} {l : List Z0} (h : Y0 B w (.mk op n s lv l)) : Uu B w lv l.length (ZR l) /\ l.length <= maxLen /\ ∀ y ∈ l, Y0 B w y := by
 cases h with
 | mk h1 h2 h3 => exact ⟨h1, h2, h3⟩
mutual
def Y5 : Z0 -> Nat
 | .mk _ _ _ _ l => YI l + 1
def YI : List Z0 -> Nat
 | [] => 0
 | x :: r => max (Y5 x) (YI r)
end
theorem WX (op n : Int) (s : ByteArray) (v : Value) (l : List Z0) : Y5 (.mk op n s v l) = YI l + 1 := by rw [Y5]
theorem U4 : YI [] = 0 := by rw [YI]
theorem WK (x : Z0) (r : List Z0) : YI (x :: r) = max (Y5 x) (YI r) := by rw [YI]
theorem take_one {α : Type} (d : α) (l : List α) (k : Nat) (h : k < l.length) : l.take (k + 1) = l.take k ++ [l.getD k d] := by
 rw [List.take_succ_eq_append_getElem h]; simp [List.getD, h]
theorem VB (l : List Z0) (x : Z0) : Yv (l ++ [x]) = Yv l + YO x := by
 induction l with
 | nil => rw [List.nil_append, X6, VP]; omega
 | cons y l ih => rw [List.cons_append, X6, X6, ih]; omega
theorem OY (l : List Z0) (x : Z0) : YI (l ++ [x]) = max (YI l) (Y5 x) := by
 induction l with
 | nil => rw [List.nil_append, WK, U4]; omega
 | cons y l ih => rw [List.cons_append, WK, WK, ih]; omega
theorem one_cell {w : World} {q : Nat} {x : Value} {t : TypeId} (h : w.heap[q]? = some (.cells #[x] t (0, 0))) : w.cell? ⟨q, 0, none⟩ = some x /\ w.frozen? ⟨q, 0, none⟩ = false := ⟨by simp [World.cell?, h], Lib.frozen_of_heap h 0⟩
def wM (lb : Nat) (n : Int) (size height : Nat) (d : Int) (w : World) (e : Ending) (w' : World) : Prop :=
 ∃ (b : Bool) (n' : Int), e = .returned (.bool b) /\ w'.heap[lb]? = some (.cells #[.int .i64 n'] 3 (0, 0)) /\ w.grownBy w' (some lb) /\ -1 <= n' /\ n' <= n /\ (b = true -> 0 <= n' /\ n' = n - size /\ d + height <= 211)
def Je (B lb : Nat) (y : Z0) : Prop := ∀ (w : World) (n d : Int), Y0 B w y -> w.heap[lb]? = some (.cells #[.int .i64 n] 3 (0, 0)) -> B <= lb -> 0 <= n -> n <= 600 -> 0 <= d -> d <= 1000 ->
 Calls Tryz.prog 17 #[Ws y, .pointer (some ⟨lb, 0, none⟩), .int .i64 d] w (wM lb n (YO y) (Y5 y) d w)
def jh (lb : Nat) (n : Int) (size height : Nat) (d : Int) (w : World) (e : Ending) (w' : World) : Prop :=
 ∃ (r : Int) (n' : Int), e = .returned (.int .i64 r) /\ w'.heap[lb]? = some (.cells #[.int .i64 n'] 3 (0, 0)) /\ w.grownBy w' (some lb) /\ -1 <= n' /\ n' <= n /\ (r < 0 -> 0 <= n' /\ n' = n - size /\ (size = 0 \/ d + 1 + height <= 211))
theorem wL (B lb b4 b5 : Nat) (y : Z0) (H : Je B lb y) (w : World) (n d : Int) (hy : Y0 B w y) (hL : w.heap[lb]? = some (.cells #[.int .i64 n] 3 (0, 0))) (hB : B <= lb) (hBw : B <= w.heap.size) (h0 : 0 <= n) (h6 : n <= 600) (hd : 0 <= d) (hd1 : d <= 500)
 (h4 : w.heap[b4]? = some (.cells #[.pointer (some ⟨lb, 0, none⟩)] 61 (0, 0))) (h5 : w.heap[b5]? = some (.cells #[.int .i64 d] 3 (0, 0))) :
 Calls Tryz.prog 41 #[Ws y, .pointer (some ⟨b4, 0, none⟩), .pointer (some ⟨b5, 0, none⟩)] w fun e w' => ∃ (b : Bool) (n' : Int), e = .returned (.bool b) /\ w'.heap[lb]? = some (.cells #[.int .i64 n'] 3 (0, 0)) /\ w.grownBy w' (some lb) /\ -1 <= n' /\ n' <= n /\ (b = false -> 0 <= n' /\ n' = n - YO y /\ d + 1 + Y5 y <= 211) := by
 obtain ⟨op, m, s, lv, l⟩ := y
 rw [ZE]
 have hg := Z8 w (.cells #[.int .i64 op, .int .i64 m, .string s, lv] 36)
 have gY := ZV w (.cells #[.int .i64 op, .int .i64 m, .string s, lv] 36)
 obtain ⟨p0, p1, p2, p3⟩ := WQ gY
 have q4 := (one_cell ((hg.block _ (Z6 h4) (by nofun)).trans h4)).1
 have q5 := (one_cell ((hg.block _ (Z6 h5) (by nofun)).trans h5)).1
 have HF := Z9 (H _ n (d + 1) (hy.grown hg hBw (by nofun)) ((hg.block _ (Z6 hL) (by nofun)).trans hL) hB h0 h6 (by omega) (by omega))
 rw [ZE] at HF
 have HG := Z9 hg
 clear hg gY h4 h5 hy H hL
 go_in
 go_wp2_with fail
 refine HF.out.mono ?_
 rintro e w2 ⟨b, n', rfl, hL2, hg2, hn1, hn2, hn3⟩
 have HR : Hid (∃ (b' : Bool) (n' : Int), b' = (!b) /\ w2.heap[lb]? = some (.cells #[.int .i64 n'] 3 (0, 0)) /\ w.grownBy w2 (some lb) /\ -1 <= n' /\ n' <= n /\ (b' = false -> 0 <= n' /\ n' = n - YO (.mk op m s lv l) /\ d + 1 + Y5 (.mk op m s lv l) <= 211)) :=
  ⟨_, n', rfl, hL2, both (YA HG.out _) hg2, hn1, hn2, fun hb => hn3 (by simpa using hb)⟩
 clear hL2 hg2 hn3
 go_wp2
 go_ret
 obtain ⟨b', n', hb', h⟩ := HR.out
 exact ⟨b', n', by rw [hb']; rfl, h⟩
theorem wK {l : List Z0} {k : Nat} {x : Z0} {n n' n2 d : Int} (h : n' = n - Yv (l.take k) /\ (Yv (l.take k) = 0 \/ d + 1 + YI (l.take k) <= 211)) (hT : Yv (l.take (k + 1)) = Yv (l.take k) + YO x /\ YI (l.take (k + 1)) = max (YI (l.take k)) (Y5 x)) (j1 : n2 = n' - YO x) (j2 : d + 1 + Y5 x <= 211) :
 Hid (n2 = n - Yv (l.take (k + 1)) /\ (Yv (l.take (k + 1)) = 0 \/ d + 1 + YI (l.take (k + 1)) <= 211)) := by
 obtain ⟨h1, h2⟩ := h
 refine ⟨by rw [hT.1]; omega, .inr ?_⟩
 rw [hT.2]
 rcases h2 with h2 | h2
 ·have hz : l.take k = [] := by
   cases hq : l.take k with
   | nil => rfl
   | cons y r => rw [hq, X6] at h2; have := U6 y; omega
  rw [hz, U4]; omega
 ·omega
theorem Jd (B lb b4 b5 : Nat) (lv : Value) (l : List Z0) (H : ∀ y ∈ l, Je B lb y) (w : World) (n d : Int) (hl : Uu B w lv l.length (ZR l)) (hm : l.length <= maxLen) (hy : ∀ y ∈ l, Y0 B w y) (hL : w.heap[lb]? = some (.cells #[.int .i64 n] 3 (0, 0))) (hB : B <= lb) (hBw : B <= w.heap.size) (h0 : 0 <= n) (h6 : n <= 600) (hd : 0 <= d) (hd1 : d <= 500)
 (h4 : w.heap[b4]? = some (.cells #[.pointer (some ⟨lb, 0, none⟩)] 61 (0, 0))) (h5 : w.heap[b5]? = some (.cells #[.int .i64 d] 3 (0, 0))) (hne : lb ≠ b4) (hne' : lb ≠ b5) :
 Calls Tryz.prog 73 #[lv, .func (.func 41) #[] #[.pointer (some ⟨b4, 0, none⟩), .pointer (some ⟨b5, 0, none⟩)]] w (jh lb n (Yv l) (YI l) d w) := by
 have HY := Z9 hy
 have HL := Z9 hL
 have HI := Z9 H
 have HR := Z9 hl
 have H4 := Z9 h4
 have H5 := Z9 h5
 clear hy hL H h4 h5
 obtain ⟨a, c, rfl, hlc, hcell⟩ := hl
 have hm' : l.length <= 9223372036854775807 := by unfold maxLen at hm; omega
 clear hcell hm
 go_in
 go_wp2_with fail
 go_loopw [8] (fun i wr => ∃ (k : Nat) (n' : Int), k <= l.length /\ i = .int .i64 k /\ 0 <= n' /\ n' <= n /\ Hid (n' = n - Yv (l.take k) /\ (Yv (l.take k) = 0 \/ d + 1 + YI (l.take k) <= 211)) /\ Hid (wr.heap[lb]? = some (.cells #[.int .i64 n'] 3 (0, 0))) /\ Hid (w.grownBy wr (some lb))) (fun i _ => l.length - (intOf i).toNat)
 case atStart => exact ⟨0, n, Nat.zero_le _, rfl, h0, Int.le_refl _, ⟨by rw [List.take_zero, VP]; omega, .inl (by rw [List.take_zero, VP])⟩, HL, ⟨rfl, rfl, rfl, Nat.le_refl _, fun _ _ _ => rfl⟩⟩
 case round =>
  obtain ⟨k, n', hk, rfl, hn0, hn1, HS, bX, HG⟩ := hrel; by_cases hkl : k < l.length
  ·have jN : Uu B wr (.slice a l.length c) l.length (ZR l) := HR.out.kept (fun b hb => HG.out.block b (by omega) (fun e => by cases e; omega))
   obtain ⟨b, off, c', ha, _, Rx, c0, c1, c2, c3⟩ := Bp jN k hkl; obtain rfl := (Value.slice.inj ha).1; have hmem := Zr default l k hkl
   have hF := wL B lb b4 b5 _ (HI.out _ hmem) wr n' d ((HY.out _ hmem).grown HG.out hBw (fun q hq => by cases hq; omega)) bX.out hB (by have := HG.out.size; omega) hn0 (by omega) hd hd1
    ((HG.out.block _ (Z6 H4.out) (fun e => hne (Option.some.inj e).symm)).trans H4.out) ((HG.out.block _ (Z6 H5.out) (fun e => hne' (Option.some.inj e).symm)).trans H5.out)
   have hT := take_one default l k hkl; have HT : Hid (Yv (l.take (k + 1)) = Yv (l.take k) + YO (l.getD k default) /\ YI (l.take (k + 1)) = max (YI (l.take k)) (Y5 (l.getD k default))) := ⟨by rw [hT, VB], by rw [hT, OY]⟩; clear hT jN ha hmem; generalize l.getD k default = x at *; obtain ⟨op, m, s, xv, xl⟩ := x; rw [ZE] at hF; have c0 : wr.cell? ⟨b, off + k * 4, none⟩ = some (.int .i64 op) := c0; have c1 : wr.cell? ⟨b, off + k * 4 + 1, none⟩ = some (.int .i64 m) := c1; have c2 : wr.cell? ⟨b, off + k * 4 + 2, none⟩ = some (.string s) := c2; have c3 : wr.cell? ⟨b, off + k * 4 + 3, none⟩ = some xv := c3; have HF := Z9 hF; clear hF; go_wp2_with fail; refine HF.out.mono ?_; rintro e w2 ⟨bb, n2, rfl, hL2, hg2, hn2, hn3, hn4⟩; have HL2 := Z9 hL2; have HG2 := Z9 (both HG.out hg2); have HN := Z9 hn4; clear hL2 hg2 hn4 c0 c1 c2 c3; cases bb
   ·obtain ⟨j0, j1, j2⟩ := HN.out rfl
    go_wp2_with fail; go_round
    case rel => exact ⟨k + 1, n2, by omega, by go_num, j0, by omega, wK HS.out HT.out j1 j2, HL2, HG2⟩
    case measure => simp [intOf]; omega
   ·go_wp2
    go_ret; exact ⟨k, n2, rfl, HL2.out, HG2.out, hn2, by omega, fun h => by omega⟩
  ·go_wp2
   go_ret; obtain ⟨s1, s2⟩ := HS.out; rw [List.take_of_length_le (by omega)] at s1 s2; exact ⟨-1, n', rfl, bX.out, HG.out, by omega, hn1, fun _ => ⟨hn0, s1, s2⟩⟩
def wJ (lb : Nat) (n : Int) (size height : Nat) (d : Int) (w : World) (e : Ending) (w' : World) : Prop :=
 ∃ (b : Bool) (n' : Int), e = .returned (.bool b) /\ w'.heap[lb]? = some (.cells #[.int .i64 n'] 3 (0, 0)) /\ w.grownBy w' (some lb) /\ -1 <= n' /\ n' <= n /\ (b = false -> 0 <= n' /\ n' = n - size /\ (size = 0 \/ d + 1 + height <= 211))
theorem Q9 (B lb b4 b5 : Nat) (lv : Value) (l : List Z0) (H : ∀ y ∈ l, Je B lb y) (w : World) (n d : Int) (hl : Uu B w lv l.length (ZR l)) (hm : l.length <= maxLen) (hy : ∀ y ∈ l, Y0 B w y) (hL : w.heap[lb]? = some (.cells #[.int .i64 n] 3 (0, 0))) (hB : B <= lb) (hBw : B <= w.heap.size) (h0 : 0 <= n) (h6 : n <= 600) (hd : 0 <= d) (hd1 : d <= 500)
 (h4 : w.heap[b4]? = some (.cells #[.pointer (some ⟨lb, 0, none⟩)] 61 (0, 0))) (h5 : w.heap[b5]? = some (.cells #[.int .i64 d] 3 (0, 0))) (hne : lb ≠ b4) (hne' : lb ≠ b5) :
 Calls Tryz.prog 40 #[lv, .func (.func 41) #[] #[.pointer (some ⟨b4, 0, none⟩), .pointer (some ⟨b5, 0, none⟩)]] w (wJ lb n (Yv l) (YI l) d w) := by
 have H' := Z9 (Jd B lb b4 b5 lv l H w n d hl hm hy hL hB hBw h0 h6 hd hd1 h4 h5 hne hne')
 obtain ⟨a, c, rfl, hlc, hcell⟩ := hl
 clear H hm hy hL h4 h5 hcell
 go_in
 go_wp2_with fail
 refine H'.out.mono ?_
 rintro e w2 ⟨r, n', rfl, hL2, hg2, hn1, hn2, hn3⟩
 have HR : Hid (wJ lb n (Yv l) (YI l) d w (.returned (.bool (decide (0 <= r)))) w2) := ⟨_, n', rfl, hL2, hg2, hn1, hn2, fun h => hn3 (by have := of_decide_eq_false h; omega)⟩
 clear hL2 hg2 hn3
 go_wp2
 go_ret
 exact HR.out
theorem Bo {op m : Int} {s : ByteArray} {lv : Value} {l : List Z0} {n n' d : Int} (_ : 0 <= n - 1) (c1 : d <= 210) (h : 0 <= n' /\ n' = n - 1 - Yv l /\ (Yv l = 0 \/ d + 1 + YI l <= 211)) : 0 <= n' /\ n' = n - YO (.mk op m s lv l) /\ d + Y5 (.mk op m s lv l) <= 211 := by
 rw [Wv, WX]
 obtain ⟨h0, h1, h2⟩ := h
 refine ⟨h0, by omega, ?_⟩
 rcases h2 with h2 | h2
 ·have hz : l = [] := by
   cases l with
   | nil => rfl
   | cons y r => rw [X6] at h2; have := U6 y; omega
  rw [hz, U4]; omega
 ·omega
theorem qR (B lb : Nat) (x : Z0) : Je B lb x := by
 induction x using Z0.induct with
 | h op m s lv l ih =>
   intro w n d hx hL hB h0 h6 hd hd1; rw [ZE]; have SC := Z9 ih; obtain ⟨hr, hm, hy⟩ := hx.parts; have hlt := Z6 hL; have hg : w.grownBy (((w.alloc (.cells #[.int .i64 op, .int .i64 m, .string s, lv] 36)).alloc (.cells #[.pointer (some ⟨lb, 0, none⟩)] 61)).alloc (.cells #[.int .i64 d] 3)) none := both (both (Z8 _ _) (Z8 _ _)) (Z8 _ _); have g3 := (Z8 (w.alloc (.cells #[.int .i64 op, .int .i64 m, .string s, lv] 36)) (.cells #[.pointer (some ⟨lb, 0, none⟩)] 61)); have g4 := Z8 ((w.alloc (.cells #[.int .i64 op, .int .i64 m, .string s, lv] 36)).alloc (.cells #[.pointer (some ⟨lb, 0, none⟩)] 61)) (.cells #[.int .i64 d] 3); have k3 := (g4.block w.heap.size (by simp; omega) (by nofun)).trans ((g3.block w.heap.size (by simp) (by nofun)).trans (ZV w (.cells #[.int .i64 op, .int .i64 m, .string s, lv] 36))); have k4 := (g4.block (w.heap.size + 1) (by simp) (by nofun)).trans ((congrArg _ (by simp)).trans (ZV (w.alloc (.cells #[.int .i64 op, .int .i64 m, .string s, lv] 36)) (.cells #[.pointer (some ⟨lb, 0, none⟩)] 61))); have k5 : (((w.alloc (.cells #[.int .i64 op, .int .i64 m, .string s, lv] 36)).alloc (.cells #[.pointer (some ⟨lb, 0, none⟩)] 61)).alloc (.cells #[.int .i64 d] 3)).heap[w.heap.size + 1 + 1]? = some (.cells #[.int .i64 d] 3 (0, 0)) := (congrArg _ (by simp)).trans (ZV ((w.alloc (.cells #[.int .i64 op, .int .i64 m, .string s, lv] 36)).alloc (.cells #[.pointer (some ⟨lb, 0, none⟩)] 61)) (.cells #[.int .i64 d] 3)); have kL := (hg.block _ hlt (by nofun)).trans hL; have hsz : (((w.alloc (.cells #[.int .i64 op, .int .i64 m, .string s, lv] 36)).alloc (.cells #[.pointer (some ⟨lb, 0, none⟩)] 61)).alloc (.cells #[.int .i64 d] 3)).heap.size = w.heap.size + 3 := by simp
   clear g3 g4; go_in; go_upto_region 1 with fail; generalize ((w.alloc (.cells #[.int .i64 op, .int .i64 m, .string s, lv] 36)).alloc (.cells #[.pointer (some ⟨lb, 0, none⟩)] 61)).alloc (.cells #[.int .i64 d] 3) = W at *; have c3 := WQ k3; obtain ⟨e0, e1, e2, e3⟩ := c3; have q4 := (one_cell k4).1; have q5 := (one_cell k5).1; have qL := one_cell kL; obtain ⟨qL0, qL1⟩ := qL; have hS := Zv W lb 0 (.int .i64 (n - 1)); have kL2 := ZL (i := 0) kL (.int .i64 (n - 1)); have r3 := (hS.block _ (Z6 k3) (fun e => by have := Option.some.inj e; omega)).trans k3; have r4 := (hS.block _ (Z6 k4) (fun e => by have := Option.some.inj e; omega)).trans k4; have r5 := (hS.block _ (Z6 k5) (fun e => by have := Option.some.inj e; omega)).trans k5; have hgg := both (YA hg (some lb)) hS; have HK := Z9 (fun (y : Z0) (hy' : y ∈ l) => (hy y hy').grown hgg (by omega) (fun q hq => by cases hq; exact hB)); have HRR : Hid (Uu B (W.setCell ⟨lb, 0, none⟩ (.int .i64 (n - 1))) lv l.length (ZR l)) := hr.kept (fun b hb => hgg.block b (by omega) (fun e => by cases e; omega)); have hw1 : IntKind.i64.wrap (n - 1) = n - 1 := YJ _ (by omega) (by omega); clear hy hr hg hS k3 k4 k5 kL; obtain ⟨s0, s1⟩ := one_cell kL2; go_upto_region 2 with fail; by_cases c0 : 0 <= n - 1
   ·by_cases c1 : d <= 210
    ·by_cases c2 : (s.size : Int) <= 200
     ·skip
      have HC := Z9 (Q9 B lb (w.heap.size + 1) (w.heap.size + 1 + 1) lv l SC.out _ (n - 1) d HRR.out hm HK.out kL2 hB (by have := hgg.size; omega) c0 (by omega) hd (by omega) r4 r5 (by omega) (by omega)); clear HK SC ih hx r3 r4 r5 kL2 hm; go_wp2_with fail; refine HC.out.mono ?_; rintro e w2 ⟨b, n', rfl, hL2, hg2, hn1, hn2, hn3⟩; have HR : Hid (wM lb n (YO (.mk op m s lv l)) (Y5 (.mk op m s lv l)) d w (.returned (.bool (!b))) w2) := ⟨_, n', rfl, hL2, both hgg hg2, hn1, by omega, fun h => Bo c0 c1 (hn3 (by simpa using h))⟩; clear hL2 hg2 hn3; go_wp2; go_ret; exact HR.out
     ·by_cases c3 : 16384 < (s.size : Int)
      ·by_cases c4 : (s.size : Int) < 16394
       ·skip
        have HC := Z9 (Q9 B lb (w.heap.size + 1) (w.heap.size + 1 + 1) lv l SC.out _ (n - 1) d HRR.out hm HK.out kL2 hB (by have := hgg.size; omega) c0 (by omega) hd (by omega) r4 r5 (by omega) (by omega)); clear HK SC ih hx r3 r4 r5 kL2 hm; go_wp2_with fail; refine HC.out.mono ?_; rintro e w2 ⟨b, n', rfl, hL2, hg2, hn1, hn2, hn3⟩; have HR : Hid (wM lb n (YO (.mk op m s lv l)) (Y5 (.mk op m s lv l)) d w (.returned (.bool (!b))) w2) := ⟨_, n', rfl, hL2, both hgg hg2, hn1, by omega, fun h => Bo c0 c1 (hn3 (by simpa using h))⟩; clear hL2 hg2 hn3; go_wp2; go_ret; exact HR.out
       ·go_wp2
        go_ret; exact ⟨false, n - 1, rfl, kL2, hgg, by omega, by omega, nofun⟩
      ·go_wp2
       go_ret; exact ⟨false, n - 1, rfl, kL2, hgg, by omega, by omega, nofun⟩
    ·go_wp2
     go_ret; exact ⟨false, n - 1, rfl, kL2, hgg, by omega, by omega, nofun⟩
   ·go_wp2
    go_ret; exact ⟨false, n - 1, rfl, kL2, hgg, by omega, by omega, nofun⟩
structure ZJ where
 caps : Int
 body : Z0
 deriving Inhabited
def OX (f : ZJ) : List Value := [.int .i64 f.caps, .int .i64 f.body.op, .int .i64 f.body.n, .string f.body.s, f.body.lv]
def TJ (f : ZJ) : Value := .agg #[.int .i64 f.caps, .int .i64 f.body.op, .int .i64 f.body.n, .string f.body.s, f.body.lv]
def Xu (l : List ZJ) : List Value := l.flatMap OX
def Xh (B : Nat) (w : World) (v : Value) (l : List ZJ) : Prop := Uu B w v l.length (Xu l) /\ l.length <= maxLen /\ ∀ f ∈ l, Y0 B w f.body
theorem Xh.under {B : Nat} {w w' : World} {v : Value} {l : List ZJ} (h : Xh B w v l) (hb : Below B w w') : Xh B w' v l := ⟨h.1.kept hb.block, h.2.1, fun f hf => (h.2.2 f hf).under hb⟩
theorem NK (l : List ZJ) : (Xu l).length = l.length * 5 := by
 induction l with
 | nil => rfl
 | cons x l ih => simp [Xu, OX] at ih ⊢; omega
theorem OW : ∀ (l : List ZJ) (k : Nat), k < l.length -> (Xu l).getD (k * 5) undef = .int .i64 (l.getD k default).caps /\ (Xu l).getD (k * 5 + 1) undef = .int .i64 (l.getD k default).body.op /\ (Xu l).getD (k * 5 + 2) undef = .int .i64 (l.getD k default).body.n /\ (Xu l).getD (k * 5 + 3) undef = .string (l.getD k default).body.s /\ (Xu l).getD (k * 5 + 4) undef = (l.getD k default).body.lv
 | [], k, h => by simp at h
 | x :: l, 0, _ => by simp [Xu, OX]
 | x :: l, k + 1, h => by
   have ih := OW l k (by simpa using h); have e : Xu (x :: l) = [.int .i64 x.caps, .int .i64 x.body.op, .int .i64 x.body.n, .string x.body.s, x.body.lv] ++ Xu l := rfl; have g : ∀ j, (Xu (x :: l)).getD (j + 5) undef = (Xu l).getD j undef := fun j => by
    rw [e]; simp [List.getD]
   have e1 : (k + 1) * 5 = k * 5 + 5 := by omega
   refine ⟨?_, ?_, ?_, ?_, ?_⟩
   ·rw [e1, g]; exact ih.1
   ·rw [show (k + 1) * 5 + 1 = k * 5 + 1 + 5 by omega, g]; exact ih.2.1
   ·rw [show (k + 1) * 5 + 2 = k * 5 + 2 + 5 by omega, g]; exact ih.2.2.1
   ·rw [show (k + 1) * 5 + 3 = k * 5 + 3 + 5 by omega, g]; exact ih.2.2.2.1
   ·rw [show (k + 1) * 5 + 4 = k * 5 + 4 + 5 by omega, g]; exact ih.2.2.2.2
theorem VT {B : Nat} {w : World} {v : Value} {l : List ZJ} (h : Uu B w v l.length (Xu l)) (n : Nat) (hn : n < l.length) :
 ∃ b off c, v = .slice (some ⟨b, off, none⟩) l.length c /\ l.length <= c /\ b < B /\ w.cell? ⟨b, off + n * 5, none⟩ = some (.int .i64 (l.getD n default).caps) /\ w.cell? ⟨b, off + n * 5 + 1, none⟩ = some (.int .i64 (l.getD n default).body.op) /\ w.cell? ⟨b, off + n * 5 + 2, none⟩ = some (.int .i64 (l.getD n default).body.n) /\ w.cell? ⟨b, off + n * 5 + 3, none⟩ = some (.string (l.getD n default).body.s) /\ w.cell? ⟨b, off + n * 5 + 4, none⟩ = some (l.getD n default).body.lv := by
 obtain ⟨a, c, rfl, hlc, hcell⟩ := h
 obtain ⟨b, off, rfl, hlt, hc⟩ := hcell (by omega)
 obtain ⟨c0, c1, c2, c3, c4⟩ := OW l n hn
 have hlen := NK l
 refine ⟨b, off, c, rfl, hlc, hlt, ?_, ?_, ?_, ?_, ?_⟩
 ·rw [hc (n * 5) (by omega), c0]
 ·rw [Nat.add_assoc, hc (n * 5 + 1) (by omega), c1]
 ·rw [Nat.add_assoc, hc (n * 5 + 2) (by omega), c2]
 ·rw [Nat.add_assoc, hc (n * 5 + 3) (by omega), c3]
 ·rw [Nat.add_assoc, hc (n * 5 + 4) (by omega), c4]
theorem XR {w : World} {q : Nat} {x y z u v : Value} {t : TypeId} (h : w.heap[q]? = some (.cells #[x, y, z, u, v] t (0, 0))) : w.cell? ⟨q, 0, none⟩ = some x /\ w.cell? ⟨q, 1, none⟩ = some y /\ w.cell? ⟨q, 2, none⟩ = some z /\ w.cell? ⟨q, 3, none⟩ = some u /\ w.cell? ⟨q, 4, none⟩ = some v := by
 simp [World.cell?, h]
def Uz (l : List ZJ) : Nat := Yv (l.map ZJ.body)
theorem DV (l : List ZJ) (f : ZJ) : Uz (l ++ [f]) = Uz l + YO f.body := by unfold Uz; rw [List.map_append]; exact VB _ _
def Small (l : List ZJ) : Prop := ∀ f ∈ l, Y5 f.body <= 211
theorem zS (B lb : Nat) (f : ZJ) (w : World) (n : Int) (hy : Y0 B w f.body) (hL : w.heap[lb]? = some (.cells #[.int .i64 n] 3 (0, 0))) (hB : B <= lb) (hBw : B <= w.heap.size) (h0 : 0 <= n) (h6 : n <= 600) :
 Calls Tryz.prog 16 #[TJ f, .pointer (some ⟨lb, 0, none⟩)] w fun e w' => ∃ (b : Bool) (n' : Int), e = .returned (.bool b) /\ w'.heap[lb]? = some (.cells #[.int .i64 n'] 3 (0, 0)) /\ w.grownBy w' (some lb) /\ -1 <= n' /\ n' <= n /\ (b = false -> 0 <= n' /\ n' = n - YO f.body /\ Y5 f.body <= 211) := by
 obtain ⟨caps, ⟨op, m, s, lv, l⟩⟩ := f
 show Calls Tryz.prog _ #[.agg #[.int .i64 caps, .int .i64 op, .int .i64 m, .string s, lv], _] _ _
 have hg := Z8 w (.cells #[.int .i64 caps, .int .i64 op, .int .i64 m, .string s, lv] 38)
 have gY := ZV w (.cells #[.int .i64 caps, .int .i64 op, .int .i64 m, .string s, lv] 38)
 obtain ⟨p0, p1, p2, p3, p4⟩ := XR gY
 have HF := Z9 (qR B lb (.mk op m s lv l) _ n 0 (hy.grown hg hBw (by nofun)) ((hg.block _ (Z6 hL) (by nofun)).trans hL) hB h0 h6 (by omega) (by omega))
 rw [ZE] at HF
 have HG := Z9 hg
 clear hg gY hy hL
 go_in
 go_wp2_with fail
 refine HF.out.mono ?_
 rintro e w2 ⟨b, n', rfl, hL2, hg2, hn1, hn2, hn3⟩
 have HR : Hid (∃ (b' : Bool) (n' : Int), b' = (!b) /\ w2.heap[lb]? = some (.cells #[.int .i64 n'] 3 (0, 0)) /\ w.grownBy w2 (some lb) /\ -1 <= n' /\ n' <= n /\ (b' = false -> 0 <= n' /\ n' = n - YO (.mk op m s lv l) /\ Y5 (.mk op m s lv l) <= 211)) :=
  ⟨_, n', rfl, hL2, both (YA HG.out _) hg2, hn1, hn2, fun hb => by have := hn3 (by simpa using hb); exact ⟨this.1, this.2.1, by omega⟩⟩
 clear hL2 hg2 hn3
 go_wp2
 go_ret
 obtain ⟨b', n', hb', h⟩ := HR.out
 exact ⟨b', n', by rw [hb']; rfl, h⟩
def aJ (n : Int) (l : List ZJ) (w : World) (lb : Nat) (e : Ending) (w' : World) : Prop :=
 ∃ (r : Int), e = .returned (.int .i64 r) /\ w.grownBy w' (some lb) /\ (r < 0 -> (Uz l : Int) <= n /\ Small l)
theorem Kw (B lb : Nat) (fv : Value) (l : List ZJ) (w : World) (n : Int) (hl : Xh B w fv l) (hL : w.heap[lb]? = some (.cells #[.int .i64 n] 3 (0, 0))) (hB : B <= lb) (hBw : B <= w.heap.size) (h0 : 0 <= n) (h6 : n <= 600) :
 Calls Tryz.prog 24 #[fv, .func (.func 16) #[] #[.pointer (some ⟨lb, 0, none⟩)]] w (aJ n l w lb) := by
 have HR := Z9 hl
 have HL := Z9 hL
 have hm' : l.length <= 9223372036854775807 := by have := hl.2.1; unfold maxLen at this; omega
 obtain ⟨⟨a, c, rfl, hlc, _⟩, _⟩ := hl
 clear hL
 go_in
 go_wp2_with fail
 go_loopw [8] (fun i wr => ∃ (k : Nat) (n' : Int), k <= l.length /\ i = .int .i64 k /\ 0 <= n' /\ n' <= n /\ Hid (n' = n - Uz (l.take k) /\ Small (l.take k)) /\ Hid (wr.heap[lb]? = some (.cells #[.int .i64 n'] 3 (0, 0))) /\ Hid (w.grownBy wr (some lb))) (fun i _ => l.length - (intOf i).toNat)
 case atStart => exact ⟨0, n, Nat.zero_le _, rfl, h0, Int.le_refl _, ⟨by rw [List.take_zero]; show n = n - ((Yv [] : Nat) : Int); rw [VP]; omega, fun f hf => by simp at hf⟩, HL, ⟨rfl, rfl, rfl, Nat.le_refl _, fun _ _ _ => rfl⟩⟩
 case round =>
  obtain ⟨k, n', hk, rfl, hn0, hn1, HS, bX, HG⟩ := hrel; by_cases hkl : k < l.length
  ·have jN : Xh B wr (.slice a l.length c) l := HR.out.under (ZX HG.out hBw (fun q hq => by cases hq; exact hB))
   obtain ⟨b, off, c', ha, _, Rx, c0, c1, c2, c3, c4⟩ := VT jN.1 k hkl; obtain rfl := (Value.slice.inj ha).1; have hmem := Zr default l k hkl; have hF := zS B lb _ wr n' (jN.2.2 _ hmem) bX.out hB (by have := HG.out.size; omega) hn0 (by omega); have hT := take_one default l k hkl; have HT : Hid (Uz (l.take (k + 1)) = Uz (l.take k) + YO (l.getD k default).body /\ (Y5 (l.getD k default).body <= 211 -> Small (l.take k) -> Small (l.take (k + 1)))) := ⟨by rw [hT, DV], fun h1 h2 => by
    rw [hT]; intro f hf; rcases List.mem_append.1 hf with hf | hf
    ·exact h2 f hf
    ·obtain rfl := List.mem_singleton.1 hf; exact h1⟩
   clear hT jN ha hmem; generalize l.getD k default = x at *; obtain ⟨caps, ⟨op, m, s, xv, xl⟩⟩ := x; have c0 : wr.cell? ⟨b, off + k * 5, none⟩ = some (.int .i64 caps) := c0; have c1 : wr.cell? ⟨b, off + k * 5 + 1, none⟩ = some (.int .i64 op) := c1; have c2 : wr.cell? ⟨b, off + k * 5 + 2, none⟩ = some (.int .i64 m) := c2; have c3 : wr.cell? ⟨b, off + k * 5 + 3, none⟩ = some (.string s) := c3; have c4 : wr.cell? ⟨b, off + k * 5 + 4, none⟩ = some xv := c4; have HF := Z9 hF; clear hF; go_wp2_with fail; refine HF.out.mono ?_; rintro e w2 ⟨bb, n2, rfl, hL2, hg2, hn2, hn3, hn4⟩; have HL2 := Z9 hL2; have HG2 := Z9 (both HG.out hg2); have HN := Z9 hn4; clear hL2 hg2 hn4 c0 c1 c2 c3 c4; cases bb
   ·obtain ⟨j0, j1, j2⟩ := HN.out rfl
    have HS2 : Hid (n2 = n - Uz (l.take (k + 1)) /\ Small (l.take (k + 1))) := ⟨by rw [HT.out.1]; have := HS.out.1; push_cast; omega, HT.out.2 j2 HS.out.2⟩; clear j1 j2; go_wp2_with fail; go_round
    case rel => exact ⟨k + 1, n2, by omega, by go_num, j0, by omega, HS2, HL2, HG2⟩
    case measure => simp [intOf]; omega
   ·go_wp2
    go_ret; exact ⟨k, rfl, HG2.out, fun h => by omega⟩
  ·go_wp2
   go_ret; obtain ⟨s1, s2⟩ := HS.out; rw [List.take_of_length_le (by omega)] at s1 s2; exact ⟨-1, rfl, HG.out, fun _ => ⟨by omega, s2⟩⟩
theorem NJ (B lb : Nat) (fv : Value) (l : List ZJ) (w : World) (n : Int) (hl : Xh B w fv l) (hL : w.heap[lb]? = some (.cells #[.int .i64 n] 3 (0, 0))) (hB : B <= lb) (hBw : B <= w.heap.size) (h0 : 0 <= n) (h6 : n <= 600) :
 Calls Tryz.prog 8 #[fv, .func (.func 16) #[] #[.pointer (some ⟨lb, 0, none⟩)]] w fun e w' => ∃ b : Bool, e = .returned (.bool b) /\ w.grownBy w' (some lb) /\ (b = false -> (Uz l : Int) <= n /\ Small l) := by
 have H' := Z9 (Kw B lb fv l w n hl hL hB hBw h0 h6)
 obtain ⟨⟨a, c, rfl, hlc, hcell⟩, _⟩ := hl
 clear hL hcell
 go_in
 go_wp2_with fail
 refine H'.out.mono ?_
 rintro e w2 ⟨r, rfl, hg2, hn3⟩
 have HR : Hid (∃ b : Bool, b = decide (0 <= r) /\ w.grownBy w2 (some lb) /\ (b = false -> (Uz l : Int) <= n /\ Small l)) := ⟨_, rfl, hg2, fun h => hn3 (by have := of_decide_eq_false h; omega)⟩
 clear hg2 hn3
 go_wp2
 go_ret
 obtain ⟨b, hb, h⟩ := HR.out
 exact ⟨b, by rw [hb]; rfl, h⟩
def Fit (l : List ZJ) : Prop := l.length <= 60 /\ Uz l <= 600 /\ Small l
theorem wI (B : Nat) (fv : Value) (l : List ZJ) (w : World) (hl : Xh B w fv l) (hBw : B <= w.heap.size) :
 Calls Tryz.prog 5 #[fv] w fun e w' => ∃ b : Bool, e = .returned (.bool b) /\ Below w.heap.size w w' /\ (b = true -> Fit l) := by
 have HR := Z9 hl
 have hg := Z8 w (.cells #[.int .i64 600] 3)
 have gY := ZV w (.cells #[.int .i64 600] 3)
 have HC := Z9 (NJ B w.heap.size fv l _ 600 (hl.under (ZX hg hBw (by nofun))) gY hBw (by simp; omega) (by omega) (by omega))
 obtain ⟨⟨a, c, rfl, hlc, hcell⟩, _⟩ := hl
 have HG := Z9 hg
 clear hg gY hcell
 by_cases h60 : (l.length : Int) <= 60
 ·go_in
  go_wp2_with fail; refine HC.out.mono ?_; rintro e w2 ⟨b, rfl, hg2, hn⟩; have HR2 : Hid (∃ b' : Bool, b' = (!b) /\ Below w.heap.size w w2 /\ (b' = true -> Fit l)) := ⟨_, rfl, (ZX HG.out (Nat.le_refl _) (by nofun)).trans (ZX hg2 (by simp) (fun q hq => by cases hq; exact Nat.le_refl _)), fun h => by
   obtain ⟨h1, h2⟩ := hn (by simpa using h); exact ⟨by omega, by omega, h2⟩⟩
  clear hg2 hn; go_wp2; go_ret; obtain ⟨b', hb, h⟩ := HR2.out; exact ⟨b', by rw [hb]; rfl, h⟩
 ·go_in
  go_wp2; go_ret; exact .inl ⟨rfl, ZX HG.out (Nat.le_refl _) (by nofun)⟩
end Go.Proofs.YtbcfdebdikgijaaGreatDoor
namespace Go.Proofs.YtbcfdebdikgijaaGreatDoor
open Go Go.RowKit Go.ChangeShapes Go.WideShapes
theorem J3 {α : Type} [Inhabited α] (f : α -> List Value) (s : Nat) (hf : ∀ a, (f a).length = s) : ∀ (l : List α) (i r : Nat), i < l.length -> r < s -> (l.flatMap f).getD (i * s + r) undef = (f (l.getD i default)).getD r undef
 | [], i, r, h, _ => by simp at h
 | x :: l, 0, r, _, hr => by
   simp only [List.flatMap_cons, Nat.zero_mul, Nat.zero_add, List.getD_eq_getElem?_getD]; rw [List.getElem?_append_left (by rw [hf]; exact hr)]; simp
 | x :: l, i + 1, r, h, hr => by
   have ih := J3 f s hf l i r (by simpa using h) hr; have e : (i + 1) * s + r - s = i * s + r := by rw [Nat.succ_mul]; omega
   have e2 : s <= (i + 1) * s + r := by rw [Nat.succ_mul]; omega
   simp only [List.flatMap_cons, List.getD_eq_getElem?_getD] at ih ⊢; rw [List.getElem?_append_right (by rw [hf]; exact e2), hf, e]; simpa using ih
theorem Na {α : Type} (f : α -> List Value) (s : Nat) (hf : ∀ a, (f a).length = s) : ∀ (l : List α), (l.flatMap f).length = l.length * s
 | [] => by simp
 | x :: l => by rw [List.flatMap_cons, List.length_append, hf, Na f s hf l, List.length_cons, Nat.succ_mul]; omega
section
variable {H : Type} {enc : TypeId × Value -> H} {W : World} {sp : Nat -> Bool}
theorem DU {w : World} {a : Addr} {v : Value} (h : w.cell? a = some v) : a.spot = none := World.cell?_spot h
theorem Gx {α : Type} [Inhabited α] (f : α -> List Value) (Q : α -> Prop) (s : Nat) (hs : 0 < s) (hf : ∀ a, (f a).length = s) {t e : TypeId} (ht : Tryz.prog.underlying t = some (.slice e)) (hc : Tryz.prog.cellsOf e = s)
 {n : Nat} (hG : ∀ k, k < n -> ∀ cs x, DataW.trod enc Tryz.prog W 0 sp true k e cs = some x -> ∃ a, cs = f a /\ Q a) {cs : List Value} {x : DataW H × List MemPlace} (h : DataW.trod enc Tryz.prog W 0 sp true n t cs = some x) :
 ∃ (v : Value) (l : List α), cs = [v] /\ Uu W.heap.size W v l.length (l.flatMap f) /\ (∀ a ∈ l, Q a) /\ l.length <= maxLen := by
 rcases DataW.trod_slice ht h with ⟨rfl, _⟩ | ⟨a, len, cap, elems, rest, k, hnk, rfl, _, _, hl, hcm, hlen, hel, _, _⟩
 ·exact ⟨_, [], rfl, ⟨none, 0, rfl, Nat.le_refl _, fun h => by simp at h⟩, (fun a ha => by cases ha), Nat.zero_le _⟩
 ·have each : ∀ i, ∃ q : α, i < len -> (∀ r, r < s -> W.cell? ((a.add (i * s)).add r) = some ((f q).getD r undef)) /\ Q q := fun i => by
   by_cases hi : i < len
   ·have hx := hel i hi
    rw [List.getElem?_eq_getElem (by omega)] at hx; obtain ⟨cs', h1, h2⟩ := Option.bind_eq_some_iff.1 hx; rw [hc] at h1; obtain ⟨_, hlen', hcell⟩ := World.cells?_some h1; obtain ⟨q, rfl, hq⟩ := hG k (by omega) _ _ h2; refine ⟨q, fun _ => ⟨fun r hr => ?_, hq⟩⟩; rw [hcell r hr]; have : r < (f q).length := by rw [hf]; exact hr
    simp [List.getD, this]
   ·exact ⟨default, fun h => absurd h hi⟩
  obtain ⟨q, hq⟩ := Classical.axiomOfChoice each; have hl' : ((List.range len).map q).length = len := by simp
  refine ⟨_, (List.range len).map q, rfl, ⟨some a, cap, by rw [hl'], by omega, fun h0 => ?_⟩, fun z hz => ?_, by rw [hl']; omega⟩
  ·rw [hl'] at h0
   obtain ⟨b, off, spt⟩ := a; have e0 := (hq 0 h0).1 0 hs; have : spt = none := by simpa [Addr.add] using DU e0
   subst this; have hcl : ∀ j, j < len * s -> W.cell? ⟨b, off + j, none⟩ = some ((((List.range len).map q).flatMap f).getD j undef) := fun j hj => by
    have aI := Nat.div_add_mod j s; have hjs : j / s < len := by rw [Nat.div_lt_iff_lt_mul hs]; exact hj
    have hjr : j % s < s := Nat.mod_lt _ hs; have g := (hq (j / s) hjs).1 (j % s) hjr; have e : j = j / s * s + j % s := by rw [Nat.mul_comm] at aI; exact aI.symm
    have ea : (((⟨b, off, none⟩ : Addr).add (j / s * s)).add (j % s)) = ⟨b, off + j, none⟩ := by
     rw [Go.WideShapes.add_plain, Go.WideShapes.add_plain, Nat.add_assoc, <- e]
    rw [ea] at g; rw [g]
    conv => rhs; rw [e, J3 f s hf _ _ _ (by rw [hl']; exact hjs) hjr]
    simp [List.getD, hjs]
   refine ⟨b, off, rfl, ?_, fun j hj => hcl j (by rw [Na f s hf, hl'] at hj; exact hj)⟩; have := hcl 0 (Nat.mul_pos h0 hs); rcases Nat.lt_or_ge b W.heap.size with h' | h'
   ·exact h'
   ·simp [World.cell?, Array.getElem?_eq_none h'] at this
  ·obtain ⟨i, hi, rfl⟩ := List.mem_map.1 hz
   exact (hq i (by simpa using hi)).2
theorem OV {n : Nat} {cs : List Value} {x : DataW H × List MemPlace} (h : DataW.trod enc Tryz.prog W 0 sp true n 3 cs = some x) : ∃ k : Int, cs = [.int .i64 k] := by
 obtain ⟨k, rfl, _, _⟩ := DataW.trod_int Tryz.underlying3 h
 exact ⟨k, rfl⟩
theorem wH {n : Nat} {cs : List Value} {x : DataW H × List MemPlace} (h : DataW.trod enc Tryz.prog W 0 sp true n 9 cs = some x) : ∃ s : ByteArray, cs = [.string s] := by
 obtain ⟨k, rfl, _, _⟩ := DataW.trod_string Tryz.underlying9 h
 exact ⟨k, rfl⟩
theorem NI : Tryz.prog.cellsOf 3 = 1 := by kernel_rfl
theorem Jc : Tryz.prog.cellsOf 9 = 1 := by kernel_rfl
theorem DT : Tryz.prog.cellsOf 34 = 1 := by kernel_rfl
theorem NH : Tryz.prog.cellsOf 36 = 4 := by kernel_rfl
theorem LW : Tryz.prog.cellsOf 38 = 5 := by kernel_rfl
theorem RU {fs : Array Field} {t : TypeId} (ht : Tryz.prog.underlying t = some (.struct fs)) {n : Nat} {cs : List Value} {x : DataW H × List MemPlace} (h : DataW.trod enc Tryz.prog W 0 sp true n t cs = some x) (i o c : Nat) (f : Field) (hi : fs[i]? = some f) (ho : f.offset = o) (hc : Tryz.prog.cellsOf f.type = c) :
 ∃ m y, m < n /\ DataW.trod enc Tryz.prog W 0 sp true m f.type ((cs.drop o).take c) = some y := by
 obtain ⟨xs, m, hn, _, _, hxl, hf⟩ := DataW.trod_struct ht h
 have g := hf i f hi
 have hlt : i < fs.size := (Array.getElem?_eq_some_iff.1 hi).1
 rw [ho, hc, List.getElem?_eq_getElem (by omega)] at g
 exact ⟨m, _, by omega, g⟩
theorem wG {fs : Array Field} {t : TypeId} (ht : Tryz.prog.underlying t = some (.struct fs)) {n : Nat} {cs : List Value} {x : DataW H × List MemPlace} (h : DataW.trod enc Tryz.prog W 0 sp true n t cs = some x) : cs.length = Tryz.prog.cellsOf t := by
 obtain ⟨_, _, _, _, hl, _, _⟩ := DataW.trod_struct ht h
 exact hl
theorem wF (n : Nat) : ∀ (cs : List Value) (x : DataW H × List MemPlace), DataW.trod enc Tryz.prog W 0 sp true n 36 cs = some x -> ∃ e : Z0, cs = TK e /\ Y0 W.heap.size W e := by
 induction n using Nat.strongRecOn with
 | _ n ih =>
   intro cs x h; have hl := (wG Tryz.underlying36 h).trans NH; obtain ⟨_, _, _, g0⟩ := RU Tryz.underlying36 h 0 0 1 _ rfl rfl NI; obtain ⟨_, _, _, g1⟩ := RU Tryz.underlying36 h 1 1 1 _ rfl rfl NI; obtain ⟨_, _, _, g2⟩ := RU Tryz.underlying36 h 2 2 1 _ rfl rfl Jc; obtain ⟨m, _, hm, g3⟩ := RU Tryz.underlying36 h 3 3 1 _ rfl rfl DT
   match cs, hl with
   | [c0, c1, c2, c3], _ =>
     obtain ⟨k0, e0⟩ := OV g0; obtain ⟨k1, e1⟩ := OV g1; obtain ⟨s, e2⟩ := wH g2; obtain ⟨v, l, e3, hr, hq, hlm⟩ := Gx TK (Y0 W.heap.size W) 4 (by decide) (fun _ => rfl) Tryz.underlying34 NH (fun k hk => ih k (by omega)) g3; simp at e0 e1 e2 e3; subst e0 e1 e2 e3; exact ⟨.mk k0 k1 s c3 l, rfl, .mk hr hlm hq⟩
theorem zR (n : Nat) (cs : List Value) (x : DataW H × List MemPlace) (h : DataW.trod enc Tryz.prog W 0 sp true n 38 cs = some x) : ∃ f : ZJ, cs = OX f /\ Y0 W.heap.size W f.body := by
 have hl := (wG Tryz.underlying38 h).trans LW
 obtain ⟨_, _, _, g0⟩ := RU Tryz.underlying38 h 0 0 1 _ rfl rfl NI
 obtain ⟨_, _, _, g1⟩ := RU Tryz.underlying38 h 1 1 4 _ rfl rfl NH
 match cs, hl with
 | [c0, c1, c2, c3, c4], _ =>
   obtain ⟨k0, e0⟩ := OV g0; obtain ⟨e, e1, he⟩ := wF _ _ _ g1; simp [TK] at e0 e1; obtain ⟨h1, h2, h3, h4⟩ := e1; subst e0 h1 h2 h3 h4; exact ⟨⟨k0, e⟩, rfl, he⟩
theorem DR {n : Nat} {cs : List Value} {x : DataW H × List MemPlace} (h : DataW.trod enc Tryz.prog W 0 sp true n 22 cs = some x) : ∃ v l, cs = [v] /\ Xh W.heap.size W v l := by
 obtain ⟨v, l, hv, hr, hq, hm⟩ := Gx OX (fun f => Y0 W.heap.size W f.body) 5 (by decide) (fun _ => rfl) Tryz.underlying22 LW (fun k _ => zR k) h
 exact ⟨v, l, hv, hr, hm, hq⟩
end
end Go.Proofs.YtbcfdebdikgijaaGreatDoor
namespace Go.Proofs.YtbcfdebdikgijaaGreatDoor
open Go Go.RowKit
def SX (n : Int) : Bool := n == 10 || n == 11 || n == 12 || n == 14
theorem M9 (n : Int) (w : World) :
 Calls Tryz.prog 106 #[.int .i64 n] w fun e w' => e = .returned (.bool (SX n)) /\ w = w' := by
 go_in
 go_wp2
 all_goals
  go_ret; refine ⟨XT ?_, rfl⟩; simp [SX, *]
def WC (n : Int) : Int := if n = 6 \/ n = 11 \/ n = 13 \/ n = 14 then 1 else 2
theorem M8 (n : Int) (w : World) :
 Calls Tryz.prog 107 #[.int .i64 n] w fun e w' => e = .returned (.int .i64 (WC n)) /\ w = w' := by
 go_in
 go_wp2
 all_goals
  go_ret; refine ⟨Wi ?_, rfl⟩
  try simp only [beq_iff_eq, beq_eq_false_iff_ne, ne_eq] at *
  unfold WC
  repeat' split
  all_goals first | rfl | (exfalso; omega)
def Qf (a : Int) : Int := if a < -a then -a else a
def Yu (a b : Int) : Int := if a = 0 then 0 else if b = 0 then 0 else if wrap64 (Int.tdiv 4503599627370496 (Qf b)) < Qf a then 4503599627370497 else wrap64 (a * b)
theorem wE (b : Int) (h : 0 < b) : wrap64 (Int.tdiv 4503599627370496 b) = 4503599627370496 / b := by
 rw [Int.tdiv_eq_ediv_of_nonneg (by decide)]
 have h1 : (0 : Int) <= 4503599627370496 / b := Int.ediv_nonneg (by decide) (by omega)
 have h2 : (4503599627370496 : Int) / b <= 4503599627370496 := Int.ediv_le_self _ (by decide)
 unfold wrap64; omega
theorem wD (a b : Int) (w : World) (ha : -4503599627370496 <= a /\ a <= 4503599627370496) (hb : -4503599627370496 <= b /\ b <= 4503599627370496) (h1 : a < 0) (h2 : b < 0) :
 Calls Tryz.prog 119 #[.int .i64 a, .int .i64 b] w fun e w' => e = .returned (.int .i64 (Yu a b)) /\ w = w' := by
 have e1 : Hid (Yu a b = if wrap64 (Int.tdiv 4503599627370496 (-b)) < -a then 4503599627370497 else wrap64 (a * b)) := Z9 (by
  unfold Yu Qf; rw [Z7 (by omega), Z7 (by omega), ZY (show b < -b by omega), ZY (show a < -a by omega)])
 have ca : (a != 0) = true := by simp <;> omega
 have cb : (b != 0) = true := by simp <;> omega
 go_in
 go_wp2
 all_goals
  go_ret; refine ⟨Wi ?_, rfl⟩; rw [e1.out]
  try simp only [Int.tdiv_neg]
  first
   | (rw [if_pos ‹_›]; done)
   | (rw [Z7 (Int.not_lt.2 ‹_›)]; done)
theorem wC (a b : Int) (w : World) (ha : -4503599627370496 <= a /\ a <= 4503599627370496) (_hb : -4503599627370496 <= b /\ b <= 4503599627370496) (h1 : a < 0) (h2 : b = 0) :
 Calls Tryz.prog 119 #[.int .i64 a, .int .i64 b] w fun e w' => e = .returned (.int .i64 (Yu a b)) /\ w = w' := by
 have e1 : Hid (Yu a b = 0) := Z9 (by
  unfold Yu; rw [Z7 (by omega), ZY (by omega)])
 have ca : (a != 0) = true := by simp <;> omega
 have cb : (b != 0) = false := by simp <;> omega
 go_in
 go_wp2
 all_goals
  go_ret; refine ⟨Wi ?_, rfl⟩; rw [e1.out]
  try first | rfl | simp [h1] | simp [h2]
theorem wB (a b : Int) (w : World) (ha : -4503599627370496 <= a /\ a <= 4503599627370496) (hb : -4503599627370496 <= b /\ b <= 4503599627370496) (h1 : a < 0) (h2 : 0 < b) :
 Calls Tryz.prog 119 #[.int .i64 a, .int .i64 b] w fun e w' => e = .returned (.int .i64 (Yu a b)) /\ w = w' := by
 have e1 : Hid (Yu a b = if 4503599627370496 / b < -a then 4503599627370497 else wrap64 (a * b)) := Z9 (by
  unfold Yu Qf; rw [Z7 (by omega), Z7 (by omega), Z7 (show ¬ b < -b by omega), wE b h2, ZY (show a < -a by omega)])
 have ca : (a != 0) = true := by simp <;> omega
 have cb : (b != 0) = true := by simp <;> omega
 go_in
 go_wp2
 all_goals
  go_ret; refine ⟨Wi ?_, rfl⟩; rw [e1.out]
  try simp only [Int.tdiv_neg]
  first
   | (rw [if_pos ‹_›]; done)
   | (rw [Z7 (Int.not_lt.2 ‹_›)]; done)
theorem wz (a b : Int) (w : World) (_ha : -4503599627370496 <= a /\ a <= 4503599627370496) (hb : -4503599627370496 <= b /\ b <= 4503599627370496) (h1 : a = 0) (h2 : b < 0) :
 Calls Tryz.prog 119 #[.int .i64 a, .int .i64 b] w fun e w' => e = .returned (.int .i64 (Yu a b)) /\ w = w' := by
 have e1 : Hid (Yu a b = 0) := Z9 (by
  unfold Yu; rw [ZY (by omega)])
 have ca : (a != 0) = false := by simp <;> omega
 have cb : (b != 0) = true := by simp <;> omega
 go_in
 go_wp2
 all_goals
  go_ret; refine ⟨Wi ?_, rfl⟩; rw [e1.out]
  try first | rfl | simp [h1] | simp [h2]
theorem wu (a b : Int) (w : World) (_ha : -4503599627370496 <= a /\ a <= 4503599627370496) (_hb : -4503599627370496 <= b /\ b <= 4503599627370496) (h1 : a = 0) (h2 : b = 0) :
 Calls Tryz.prog 119 #[.int .i64 a, .int .i64 b] w fun e w' => e = .returned (.int .i64 (Yu a b)) /\ w = w' := by
 have e1 : Hid (Yu a b = 0) := Z9 (by
  unfold Yu; rw [ZY (by omega)])
 have ca : (a != 0) = false := by simp <;> omega
 have cb : (b != 0) = false := by simp <;> omega
 go_in
 go_wp2
 all_goals
  go_ret; refine ⟨Wi ?_, rfl⟩; rw [e1.out]
  try first | rfl | simp [h1] | simp [h2]
theorem wo (a b : Int) (w : World) (_ha : -4503599627370496 <= a /\ a <= 4503599627370496) (hb : -4503599627370496 <= b /\ b <= 4503599627370496) (h1 : a = 0) (h2 : 0 < b) :
 Calls Tryz.prog 119 #[.int .i64 a, .int .i64 b] w fun e w' => e = .returned (.int .i64 (Yu a b)) /\ w = w' := by
 have e1 : Hid (Yu a b = 0) := Z9 (by
  unfold Yu; rw [ZY (by omega)])
 have ca : (a != 0) = false := by simp <;> omega
 have cb : (b != 0) = true := by simp <;> omega
 go_in
 go_wp2
 all_goals
  go_ret; refine ⟨Wi ?_, rfl⟩; rw [e1.out]
  try first | rfl | simp [h1] | simp [h2]
theorem wh (a b : Int) (w : World) (ha : -4503599627370496 <= a /\ a <= 4503599627370496) (hb : -4503599627370496 <= b /\ b <= 4503599627370496) (h1 : 0 < a) (h2 : b < 0) :
 Calls Tryz.prog 119 #[.int .i64 a, .int .i64 b] w fun e w' => e = .returned (.int .i64 (Yu a b)) /\ w = w' := by
 have e1 : Hid (Yu a b = if wrap64 (Int.tdiv 4503599627370496 (-b)) < a then 4503599627370497 else wrap64 (a * b)) := Z9 (by
  unfold Yu Qf; rw [Z7 (by omega), Z7 (by omega), ZY (show b < -b by omega), Z7 (show ¬ a < -a by omega)])
 have ca : (a != 0) = true := by simp <;> omega
 have cb : (b != 0) = true := by simp <;> omega
 go_in
 go_wp2
 all_goals
  go_ret; refine ⟨Wi ?_, rfl⟩; rw [e1.out]
  try simp only [Int.tdiv_neg]
  first
   | (rw [if_pos ‹_›]; done)
   | (rw [Z7 (Int.not_lt.2 ‹_›)]; done)
theorem vZ (a b : Int) (w : World) (ha : -4503599627370496 <= a /\ a <= 4503599627370496) (_hb : -4503599627370496 <= b /\ b <= 4503599627370496) (h1 : 0 < a) (h2 : b = 0) :
 Calls Tryz.prog 119 #[.int .i64 a, .int .i64 b] w fun e w' => e = .returned (.int .i64 (Yu a b)) /\ w = w' := by
 have e1 : Hid (Yu a b = 0) := Z9 (by
  unfold Yu; rw [Z7 (by omega), ZY (by omega)])
 have ca : (a != 0) = true := by simp <;> omega
 have cb : (b != 0) = false := by simp <;> omega
 go_in
 go_wp2
 all_goals
  go_ret; refine ⟨Wi ?_, rfl⟩; rw [e1.out]
  try first | rfl | simp [h1] | simp [h2]
theorem vY (a b : Int) (w : World) (ha : -4503599627370496 <= a /\ a <= 4503599627370496) (hb : -4503599627370496 <= b /\ b <= 4503599627370496) (h1 : 0 < a) (h2 : 0 < b) :
 Calls Tryz.prog 119 #[.int .i64 a, .int .i64 b] w fun e w' => e = .returned (.int .i64 (Yu a b)) /\ w = w' := by
 have e1 : Hid (Yu a b = if 4503599627370496 / b < a then 4503599627370497 else wrap64 (a * b)) := Z9 (by
  unfold Yu Qf; rw [Z7 (by omega), Z7 (by omega), Z7 (show ¬ b < -b by omega), wE b h2, Z7 (show ¬ a < -a by omega)])
 have ca : (a != 0) = true := by simp <;> omega
 have cb : (b != 0) = true := by simp <;> omega
 go_in
 go_wp2
 all_goals
  go_ret; refine ⟨Wi ?_, rfl⟩; rw [e1.out]
  try simp only [Int.tdiv_neg]
  first
   | (rw [if_pos ‹_›]; done)
   | (rw [Z7 (Int.not_lt.2 ‹_›)]; done)
theorem Gw (a b : Int) (w : World) (ha : -4503599627370496 <= a /\ a <= 4503599627370496) (hb : -4503599627370496 <= b /\ b <= 4503599627370496) :
 Calls Tryz.prog 119 #[.int .i64 a, .int .i64 b] w fun e w' => e = .returned (.int .i64 (Yu a b)) /\ w = w' := by
 rcases Int.lt_trichotomy a 0 with h1 | h1 | h1 <;> rcases Int.lt_trichotomy b 0 with h2 | h2 | h2
 ·exact wD a b w ha hb h1 h2
 ·exact wC a b w ha hb h1 h2
 ·exact wB a b w ha hb h1 h2
 ·exact wz a b w ha hb h1 h2
 ·exact wu a b w ha hb h1 h2
 ·exact wo a b w ha hb h1 h2
 ·exact wh a b w ha hb h1 h2
 ·exact vZ a b w ha hb h1 h2
 ·exact vY a b w ha hb h1 h2
def ZB (op n : Int) (s : ByteArray) (l : Value) : Array Value :=
 #[.int .i64 op, .int .i64 n, .string s, .slice none 0 0, l, .int .i64 0, .int .i64 0, .string ⟨#[]⟩, .int .i64 0, .int .i64 0, .string ⟨#[]⟩, .slice none 0 0, .slice none 0 0, .slice none 0 0, .int .i64 0, .int .i64 0,
  .string ⟨#[]⟩, .slice none 0 0, .slice none 0 0, .slice none 0 0, .slice none 0 0, .slice none 0 0, .slice none 0 0, .slice none 0 0, .bool false]
theorem Zl : (Tryz.prog.info? 176).map (·.size) = some 25 := by kernel_rfl
theorem ZO (l : List Value) (h : l.all (·.oneCell') = true) : l.toArray.all (·.oneCell') = true := by rw [<- Array.all_toList]; exact h
theorem DN (w : World) :
 Calls Tryz.prog 124 #[] w fun e w' => e = .returned (.agg (ZB 3 0 ⟨#[]⟩ (.slice none 0 0))) /\ w.grownBy w' none := by
 have hg := Z8 w (.cells (ZB 3 0 ⟨#[]⟩ (.slice none 0 0)) 176)
 go_in
 go_wp2_with (refine Zc rfl 176 _ _ rfl w.heap.size _ rfl rfl 176 _ (Zn w _) Zl rfl (ZO _ rfl) ?_)
 rw [World.setRow_alloc_new]
 refine Y4 (YC rfl _ _ w.heap.size 176 _ (0, 0) _ rfl (Zn w _) Tryz.underlying176 rfl Zl) rfl ?_
 exact ⟨rfl, hg⟩
theorem ZF {w : World} {k : Nat} (h : w.heap.size = k) (o : Obj) : (w.alloc o).heap[k]? = some o := by subst h; exact Zn w o
theorem MI {w : World} {k : Nat} (h : w.heap.size = k) (c c' : Array Value) (t : TypeId) : (w.alloc (.cells c t)).setRow k c' = w.alloc (.cells c' t) := by subst h; exact World.setRow_alloc_new w c c' t
def ZM : Array Value := ZB 0 0 ⟨#[]⟩ (.slice none 0 0)
def st15 (e n : Int) : Array Value := #[.int .i64 0, .int .i64 0, .slice none 0 0, .int .i64 e, .int .i64 n]
theorem PU (sb : Nat) (e1 n1 : Int) (w : World) (hs : w.heap[sb]? = some (.cells (st15 0 0) 195 (0, 0))) :
 Calls Tryz.prog 120 #[.pointer (some ⟨sb, 0, none⟩), .int .i64 e1, .int .i64 n1] w fun e w' => e = .returned (.agg ZM) /\ w'.heap[sb]? = some (.cells (st15 e1 n1) 195 (0, 0)) /\ w.grownBy w' (some sb) := by
 have hlt := Z6 hs
 have hb : sb ≠ w.heap.size := by omega
 have q3 : w.cell? ⟨sb, 3, none⟩ = some (.int .i64 0) := by simp [World.cell?, hs, st15]
 have q4 : w.cell? ⟨sb, 4, none⟩ = some (.int .i64 0) := by simp [World.cell?, hs, st15]
 have f3 := Lib.frozen_of_heap hs 3
 have f4 := Lib.frozen_of_heap hs 4
 go_in
 go_wp2_with (refine Zc rfl 176 _ _ rfl w.heap.size _ rfl rfl 176 _ ?hp Zl rfl (ZO _ rfl) ?_)
 case hp => exact ZF (by simp) _
 rw [MI (by simp)]
 have g1 := both (Zv w sb 3 (.int .i64 e1)) (Zv _ sb 4 (.int .i64 n1))
 have h1 := heap_setCell_same w sb 3 _ _ (.int .i64 e1) hs
 have h2 := heap_setCell_same _ sb 4 _ _ (.int .i64 n1) h1
 refine Y4 (YC rfl _ _ w.heap.size 176 _ (0, 0) _ rfl (ZF (by simp) _) Tryz.underlying176 rfl Zl) rfl ?_
 refine ⟨rfl, ?_, both g1 (YA (Z8 _ _) _)⟩
 rw [(Z8 _ _).block _ (by simpa using hlt) (by nofun), h2]
 rfl
inductive R15
 | fail (c : Int)
 | num (n : Int)
 | txt (s : ByteArray)
 | bool (b : Bool)
def QU (sb : Nat) (r : R15) (w : World) (e : Ending) (w' : World) : Prop :=
 match r with
 | .fail c => e = .returned (.agg ZM) /\ w'.heap[sb]? = some (.cells (st15 2 c) 195 (0, 0)) /\ w.grownBy w' (some sb)
 | .num n => e = .returned (.agg (ZB 1 n ⟨#[]⟩ (.slice none 0 0))) /\ w.grownBy w' none
 | .txt s => e = .returned (.agg (ZB 2 0 s (.slice none 0 0))) /\ w.grownBy w' none
 | .bool b => ∃ q r : Nat, e = .returned (.agg (ZB 5 0 ⟨#[]⟩ (.slice (some ⟨q, 0, none⟩) 1 1))) /\ w.heap.size <= q /\ w.heap.size <= r /\ w.grownBy w' none /\
    w'.heap[q]? = some (.cells (ZB 4 0 (if b then ⟨#[84, 114, 117, 101]⟩ else ⟨#[70, 97, 108, 115, 101]⟩) (.slice (some ⟨r, 0, none⟩) 1 1)) 176 (0, 0)) /\ w'.heap[r]? = some (.cells (ZB 3 0 ⟨#[]⟩ (.slice none 0 0)) 176 (0, 0))
def WV (n : Int) : R15 := if 4503599627370496 < n then .fail 2 else if n < -4503599627370496 then .fail 2 else .num n
def VA (s : ByteArray) : R15 := if 16384 < s.size then .fail 2 else .txt s
theorem J2 (sb : Nat) (e1 n1 : Int) (w w1 : World) (hw : w1 = w.alloc (.cells ZM 176)) (hs : w.heap[sb]? = some (.cells (st15 0 0) 195 (0, 0))) :
 Calls Tryz.prog 120 #[.pointer (some ⟨sb, 0, none⟩), .int .i64 e1, .int .i64 n1] w1 fun e w' => e = .returned (.agg ZM) /\ w'.heap[sb]? = some (.cells (st15 e1 n1) 195 (0, 0)) /\ w.grownBy w' (some sb) /\ w'.heap[w.heap.size]? = some (.cells ZM 176 (0, 0)) := by
 subst hw
 have hlt := Z6 hs
 have gz := Z8 w (.cells ZM 176)
 refine (PU sb e1 n1 _ ((gz.block _ hlt (by nofun)).trans hs)).mono ?_
 rintro e w' ⟨he, h1, h2⟩
 refine ⟨he, h1, both (YA gz _) h2, ?_⟩
 have hlt2 : w.heap.size < (w.alloc (.cells ZM 176)).heap.size := Z6 (Zn w _)
 rw [h2.block _ hlt2 (fun e => by injection e with e; omega)]
 exact Zn w _
theorem Jb (sb : Nat) (n : Int) (w : World) (hs : w.heap[sb]? = some (.cells (st15 0 0) 195 (0, 0))) (hn : 4503599627370496 < n \/ n < -4503599627370496) :
 Calls Tryz.prog 118 #[.pointer (some ⟨sb, 0, none⟩), .int .i64 n] w (QU sb (WV n) w) := by
 have HS := J2 sb 2 2 w _ rfl hs
 have hr : WV n = .fail 2 := by
  unfold WV
  repeat' split
  all_goals first | rfl | (exfalso; omega)
 rw [hr]
 go_in
 go_wp2_with (first
  | (go_at_call 120; refine HS.mono ?_; rintro e w2 ⟨rfl, H1, H2, H3⟩)
  | (refine Zc rfl 176 _ _ rfl w.heap.size _ rfl rfl 176 _ H3 Zl rfl (ZO _ rfl) ?_))
 all_goals
  rw [Go.setRow_self w2 _ _ _ _ H3]; exact Y4 (YC rfl _ _ w.heap.size 176 _ (0, 0) _ rfl H3 Tryz.underlying176 rfl Zl) rfl ⟨rfl, H1, H2⟩
theorem LV (sb : Nat) (n : Int) (w : World) (h1 : n <= 4503599627370496) (h2 : -4503599627370496 <= n) :
 Calls Tryz.prog 118 #[.pointer (some ⟨sb, 0, none⟩), .int .i64 n] w (QU sb (WV n) w) := by
 have hr : WV n = .num n := by
  unfold WV; rw [Z7 (by omega), Z7 (by omega)]
 rw [hr]
 go_in
 go_wp2_with (refine Zc rfl 176 _ _ rfl w.heap.size _ rfl rfl 176 _ (Zn w _) Zl rfl (ZO _ rfl) ?_)
 rw [World.setRow_alloc_new]
 exact Y4 (YC rfl _ _ w.heap.size 176 _ (0, 0) _ rfl (Zn w _) Tryz.underlying176 rfl Zl) rfl ⟨rfl, Z8 w _⟩
theorem Wh (sb : Nat) (n : Int) (w : World) (hs : w.heap[sb]? = some (.cells (st15 0 0) 195 (0, 0))) :
 Calls Tryz.prog 118 #[.pointer (some ⟨sb, 0, none⟩), .int .i64 n] w (QU sb (WV n) w) := by
 by_cases h : 4503599627370496 < n \/ n < -4503599627370496
 ·exact Jb sb n w hs h
 ·exact LV sb n w (by omega) (by omega)
theorem DL (sb : Nat) (s : ByteArray) (w : World) (hs : w.heap[sb]? = some (.cells (st15 0 0) 195 (0, 0))) (hn : (16384 : Int) < (s.size : Int)) :
 Calls Tryz.prog 122 #[.pointer (some ⟨sb, 0, none⟩), .string s] w (QU sb (VA s) w) := by
 have HS := J2 sb 2 2 w _ rfl hs
 have hr : VA s = .fail 2 := by
  unfold VA; rw [ZY (by omega)]
 rw [hr]
 go_in
 go_wp2_with (first
  | (go_at_call 120; refine HS.mono ?_; rintro e w2 ⟨rfl, H1, H2, H3⟩)
  | (refine Zc rfl 176 _ _ rfl w.heap.size _ rfl rfl 176 _ H3 Zl rfl (ZO _ rfl) ?_))
 all_goals
  rw [Go.setRow_self w2 _ _ _ _ H3]; exact Y4 (YC rfl _ _ w.heap.size 176 _ (0, 0) _ rfl H3 Tryz.underlying176 rfl Zl) rfl ⟨rfl, H1, H2⟩
theorem Ja (sb : Nat) (s : ByteArray) (w : World) (hn : (s.size : Int) <= 16384) :
 Calls Tryz.prog 122 #[.pointer (some ⟨sb, 0, none⟩), .string s] w (QU sb (VA s) w) := by
 have hr : VA s = .txt s := by
  unfold VA; rw [Z7 (by omega)]
 rw [hr]
 go_in
 go_wp2_with (refine Zc rfl 176 _ _ rfl w.heap.size _ rfl rfl 176 _ (Zn w _) Zl rfl (ZO _ rfl) ?_)
 rw [World.setRow_alloc_new]
 exact Y4 (YC rfl _ _ w.heap.size 176 _ (0, 0) _ rfl (Zn w _) Tryz.underlying176 rfl Zl) rfl ⟨rfl, Z8 w _⟩
theorem LU (sb : Nat) (s : ByteArray) (w : World) (hs : w.heap[sb]? = some (.cells (st15 0 0) 195 (0, 0))) :
 Calls Tryz.prog 122 #[.pointer (some ⟨sb, 0, none⟩), .string s] w (QU sb (VA s) w) := by
 by_cases h : (16384 : Int) < (s.size : Int)
 ·exact DL sb s w hs h
 ·exact Ja sb s w (by omega)
theorem Bn : (Tryz.prog.info? 176).map (fun i => (i.size, i.zero.map (·.cells.size))) = some (25, some 25) := by kernel_rfl
theorem Gv {ops : Array Oper} {rest : List Oper} {o : Oper} {a : Act} {w : World} {Q : Exit -> Act -> World -> Prop} (hg : o.guard = none) (x : Operand) (ho : o.op = .buildSlice 165 1 #[(0, x)])
 (cs : Array Value) (hx : a.eval x = .agg cs) (hc : cs.size = 25)
 (h : wpList Tryz.prog ops Q rest (a.put o.dst (.slice (some ⟨w.heap.size, 0, none⟩) 1 1)) (w.alloc (.cells cs 176))) : wpList Tryz.prog ops Q (o :: rest) a w := by
 have hz := Bn
 cases hq : Tryz.prog.info? 176 with
 | none => rw [hq] at hz; simp at hz
 | some ie =>
   rw [hq] at hz; simp only [Option.map_some, Option.some.injEq, Prod.mk.injEq] at hz; obtain ⟨h1, h2⟩ := hz; cases hzz : ie.zero with
   | none => rw [hzz] at h2; simp at h2
   | some z =>
     refine wpList_buildSlice hg _ _ 1 _ ho cs ie z Tryz.underlying165 hq hzz (by rw [h1]; decide) (by rw [h1]; decide) ?_ h; have e : (Array.map (fun (x : Nat × Operand) => match x with | (i, x) => (i, a.eval x)) #[(0, x)]).toList = (([Value.agg cs].zipIdx 0).map fun x => (x.2, x.1)) := by
      simp [hx]
     rw [e, Great.fill_whole (by rw [h1]; decide) [Value.agg cs] _ (by simp [Value.cells, hc, h1]) (by simp)]; simp [Value.cells]
theorem ZQ {w w1 : World} (h : w.grownBy w1 none) {b : Nat} (hb : w.heap.size <= b) (cs : Array Value) : w.grownBy (w1.setRow b cs) none :=
 ⟨h.os, h.tape, h.output, by rw [setRow_size]; exact h.size, fun q hq _ => (WM w1 b q cs (by omega)).trans (h.block q hq (by nofun))⟩
theorem JZ (b : Bool) (sb : Nat) (w w2 : World) (s : ByteArray) (hs : s = if b then ⟨#[84, 114, 117, 101]⟩ else ⟨#[70, 97, 108, 115, 101]⟩) (H2 : (w.alloc (.cells ZM 176)).grownBy w2 none) :
 (((w2.alloc (.cells (ZB 3 0 ⟨#[]⟩ (.slice none 0 0)) 176)).alloc (.cells (ZB 4 0 s (.slice (some ⟨w2.heap.size, 0, none⟩) 1 1)) 176)).heap[w.heap.size]? = some (.cells ZM 176 (0, 0))) /\
 QU sb (.bool b) w (.returned (.agg (ZB 5 0 ⟨#[]⟩ (.slice (some ⟨w2.heap.size + 1, 0, none⟩) 1 1)))) (((w2.alloc (.cells (ZB 3 0 ⟨#[]⟩ (.slice none 0 0)) 176)).alloc (.cells (ZB 4 0 s (.slice (some ⟨w2.heap.size, 0, none⟩) 1 1)) 176)).setRow w.heap.size (ZB 5 0 ⟨#[]⟩ (.slice (some ⟨w2.heap.size + 1, 0, none⟩) 1 1))) := by
 have g0 := Z8 w (.cells ZM 176)
 have hz := Zn w (.cells ZM 176)
 have hlt : w.heap.size < (w.alloc (.cells ZM 176)).heap.size := Z6 hz
 have hlt2 : w.heap.size < w2.heap.size := Nat.lt_of_lt_of_le hlt H2.size
 have g1 := Z8 w2 (.cells (ZB 3 0 ⟨#[]⟩ (.slice none 0 0)) 176)
 have n1 := Zn w2 (.cells (ZB 3 0 ⟨#[]⟩ (.slice none 0 0)) 176)
 have e1 : (w2.alloc (.cells (ZB 3 0 ⟨#[]⟩ (.slice none 0 0)) 176)).heap.size = w2.heap.size + 1 := by simp
 generalize w2.alloc (.cells (ZB 3 0 ⟨#[]⟩ (.slice none 0 0)) 176) = w3 at *
 have g2 := Z8 w3 (.cells (ZB 4 0 s (.slice (some ⟨w2.heap.size, 0, none⟩) 1 1)) 176)
 have n2 := Zn w3 (.cells (ZB 4 0 s (.slice (some ⟨w2.heap.size, 0, none⟩) 1 1)) 176)
 generalize w3.alloc (.cells (ZB 4 0 s (.slice (some ⟨w2.heap.size, 0, none⟩) 1 1)) 176) = w4 at *
 have g4 := both g1 g2
 have hb : w4.heap[w.heap.size]? = some (.cells ZM 176 (0, 0)) := (g4.block _ hlt2 (by nofun)).trans ((H2.block _ hlt (by nofun)).trans hz)
 refine ⟨hb, w2.heap.size + 1, w2.heap.size, rfl, by omega, by omega, ZQ (both g0 (both H2 g4)) (Nat.le_refl _) _, ?_, ?_⟩
 ·rw [WM _ _ _ _ (by omega), <- e1, n2, hs]
 ·rw [WM _ _ _ _ (by omega), g2.block _ (by omega) (by nofun), n1]
theorem Sr (b : Bool) (sb : Nat) (w : World) :
 Calls Tryz.prog 121 #[.bool b] w (QU sb (.bool b) w) := by
 have HU := fun wx => DN wx
 go_in
 cases b
 ·go_wp2_with (first
   | (go_at_call 124; refine (HU _).mono ?_; rintro e w2 ⟨rfl, H2⟩; have HE := Z9 (JZ false sb w w2 _ rfl H2))
   | (refine Gv rfl _ rfl _ rfl rfl ?_)
   | (refine Zc rfl 176 _ _ rfl w.heap.size _ rfl rfl 176 ZM HE.out.1 Zl rfl (ZO _ rfl) ?_))
  exact Y4 (YC rfl _ _ w.heap.size 176 _ (0, 0) _ rfl (Zd _ _ _ _ _ _ HE.out.1) Tryz.underlying176 rfl Zl) rfl HE.out.2
 ·go_wp2_with (first
   | (go_at_call 124; refine (HU _).mono ?_; rintro e w2 ⟨rfl, H2⟩; have HE := Z9 (JZ true sb w w2 _ rfl H2))
   | (refine Gv rfl _ rfl _ rfl rfl ?_)
   | (refine Zc rfl 176 _ _ rfl w.heap.size _ rfl rfl 176 ZM HE.out.1 Zl rfl (ZO _ rfl) ?_))
  exact Y4 (YC rfl _ _ w.heap.size 176 _ (0, 0) _ rfl (Zd _ _ _ _ _ _ HE.out.1) Tryz.underlying176 rfl Zl) rfl HE.out.2
theorem Ud {w w1 : World} {x : Option Nat} (h : w.grownBy w1 x) {b : Nat} (hb : w.heap.size <= b) (cs : Array Value) : w.grownBy (w1.setRow b cs) x :=
 ⟨h.os, h.tape, h.output, by rw [setRow_size]; exact h.size, fun q hq hx => (WM w1 b q cs (by omega)).trans (h.block q hq hx)⟩
theorem Wd {sb : Nat} {r : R15} {w wx : World} {e : Ending} {w2 : World} (h : QU sb r wx e w2) (gx : (w.alloc (.cells ZM 176)).grownBy wx none) (hsb : sb < w.heap.size) :
 ∃ cs : Array Value, e = .returned (.agg cs) /\ cs.size = 25 /\ cs.all (·.oneCell') = true /\ w2.heap[w.heap.size]? = some (.cells ZM 176 (0, 0)) /\ QU sb r w (.returned (.agg cs)) (w2.setRow w.heap.size cs) := by
 have g0 := Z8 w (.cells ZM 176)
 have hz := Zn w (.cells ZM 176)
 have hlt : w.heap.size < (w.alloc (.cells ZM 176)).heap.size := Z6 hz
 have hx : wx.heap[w.heap.size]? = some (.cells ZM 176 (0, 0)) := (gx.block _ hlt (by nofun)).trans hz
 have hlx : w.heap.size < wx.heap.size := Z6 hx
 have gw := both g0 gx
 cases r with
 | fail c =>
   obtain ⟨he, h1, h2⟩ := h; refine ⟨ZM, he, rfl, ZO _ rfl, (h2.block _ hlx (fun e => by injection e with e; omega)).trans hx, rfl, ?_, Ud (both (YA gw _) h2) (Nat.le_refl _) _⟩; rw [WM _ _ _ _ (by omega)]; exact h1
 | num n =>
   obtain ⟨he, h2⟩ := h; exact ⟨_, he, rfl, ZO _ rfl, (h2.block _ hlx (by nofun)).trans hx, rfl, Ud (both gw h2) (Nat.le_refl _) _⟩
 | txt s =>
   obtain ⟨he, h2⟩ := h; exact ⟨_, he, rfl, ZO _ rfl, (h2.block _ hlx (by nofun)).trans hx, rfl, Ud (both gw h2) (Nat.le_refl _) _⟩
 | bool b =>
   obtain ⟨q, r, he, hq, hr, h2, h3, h4⟩ := h; refine ⟨_, he, rfl, ZO _ rfl, (h2.block _ hlx (by nofun)).trans hx, q, r, rfl, by omega, by omega, Ud (both gw h2) (Nat.le_refl _) _, ?_, ?_⟩
   ·rw [WM _ _ _ _ (by omega)]; exact h3
   ·rw [WM _ _ _ _ (by omega)]; exact h4
def Yz (op n : Int) (s : ByteArray) : List Value := (ZB op n s (.slice none 0 0)).toList
theorem SV {P : Program} {ops : Array Oper} {o : Oper} {a : Act} {w : World} {K : Act -> World -> Prop} {Q : Exit -> Act -> World -> Prop} {E : Prop}
 (hg : o.guard = none) (ty : TypeId) (x y : Operand) (ho : o.op = .store ty x y) (g : Nat) (cells : Array Value) (hx : a.eval x = .pointer (some ⟨g, 0, none⟩)) (hy : a.eval y = .agg cells)
 (t : TypeId) (old : Array Value) (h0 : w.heap[g]? = some (.cells old t (0, 0))) (hi : (P.info? ty).map (·.size) = some cells.size) (hold : old.size = cells.size) (h1 : cells.all (·.oneCell') = true)
 (h : K (a.put o.dst undef) (w.setRow g cells)) : if Region.wanted o (yielded ops a.tmps) = true then Oper.wp P o a w K Q else E := by
 have hw : Region.wanted o (yielded ops a.tmps) = true := by simp [Region.wanted, hg]
 rw [ZY hw]
 exact wp_store_row ty x y ho g cells hx hy t old h0 hi hold h1 h
theorem Z4 (w : World) : w.grownBy w.drew none := ⟨rfl, rfl, rfl, Nat.le_refl _, fun _ _ _ => rfl⟩
theorem Yr {w : World} {b o g : Nat} {cs : List Value} (h : w.rangeAt b o cs) (ne : b ≠ g) (new : Array Value) : (w.setRow g new).rangeAt b o cs := fun j v hv => (cell_setRow_other w g new ⟨b, o + j, none⟩ ne).trans (h j v hv)
theorem Gu (W : World) (p q : Nat) (hp : (p = W.heap.size /\ q = W.heap.size + 1) \/ (q = W.heap.size /\ p = W.heap.size + 1)) (A B : Array Value) (t : TypeId) :
 ((W.alloc (.cells ZM t)).alloc (.cells ZM t)).heap[p]? = some (.cells ZM t (0, 0)) /\ (((W.alloc (.cells ZM t)).alloc (.cells ZM t)).setRow p A).heap[q]? = some (.cells ZM t (0, 0)) /\
 ((((W.alloc (.cells ZM t)).alloc (.cells ZM t)).setRow p A).setRow q B).heap[p]? = some (.cells A t (0, 0)) /\ ((((W.alloc (.cells ZM t)).alloc (.cells ZM t)).setRow p A).setRow q B).heap[q]? = some (.cells B t (0, 0)) /\
 W.grownBy ((((W.alloc (.cells ZM t)).alloc (.cells ZM t)).setRow p A).setRow q B) none := by
 have n0 := Zn W (.cells ZM t)
 have g0 := Z8 W (.cells ZM t)
 have e0 : (W.alloc (.cells ZM t)).heap.size = W.heap.size + 1 := by simp
 generalize W.alloc (.cells ZM t) = W1 at *
 have n1 := Zn W1 (.cells ZM t)
 have g1 := Z8 W1 (.cells ZM t)
 generalize W1.alloc (.cells ZM t) = W2 at *
 have o0 : W2.heap[W.heap.size]? = some (.cells ZM t (0, 0)) := (g1.block _ (by omega) (by nofun)).trans n0
 have o1 : W2.heap[W.heap.size + 1]? = some (.cells ZM t (0, 0)) := by rw [<- e0]; exact n1
 have hP : W2.heap[p]? = some (.cells ZM t (0, 0)) := by
  rcases hp with ⟨e, _⟩ | ⟨_, e⟩ <;> rw [e] <;> assumption
 have hQ : W2.heap[q]? = some (.cells ZM t (0, 0)) := by
  rcases hp with ⟨_, e⟩ | ⟨e, _⟩ <;> rw [e] <;> assumption
 have ne : q ≠ p := by omega
 have hQ2 : (W2.setRow p A).heap[q]? = some (.cells ZM t (0, 0)) := (WM W2 p q A ne).trans hQ
 refine ⟨hP, hQ2, ?_, Zd _ _ _ _ _ _ hQ2, ZQ (ZQ (both g0 g1) (by omega) _) (by omega) _⟩
 rw [WM _ _ _ _ ne.symm]
 exact Zd _ _ _ _ _ _ hP
def Yo (n na nb : Int) (sa sB sh : ByteArray) : R15 :=
 if n = 1 then WV (na + nb) else if n = 2 then WV (na - nb) else if n = 3 then WV (Yu na nb)
 else if n = 4 then (if nb = 0 then .fail 3 else WV (wrap64 (Int.tdiv na nb))) else if n = 5 then (if nb = 0 then .fail 3 else WV (Int.tmod na nb))
 else if n = 6 then WV (-na) else if n = 7 then .bool (decide (na < nb)) else if n = 8 then .bool (decide (na <= nb)) else if n = 9 then .bool (na == nb)
 else if n = 10 then VA (sa ++ sB) else if n = 11 then WV sa.size else if n = 12 then .bool (sa.toList == sB.toList) else VA sh
theorem Bl (na nb : Int) (sa sB sh : ByteArray) : Yo 1 na nb sa sB sh = WV (na + nb) := by
 unfold Yo
 rw [ZY rfl]
theorem Bj (na nb : Int) (sa sB sh : ByteArray) : Yo 2 na nb sa sB sh = WV (na - nb) := by
 unfold Yo
 rw [Z7 (by decide), ZY rfl]
theorem Bh (na nb : Int) (sa sB sh : ByteArray) : Yo 3 na nb sa sB sh = WV (Yu na nb) := by
 unfold Yo
 rw [Z7 (by decide), Z7 (by decide), ZY rfl]
theorem Bg (na nb : Int) (sa sB sh : ByteArray) : Yo 6 na nb sa sB sh = WV (-na) := by
 unfold Yo
 rw [Z7 (by decide), Z7 (by decide), Z7 (by decide), Z7 (by decide), Z7 (by decide), ZY rfl]
theorem Gt (na nb : Int) (sa sB sh : ByteArray) : Yo 10 na nb sa sB sh = VA (sa ++ sB) := by
 unfold Yo
 rw [Z7 (by decide), Z7 (by decide), Z7 (by decide), Z7 (by decide), Z7 (by decide), Z7 (by decide), Z7 (by decide), Z7 (by decide), Z7 (by decide), ZY rfl]
theorem Gs (na nb : Int) (sa sB sh : ByteArray) : Yo 11 na nb sa sB sh = WV sa.size := by
 unfold Yo
 rw [Z7 (by decide), Z7 (by decide), Z7 (by decide), Z7 (by decide), Z7 (by decide), Z7 (by decide), Z7 (by decide), Z7 (by decide), Z7 (by decide), Z7 (by decide), ZY rfl]
theorem Gq (na nb : Int) (sa sB sh : ByteArray) : Yo 13 na nb sa sB sh = VA sh := by
 unfold Yo
 rw [Z7 (by decide), Z7 (by decide), Z7 (by decide), Z7 (by decide), Z7 (by decide), Z7 (by decide), Z7 (by decide), Z7 (by decide), Z7 (by decide), Z7 (by decide), Z7 (by decide), Z7 (by decide)]
end Go.Proofs.YtbcfdebdikgijaaGreatDoor

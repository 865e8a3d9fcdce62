/- Part of the proof; its texts: Ex2 Ey1 Ey2. -/
import Derived.Test.YtbcfdebdikgijaaGreatDoorS19
import Derived.Laws.BytesArg
import Derived.IntWalk
set_option maxRecDepth 100000
set_option linter.unusedVariables false
set_option linter.unusedSimpArgs false
set_option maxHeartbeats 2000000
namespace Go.Proofs.YtbcfdebdikgijaaGreatDoor
open Go Go.RowKit
def Ul : Nat -> Nat -> ByteArray
 | 0, _ => ⟨#[]⟩
 | f + 1, n => if n < 10 then strOfNums [48 + n] else Ul f (n / 10) ++ strOfNums [48 + ((n % 10 : Nat) : Int)]
theorem K9 (x : Int) : (strOfNums [x]).size = 1 := rfl
theorem Nv : ∀ (f n : Nat), (Ul f n).size <= f
 | 0, _ => Nat.le_refl _
 | f + 1, n => by
   rw [Ul]; split
   ·rw [K9]; omega
   ·rw [ByteArray.size_append, K9]; have := Nv f (n / 10); omega
theorem Oq (w : World) (b : Nat) (x : Int) (h : w.cell? ⟨b, 0, none⟩ = some (.int .u8 x)) :
 (convert 150 9 (.slice (some ⟨b, 0, none⟩) 1 1)).run Tryz.prog w = .ok (.string (strOfNums [x])) w :=
 run_convert_bytes_arg w _ _ Tryz.underlying150 Tryz.underlying5 b 0 1 1 [x] rfl (fun j hj => by
  have e : j = 0 := by omega
  subst e; exact h) _ Tryz.underlying9
theorem Mi (w : World) (x : Value) (t : TypeId) : (w.alloc (.cells #[x] t)).cell? ⟨w.heap.size, 0, none⟩ = some x := by
 simp [World.cell?, World.alloc, -World.alloc_eq]
theorem PZ (f n : Nat) (w : World) (h10 : (n : Int) < 10) :
 Calls Tryz.prog 127 #[.int .i64 (n : Int)] w fun e w' => e = .returned (.string (Ul (f + 1) n)) /\ w.grownBy w' none := by
 have hcv := Oq _ _ _ (Mi w (.int .u8 (48 + n)) 5)
 have hg := Z8 w (.cells #[.int .u8 (48 + n)] 5)
 have e1 : Hid (Ul (f + 1) n = strOfNums [48 + (n : Int)]) := Z9 (by rw [Ul, ZY (by omega)])
 go_in
 go_wp2
 go_ret
 exact ⟨by rw [e1.out]; rfl, hg⟩
theorem EZ (f : Nat) (hf : f <= 100) : ∀ (n : Nat) (w : World), n < 10 ^ (f + 1) -> n <= 4503599627370496 ->
 Calls Tryz.prog 127 #[.int .i64 (n : Int)] w fun e w' => e = .returned (.string (Ul (f + 1) n)) /\ w.grownBy w' none := by
 induction f with
 | zero =>
   intro n w h1 h2; exact PZ 0 n w (by simp at h1; omega)
 | succ f ih =>
   intro n w h1 h2; by_cases h10 : (n : Int) < 10
   ·exact PZ _ n w h10
   have h11 : ((n : Int) < 10) = False := eq_false h10; have HI : ∀ wx : World, Calls Tryz.prog 127 #[.int .i64 ((n : Int) / 10)] wx fun e w' => e = .returned (.string (Ul (f + 1) (n / 10))) /\ wx.grownBy w' none := fun wx => ih (by omega) (n / 10) wx (by have : 10 ^ (f + 1 + 1) = 10 ^ (f + 1) * 10 := rfl; omega) (by omega)
   have HI := Z9 HI; have e1 : Hid (Ul (f + 1 + 1) n = Ul (f + 1) (n / 10) ++ strOfNums [48 + (n : Int) % 10]) := Z9 (by rw [Ul, Z7 (by omega)]; rfl); have hsz : (Ul (f + 1) (n / 10)).size + (strOfNums [48 + (n : Int) % 10]).size <= 9223372036854775807 := by rw [K9]; have := Nv (f + 1) (n / 10); omega
   clear ih; have hn0 : (0 : Int) <= (n : Int) := by omega
   have hn1 : (n : Int) <= 4503599627370496 := by omega
   have hd0 : (0 : Int) <= (n : Int) / 10 := by omega
   have hd1 : (n : Int) / 10 <= 4503599627370496 := by omega
   have hm0 : (0 : Int) <= (n : Int) % 10 := by omega
   have hm1 : (n : Int) % 10 < 10 := by omega
   have hs : IntKind.i64.wrap (48 + (n : Int) % 10) = 48 + (n : Int) % 10 := by rw [IntKind.wrap_i64]; omega
   have h8 : IntKind.u8.wrap (48 + (n : Int) % 10) = 48 + (n : Int) % 10 := by rw [IntKind.wrap_u8]; omega
   go_in; go_wp2_with fail; refine XG (S := fun _ => True) (by kernel_rfl) trivial (fun hHeld => ?_); refine tks (b := ?_) (by kernel_rfl) (fun _ _ _ _ _ h => h) trivial 6 [0, 1, 3, 4, 5, 6] (by kernel_rfl) ?_ ?_; rotate_left
   ·refine yc (v := ?_) rfl rfl (by rfl) (fun w9 hSw => ?_) ?_; rotate_left; (focus go_simp; try rfl); simp only [Act.put, Zj, Zi, Zh]
    refine yc (v := .int .i64 ((n : Int) / 10)) rfl rfl (by rfl) (fun w9 hSw => by go_simp; rw [IntKind.wrap_i64]; omega) ?_; simp only [Act.put, Zj, Zi, Zh]; refine yc (v := ?_) rfl rfl (by rfl) (fun w9 hSw => ?_) ?_; rotate_left; (focus go_simp; try rfl); simp only [Act.put, Zj, Zi, Zh]; refine yc (v := .int .i64 ((n : Int) % 10)) rfl rfl (by rfl) (fun w9 hSw => by go_simp; rw [Int.tmod_eq_emod_of_nonneg hn0]) ?_; simp only [Act.put, Zj, Zi, Zh]
    iterate 2 (refine yc (v := ?_) rfl rfl (by rfl) (fun w9 hSw => ?_) ?_; rotate_left; (focus go_simp; try rfl); simp only [Act.put, Zj, Zi, Zh])
    exact rfl
   refine wpAnyH_ready (rs := [2, 7]) (by kernel_rfl) (by simp) (AllReadyH.cons (by rfl) (fun K hK => ?_) (AllReadyH.cons (by rfl) (fun K hK => ?_) AllReadyH.nil))
   ·go_simp
    refine (HI.out _).mono ?_; rintro e w2 ⟨rfl, hg2⟩; refine hK.out _ _ trivial (fun _ => ?_); clear hK K; refine rd1 7 (by kernel_rfl) rfl fun K hK => ?_
    have hcv := Oq _ _ _ (Mi w2 (.int .u8 (48 + (n : Int) % 10)) 5); have hgb := Z8 w2 (.cells #[.int .u8 (48 + (n : Int) % 10)] 5); go_simp; refine hK.out _ _ trivial (fun _ => ?_); clear hK K; refine rd1 8 (by kernel_rfl) rfl fun K hK => ?_
    go_simp; refine hK.out _ _ trivial (fun _ => ?_); clear hK K; refine tks (b := ?_) (by kernel_rfl) (fun _ _ _ _ _ h => h) trivial 2 [9, 10] (by kernel_rfl) ?_ ?_; rotate_left
    ·refine yc (v := .string (Ul (f + 1) (n / 10) ++ strOfNums [48 + (n : Int) % 10])) rfl rfl (by rfl) (fun w9 hSw => by go_simp) ?_
     simp only [Act.put, Zj, Zi, Zh]; refine yc (v := .string (Ul (f + 1) (n / 10) ++ strOfNums [48 + (n : Int) % 10])) rfl rfl (by rfl) (fun w9 hSw => by go_simp) ?_; simp only [Act.put, Zj, Zi, Zh]; exact rfl
    refine X3 (by kernel_rfl) ?_ _; go_wp2; go_ret; exact ⟨by rw [e1.out]; rfl, both (both (Z4 _) hg2) hgb⟩
   ·have hcv := Oq (w.alloc (.cells #[.int .u8 (48 + (n : Int) % 10)] 5)).drew w.heap.size _ (Mi w (.int .u8 (48 + (n : Int) % 10)) 5)
    have hgb := Z8 w.drew (.cells #[.int .u8 (48 + (n : Int) % 10)] 5); go_simp; refine hK.out _ _ trivial (fun _ => ?_); clear hK K; refine wpAnyH_ready (rs := [2, 8]) (by kernel_rfl) (by simp) (AllReadyH.cons (by rfl) (fun K hK => ?_) (AllReadyH.cons (by rfl) (fun K hK => ?_) AllReadyH.nil))
    ·go_simp
     refine (HI.out _).mono ?_; rintro e w2 ⟨rfl, hg2⟩; refine hK.out _ _ trivial (fun _ => ?_); clear hK K; have hcw := Oq w2 w.heap.size _ (cell_grown (Mi w.drew (.int .u8 (48 + (n : Int) % 10)) 5) hg2); refine rd1 8 (by kernel_rfl) rfl fun K hK => ?_
     go_simp; refine hK.out _ _ trivial (fun _ => ?_); clear hK K; refine tks (b := ?_) (by kernel_rfl) (fun _ _ _ _ _ h => h) trivial 2 [9, 10] (by kernel_rfl) ?_ ?_; rotate_left
     ·refine yc (v := .string (Ul (f + 1) (n / 10) ++ strOfNums [48 + (n : Int) % 10])) rfl rfl (by rfl) (fun w9 hSw => by go_simp) ?_
      simp only [Act.put, Zj, Zi, Zh]; refine yc (v := .string (Ul (f + 1) (n / 10) ++ strOfNums [48 + (n : Int) % 10])) rfl rfl (by rfl) (fun w9 hSw => by go_simp) ?_; simp only [Act.put, Zj, Zi, Zh]; exact rfl
     refine X3 (by kernel_rfl) ?_ _; go_wp2; go_ret; exact ⟨by rw [e1.out]; rfl, both (both (Z4 _) hgb) hg2⟩
    ·go_simp
     refine hK.out _ _ trivial (fun _ => ?_); clear hK K; refine rd1 2 (by kernel_rfl) rfl fun K hK => ?_
     go_simp; refine (HI.out _).mono ?_; rintro e w2 ⟨rfl, hg2⟩; refine hK.out _ _ trivial (fun _ => ?_); clear hK K; refine tks (b := ?_) (by kernel_rfl) (fun _ _ _ _ _ h => h) trivial 2 [9, 10] (by kernel_rfl) ?_ ?_; rotate_left
     ·refine yc (v := .string (Ul (f + 1) (n / 10) ++ strOfNums [48 + (n : Int) % 10])) rfl rfl (by rfl) (fun w9 hSw => by go_simp) ?_
      simp only [Act.put, Zj, Zi, Zh]; refine yc (v := .string (Ul (f + 1) (n / 10) ++ strOfNums [48 + (n : Int) % 10])) rfl rfl (by rfl) (fun w9 hSw => by go_simp) ?_; simp only [Act.put, Zj, Zi, Zh]; exact rfl
     refine X3 (by kernel_rfl) ?_ _; go_wp2; go_ret; exact ⟨by rw [e1.out]; rfl, both (both (Z4 _) hgb) hg2⟩
def Vy (n : Int) : ByteArray := if n < 0 then ⟨#[45]⟩ ++ Ul 17 n.natAbs else Ul 17 n.natAbs
theorem K8 (n : Int) (h1 : -4503599627370496 <= n) (h2 : n <= 4503599627370496) : Hid (∀ w, Calls Tryz.prog 123 #[.int .i64 n] w fun e w' => e = .returned (.string (Vy n)) /\ w.grownBy w' none) := by
 refine Z9 (fun w => ?_)
 have HD := fun wx => EZ 16 (by decide) n.natAbs wx (Nat.lt_of_le_of_lt (show n.natAbs <= 4503599627370496 by omega) (by decide)) (by omega)
 have hsz := Nv 17 n.natAbs
 by_cases h : n < 0
 ·have e1 : ((n.natAbs : Nat) : Int) = -n := by omega
  have e2 : Vy n = ⟨#[45]⟩ ++ Ul 17 n.natAbs := by unfold Vy; rw [ZY h]
  rw [e2]; rw [e1] at HD; have hz : (⟨#[45]⟩ : ByteArray).size + (Ul 17 n.natAbs).size <= 9223372036854775807 := by
   have : (⟨#[45]⟩ : ByteArray).size = 1 := rfl; omega
  have hw : IntKind.i64.wrap (-n) = -n := YJ _ (by omega) (by omega); clear e1 e2 hsz; generalize Ul 17 n.natAbs = d at *; go_in; go_wp2_with (go_at_call 127; refine (HD _).mono ?_; rintro e w2 ⟨rfl, hg2⟩); go_ret; exact ⟨rfl, hg2⟩
 ·have e1 : ((n.natAbs : Nat) : Int) = n := by omega
  have e2 : Vy n = Ul 17 n.natAbs := by unfold Vy; rw [Z7 h]
  rw [e2]; rw [e1] at HD; clear e1 e2 hsz; generalize Ul 17 n.natAbs = d at *; go_in; go_wp2_with (go_at_call 127; refine (HD _).mono ?_; rintro e w2 ⟨rfl, hg2⟩); go_ret; exact ⟨rfl, hg2⟩
def U8 (M : Nat -> Prop) (w : World) (v : Value) (len : Nat) (xs : List Value) : Prop :=
 ∃ (a : Option Addr) (c : Nat), v = .slice a len c /\ len <= c /\ (a = none -> len = 0 /\ c = 0) /\ (0 < len -> ∃ b off cur, a = some ⟨b, off, none⟩ /\ ¬ M b /\ w.heap[b]? = some (.cells cur 94 (0, 0)) /\ ∀ j, j < xs.length -> w.cell? ⟨b, off + j, none⟩ = some (xs.getD j undef))
def UK (M : Nat -> Prop) (w w' : World) : Prop := ∀ b cur, w.heap[b]? = some (.cells cur 94 (0, 0)) -> ¬ M b -> w'.heap[b]? = w.heap[b]?
theorem U8.kept {M : Nat -> Prop} {w w' : World} {v : Value} {n : Nat} {xs : List Value} (h : U8 M w v n xs) (k : UK M w w') : U8 M w' v n xs := by
 obtain ⟨a, c, hv, hlc, hn, hl⟩ := h
 refine ⟨a, c, hv, hlc, hn, fun hne => ?_⟩
 obtain ⟨b, off, cur, ha, hm, hb, hc⟩ := hl hne
 have e := k b cur hb hm
 exact ⟨b, off, cur, ha, hm, e.trans hb, fun j hj => by rw [<- hc j hj]; unfold World.cell?; rw [e]⟩
theorem U8.less {M M' : Nat -> Prop} {w : World} {v : Value} {n : Nat} {xs : List Value} (h : U8 M w v n xs) (k : ∀ b, M' b -> M b) : U8 M' w v n xs := by
 obtain ⟨a, c, hv, hlc, hn, hl⟩ := h
 refine ⟨a, c, hv, hlc, hn, fun hne => ?_⟩
 obtain ⟨b, off, cur, ha, hm, hb, hc⟩ := hl hne
 exact ⟨b, off, cur, ha, fun h => hm (k b h), hb, hc⟩
inductive R9 (M : Nat -> Prop) (w : World) : Z0 -> Prop
 | mk {op n : Int} {s : ByteArray} {lv : Value} {l : List Z0} : U8 M w lv l.length (ZR l) -> l.length <= maxLen -> (∀ y ∈ l, R9 M w y) -> R9 M w (.mk op n s lv l)
theorem R9.parts {M : Nat -> Prop} {w : World} {op n : Int} {s : ByteArray} {lv : Value} {l : List Z0} (h : R9 M w (.mk op n s lv l)) : U8 M w lv l.length (ZR l) /\ l.length <= maxLen /\ ∀ y ∈ l, R9 M w y := by
 cases h with
 | mk h1 h2 h3 => exact ⟨h1, h2, h3⟩
theorem R9.kept {M : Nat -> Prop} {w w' : World} {x : Z0} (h : R9 M w x) (k : UK M w w') : R9 M w' x := by
 induction h with
 | mk h1 h2 _ ih => exact .mk (h1.kept k) h2 ih
theorem R9.less {M M' : Nat -> Prop} {w : World} {x : Z0} (h : R9 M w x) (k : ∀ b, M' b -> M b) : R9 M' w x := by
 induction h with
 | mk h1 h2 _ ih => exact .mk (h1.less k) h2 ih
theorem ZG {M : Nat -> Prop} {w w' : World} (g : w.grownBy w' none) : UK M w w' := fun b _ hb _ => g.block b (Z6 hb) (by nofun)
theorem UK.trans {M : Nat -> Prop} {a b c : World} (h : UK M a b) (k : UK M b c) : UK M a c := fun q cur hq hm => (k q cur ((h q cur hq hm).trans hq) hm).trans (h q cur hq hm)
theorem EY (M : Nat -> Prop) (w : World) : U8 M w (.slice none 0 0) 0 [] := ⟨none, 0, rfl, Nat.le_refl _, fun _ => ⟨rfl, rfl⟩, fun h => by omega⟩
theorem Wp (M : Nat -> Prop) (w : World) (op n : Int) (s : ByteArray) : R9 M w (.mk op n s (.slice none 0 0) []) := .mk (EY M w) (Nat.zero_le _) (fun _ h => by cases h)
inductive ZT where
 | mk : Int -> Int -> ByteArray -> List ZT -> ZT
def ZT.op : ZT -> Int | .mk o _ _ _ => o
def ZT.n : ZT -> Int | .mk _ n _ _ => n
def ZT.s : ZT -> ByteArray | .mk _ _ s _ => s
def ZT.l : ZT -> List ZT | .mk _ _ _ l => l
instance : Inhabited ZT := ⟨.mk 0 0 ⟨#[]⟩ []⟩
mutual
def ZW : Z0 -> ZT
 | .mk op n s _ l => .mk op n s (stripL l)
def stripL : List Z0 -> List ZT
 | [] => []
 | x :: r => ZW x :: stripL r
end
theorem Y2 (op n : Int) (s : ByteArray) (v : Value) (l : List Z0) : ZW (.mk op n s v l) = .mk op n s (stripL l) := by rw [ZW]
theorem XZ (l : List Z0) : stripL l = l.map ZW := by
 induction l with
 | nil => rw [stripL]; rfl
 | cons x r ih => rw [stripL, ih]; rfl
theorem YF (x : Z0) : (ZW x).op = x.op := by cases x; rw [Y2]; rfl
theorem Uc (x : Z0) : (ZW x).n = x.n := by cases x; rw [Y2]; rfl
theorem Qn (x : Z0) : (ZW x).s = x.s := by cases x; rw [Y2]; rfl
theorem Ub (x : Z0) : (ZW x).l = x.l.map ZW := by cases x; rw [Y2, XZ]; rfl
structure Xc where
 steps : Int
 out : List ByteArray
 e : Int
 n : Int
def Im (fv tv : Value) (main fuel : Int) (st : Xc) (ov : Value) : Array Value := #[fv, tv, .int .i64 main, .int .i64 fuel, .int .i64 st.steps, ov, .int .i64 st.e, .int .i64 st.n]
structure MF (V : World) (sb : Nat) (fv tv : Value) (main fuel : Int) (st : Xc) (ov : Value) : Prop where
 blk : V.heap[sb]? = some (.cells (Im fv tv main fuel st ov) 91 (0, 0))
 own : V.ownsRow (sb + 1) 9 1 ov st.out.length (strCells st.out)
theorem MF.free {V V' : World} {sb : Nat} {fv tv : Value} {main fuel : Int} {st : Xc} {ov : Value} (h : MF V sb fv tv main fuel st ov) (hg : V.grownBy V' none) : MF V' sb fv tv main fuel st ov :=
 ⟨(hg.block sb (Z6 h.blk) (by nofun)).trans h.blk, Zx h.own hg (by nofun)⟩
theorem XP {V : World} {B : Nat} {e : TypeId} {s n : Nat} {v : Value} {xs : List Value} (h : V.ownsRow B e s v n xs) (g : Nat) (hg : v.ownBlock = some g) : ∃ cur, V.heap[g]? = some (.cells cur e (0, 0)) := by
 obtain ⟨_, ⟨rfl, _⟩ | ⟨g', cap, cur, rfl, _, hh, _⟩⟩ := h
 ·cases hg
 ·cases hg; exact ⟨cur, hh⟩
theorem MF.Aw {M : Nat -> Prop} {V V' : World} {sb : Nat} {fv tv : Value} {main fuel : Int} {st : Xc} {ov : Value} {r' : Option Nat} (h : MF V sb fv tv main fuel st ov) (g : Em sb V V' ov.ownBlock r') : UK M V V' := fun b cur hb _ => by
 refine g.kept b (Z6 hb) (fun e => ?_) (fun e => ?_)
 ·rw [e, h.blk] at hb
  have := (Obj.cells.inj (Option.some.inj hb)).2.1; exact absurd this (by decide)
 ·obtain ⟨cur', hc⟩ := XP h.own b e
  rw [hc] at hb; have := (Obj.cells.inj (Option.some.inj hb)).2.1; exact absurd this (by decide)
def YB (st : Xc) (e n : Int) : Xc := if st.e = 0 then { st with e := e, n := n } else st
def Zf : Array Value := #[.int .i64 0, .int .i64 0, .string ⟨#[]⟩, .slice none 0 0]
theorem YX : (Tryz.prog.info? 94).map (·.size) = some 4 := by kernel_rfl
theorem ZK {w : World} {q : Nat} {a b c d e f g h : Value} {t : TypeId} (hq : w.heap[q]? = some (.cells #[a, b, c, d, e, f, g, h] t (0, 0))) :
 w.cell? ⟨q, 0, none⟩ = some a /\ w.cell? ⟨q, 1, none⟩ = some b /\ w.cell? ⟨q, 2, none⟩ = some c /\ w.cell? ⟨q, 3, none⟩ = some d /\ w.cell? ⟨q, 4, none⟩ = some e /\ w.cell? ⟨q, 5, none⟩ = some f /\ w.cell? ⟨q, 6, none⟩ = some g /\ w.cell? ⟨q, 7, none⟩ = some h := by
 simp [World.cell?, hq]
theorem Ym (sb : Nat) (fv tv : Value) (main fuel : Int) (st : Xc) (ov : Value) (e1 n1 : Int) (V : World) (h : MF V sb fv tv main fuel st ov) :
 Calls Tryz.prog 63 #[.pointer (some ⟨sb, 0, none⟩), .int .i64 e1, .int .i64 n1] V fun e V' => e = .returned (.agg Zf) /\ MF V' sb fv tv main fuel (YB st e1 n1) ov /\ Em sb V V' ov.ownBlock ov.ownBlock := by
 obtain ⟨q0, q1, q2, q3, q4, q5, q6, q7⟩ := ZK h.blk
 have f6 := Lib.frozen_of_heap h.blk 6
 have f7 := Lib.frozen_of_heap h.blk 7
 have hlt := Z6 h.blk
 have H := Z9 h
 clear h
 go_in
 by_cases h0 : st.e = 0
 ·go_wp2_with fail
  have b1 := ZL (i := 6) H.out.blk (.int .i64 e1); have b2 := ZL (i := 7) b1 (.int .i64 n1); have g1 := (Em.set (wb := sb) V 6 (.int .i64 e1) ov.ownBlock).trans (Em.set _ 7 (.int .i64 n1) ov.ownBlock); have gS := both (Zv V sb 6 (.int .i64 e1)) (Zv _ sb 7 (.int .i64 n1)); have hown := Zx H.out.own gS (fun k hk e => by have := (Zw H.out.own _ e).1; cases hk; omega); have ga := Z8 ((V.setCell ⟨sb, 6, none⟩ (.int .i64 e1)).setCell ⟨sb, 7, none⟩ (.int .i64 n1)) (.cells Zf 94); have hsz : ((V.setCell ⟨sb, 6, none⟩ (.int .i64 e1)).setCell ⟨sb, 7, none⟩ (.int .i64 n1)).heap.size = V.heap.size := by simp
  refine Y4 (YC rfl _ _ V.heap.size 94 Zf (0, 0) _ rfl (ZF hsz _) Tryz.underlying94 rfl YX) rfl ⟨rfl, ⟨?_, ?_⟩, g1.trans (Em.free ga)⟩
  ·rw [YB, ZY h0]
   exact (ga.block sb (Z6 b2) (by nofun)).trans b2
  ·rw [YB, ZY h0]
   exact Zx hown ga (by nofun)
 ·go_wp2_with fail
  have ga := Z8 V (.cells Zf 94); refine Y4 (YC rfl _ _ V.heap.size 94 Zf (0, 0) _ rfl (Zn V _) Tryz.underlying94 rfl YX) rfl ⟨rfl, ?_, Em.free ga⟩; rw [YB, Z7 h0]; exact H.out.free ga
def Uk : Array Value := #[.int .i64 3, .int .i64 0, .string ⟨#[]⟩, .slice none 0 0]
theorem MZ (b : Bool) (V : World) :
 Calls Tryz.prog 92 #[.bool b] V fun e V' => ∃ q : Nat, e = .returned (.agg #[.int .i64 4, .int .i64 (if b then 1 else 0), .string ⟨#[]⟩, .slice (some ⟨q, 0, none⟩) 1 1]) /\ V.grownBy V' none /\ V.heap.size <= q /\
  V'.heap[q]? = some (.cells Uk 94 (0, 0)) := by
 cases b
 all_goals
  go_in; go_wp2_with fail; refine Y4 (YC rfl _ _ V.heap.size 94 _ (0, 0) _ rfl (((Z8 (V.alloc (.cells _ 94)) (.cells Uk 94)).block _ (Z6 (Zn V _)) (by nofun)).trans (Zn V _)) Tryz.underlying94 rfl YX) rfl ?_; exact ⟨V.heap.size + 1, rfl, both (Z8 _ _) (Z8 _ _), by omega, ZF (by simp) _⟩
theorem Vp {M : Nat -> Prop} {w : World} {v : Value} {l : List Z0} (h : U8 M w v l.length (ZR l)) (n : Nat) (hn : n < l.length) :
 ∃ b off c, v = .slice (some ⟨b, off, none⟩) l.length c /\ l.length <= c /\ ¬ M b /\ b < w.heap.size /\ w.cell? ⟨b, off + n * 4, none⟩ = some (.int .i64 (l.getD n default).op) /\ w.cell? ⟨b, off + n * 4 + 1, none⟩ = some (.int .i64 (l.getD n default).n) /\ w.cell? ⟨b, off + n * 4 + 2, none⟩ = some (.string (l.getD n default).s) /\ w.cell? ⟨b, off + n * 4 + 3, none⟩ = some (l.getD n default).lv := by
 obtain ⟨a, c, rfl, hlc, _, hcell⟩ := h
 obtain ⟨b, off, cur, rfl, hm, hb, hc⟩ := hcell (by omega)
 obtain ⟨c0, c1, c2, c3⟩ := TS l n hn
 have hlen := Zg l
 refine ⟨b, off, c, rfl, hlc, hm, Z6 hb, ?_, ?_, ?_, ?_⟩
 ·rw [hc (n * 4) (by omega), c0]
 ·rw [Nat.add_assoc, hc (n * 4 + 1) (by omega), c1]
 ·rw [Nat.add_assoc, hc (n * 4 + 2) (by omega), c2]
 ·rw [Nat.add_assoc, hc (n * 4 + 3) (by omega), c3]
inductive PQ
 | stuck
 | fail (c : Int)
 | val (v : ZT)
 | print (s : ByteArray)
def Km (x : ZT) : Bool := x.op == 1 || x.op == 2
def Rk (n : Int) : List ZT -> Bool
 | [a] => decide (a.op = Ye n) && (1 == WC n)
 | [a, b] => decide (a.op = Ye n) && decide (b.op = Ye n) && (2 == WC n)
 | _ => false
def Tv (x : ZT) : Bool := XQ x.op x.n x.s
def r15 (n : Int) : List ZT -> R15
 | [a] => Yo n a.n a.n a.s a.s (Vy a.n)
 | [a, b] => Yo n a.n b.n a.s b.s (Vy a.n)
 | _ => .fail 2
def Kl : R15 -> PQ
 | .fail c => .fail c
 | .num n => .val (.mk 1 n ⟨#[]⟩ [])
 | .txt s => .val (.mk 2 0 s [])
 | .bool b => .val (.mk 4 (if b then 1 else 0) ⟨#[]⟩ [.mk 3 0 ⟨#[]⟩ []])
def Yq (n : Int) (l : List ZT) : PQ :=
 if l.all Km = false then .stuck else if Rk n l = false then .stuck else if n = 14 then .print (l.headD default).s else if l.all Tv = false then .val default else Kl (r15 n l)
def Xk (st : Xc) : PQ -> ZT × Xc
 | .stuck => (default, YB st 4 0)
 | .fail c => (default, YB st 2 c)
 | .val v => (v, st)
 | .print s => if st.out.length = 1000 then (default, YB st 2 2) else (.mk 3 0 ⟨#[]⟩ [], { st with out := st.out ++ [s] })
def fl (l : List Z0) : List Value := l.flatMap fun x => Yz x.op x.n x.s
def ll (l : List Z0) : List Value := l.flatMap fun x => Xr x.op x.n x.s
theorem K7 {w : World} {b o : Nat} {xs ys : List Value} (h : w.rangeAt b o (xs ++ ys)) : w.rangeAt b o xs := fun j v hv => h j v (by
 rw [List.getElem?_append_left (List.getElem?_eq_some_iff.1 hv).1]; exact hv)
theorem MX {w : World} {b o : Nat} {xs ys : List Value} (h : w.rangeAt b o (xs ++ ys)) : w.rangeAt b (o + xs.length) ys := fun j v hv => by
 have := h (xs.length + j) v (by rw [List.getElem?_append_right (by omega), Nat.add_sub_cancel_left]; exact hv)
 rw [Nat.add_assoc]; exact this
theorem kW (x : Z0) : fl [x] = Yz x.op x.n x.s := by simp [fl]
theorem kV (x y : Z0) : fl [x, y] = Yz x.op x.n x.s ++ Yz y.op y.n y.s := by simp [fl]
theorem kU (x : Z0) : ll [x] = Xr x.op x.n x.s := by simp [ll]
theorem kT (x y : Z0) : ll [x, y] = Xr x.op x.n x.s ++ Xr y.op y.n y.s := by simp [ll]
theorem uq (n : Int) (l : List Z0) (hm : l.length = 1 \/ l.length = 2) (g cap : Nat) (wx : World) (hr : wx.rangeAt g 0 (fl l)) :
 Calls Tryz.prog 90 #[.int .i64 n, .slice (some ⟨g, 0, none⟩) l.length cap] wx fun e w' => e = .returned (.bool (Rk n (l.map ZW))) /\ wx = w' := by
 match l, hm with
 | [x], _ =>
   rw [kW] at hr; have e : Rk n ([x].map ZW) = (decide (x.op = Ye n) && (1 == WC n)) := by simp [Rk, YF]
   rw [e]; exact JY g cap n x.op wx (hr 0 _ rfl)
 | [x, y], _ =>
   rw [kV] at hr; have e : Rk n ([x, y].map ZW) = (decide (x.op = Ye n) && decide (y.op = Ye n) && (2 == WC n)) := by simp [Rk, YF]
   rw [e]; exact JX g cap n x.op y.op wx (K7 hr 0 _ rfl) (MX hr 0 _ rfl)
theorem yU (n : Int) (l : List Z0) (hm : l.length = 1 \/ l.length = 2) (hf : Rk n (l.map ZW) = true) (h1 : 1 <= n) (h2 : n <= 13) (g cap : Nat) (wx : World) (hr : wx.rangeAt g 0 (ll l)) (hc : l.length <= cap) :
 Calls Tryz.prog 91 #[.int .i64 n, .slice (some ⟨g, 0, none⟩) l.length cap] wx (uw ((l.map ZW).all Tv) (r15 n (l.map ZW)) wx) := by
 match l, hm with
 | [x], _ =>
   rw [kU] at hr; have e : Rk n ([x].map ZW) = (decide (x.op = Ye n) && (1 == WC n)) := by simp [Rk, YF]
   rw [e, Bool.and_eq_true, decide_eq_true_iff, beq_iff_eq] at hf; have e1 : ([x].map ZW).all Tv = XQ x.op x.n x.s := by simp [Tv, YF, Uc, Qn]
   have e2 : r15 n ([x].map ZW) = Yo n x.n x.n x.s x.s (Vy x.n) := by simp only [List.map_cons, List.map_nil, r15, Uc, Qn]
   rw [e1, e2]; exact Co g cap n x.op x.n x.s (Vy x.n) wx hr hc h1 h2 hf.1 hf.2 (fun a b => K8 _ a b)
 | [x, y], _ =>
   rw [kT] at hr; have e : Rk n ([x, y].map ZW) = (decide (x.op = Ye n) && decide (y.op = Ye n) && (2 == WC n)) := by simp [Rk, YF]
   rw [e, Bool.and_eq_true, Bool.and_eq_true, decide_eq_true_iff, decide_eq_true_iff, beq_iff_eq] at hf; have e1 : ([x, y].map ZW).all Tv = (XQ x.op x.n x.s && XQ y.op y.n y.s) := by simp [Tv, YF, Uc, Qn]
   have e2 : r15 n ([x, y].map ZW) = Yo n x.n y.n x.s y.s (Vy x.n) := by simp only [List.map_cons, List.map_nil, r15, Uc, Qn]
   rw [e1, e2]; have ha := K7 hr; have hb := MX hr; cases hva : XQ x.op x.n x.s
   ·exact E8 g cap n x.op x.n y.op y.n x.s y.s (Vy x.n) wx ha hb hc h1 h2 hf.1.1 hf.1.2 hf.2 hva
   ·cases hvb : XQ y.op y.n y.s
    ·exact E5 g cap n x.op x.n y.op y.n x.s y.s (Vy x.n) wx ha hb hc h1 h2 hf.1.1 hf.1.2 hf.2 hva hvb
    ·exact Cn g cap n x.op x.n y.op y.n x.s y.s (Vy x.n) wx ha hb hc h1 h2 hf.1.1 hf.1.2 hf.2 hva hvb (fun a b => K8 _ a b)
theorem Z5 {w : World} {a : Addr} {v : Value} (h : w.cell? a = some v) (o : Obj) : (w.alloc o).cell? a = some v := by
 rw [World.cell?_alloc_lt _ _ _ (World.block_lt_of_cell? w _ h)]; exact h
theorem uo {ops : Array Oper} {o : Oper} {a : Act} {K : Act -> World -> Prop} {w : World} {Q : Exit -> Act -> World -> Prop} {E : Prop} (hg : o.guard = none) (x : Operand) (ho : o.op = .buildSlice 165 1 #[(0, x)])
 (cs : Array Value) (hx : a.eval x = .agg cs) (hc : cs.size = 25)
 (h : K (a.put o.dst (.slice (some ⟨w.heap.size, 0, none⟩) 1 1)) (w.alloc (.cells cs 176))) :
 if Region.wanted o (yielded ops a.tmps) = true then Oper.wp Tryz.prog o a w K Q else E := by
 have hw : Region.wanted o (yielded ops a.tmps) = true := by simp [Region.wanted, hg]
 rw [ZY hw]
 have hz := Bn
 cases hq : Tryz.prog.info? 176 with
 | none => rw [hq] at hz; simp at hz
 | some ie =>
   rw [hq] at hz; simp only [Option.map_some, Option.some.injEq, Prod.mk.injEq] at hz; obtain ⟨h1, h2⟩ := hz; cases hzz : ie.zero with
   | none => rw [hzz] at h2; simp at h2
   | some z =>
     refine wp_buildSlice _ _ 1 _ ho cs ie z Tryz.underlying165 hq hzz (by rw [h1]; decide) (by rw [h1]; decide) ?_ h; have e : (Array.map (fun (x : Nat × Operand) => match x with | (i, x) => (i, a.eval x)) #[(0, x)]).toList = (([Value.agg cs].zipIdx 0).map fun x => (x.2, x.1)) := by
      simp [hx]
     rw [e, Great.fill_whole (by rw [h1]; decide) [Value.agg cs] _ (by simp [Value.cells, hc, h1]) (by simp)]; simp [Value.cells]
end Go.Proofs.YtbcfdebdikgijaaGreatDoor

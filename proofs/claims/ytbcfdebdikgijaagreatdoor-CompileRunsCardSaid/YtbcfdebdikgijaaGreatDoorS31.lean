/- Part of the proof; its texts: Rw7. -/
import Derived.Test.YtbcfdebdikgijaaGreatDoorS30
import Derived.Test.YtbcfdebdikgijaaGreatDoorS29
set_option maxRecDepth 100000
set_option linter.unusedVariables false
set_option linter.unusedSimpArgs false
set_option maxHeartbeats 1000000
namespace Go.Proofs.YtbcfdebdikgijaaGreatDoor
open Go Go.RowKit
def KM (mb : Nat) (fv : Value) (fe : Int) (st : Xa) (ov : Value) (s : ByteArray) (w w7 : World) (g : Nat) (nv : Value) : Prop := RZ w7 mb fv fe ⟨st.steps, st.out ++ [s]⟩ nv /\ nv.ownBlock = some g /\ Em mb w w7 ov.ownBlock (some g)
theorem KL {w w6 : World} {mb g cap : Nat} {fv ov : Value} {fe : Int} {st : Xa} {s : ByteArray} (hM : RZ w mb fv fe st ov) (hown : w6.ownsRow (mb + 1) 9 1 (.slice (some ⟨g, 0, none⟩) (st.out.length + 1) cap) (st.out.length + 1) (strCells st.out ++ [.string s])) (hgrow : (w.alloc (.cells #[.string s] 9)).drew.drew.grownBy w6 ov.ownBlock) (hat : ov.ownBlock = some g \/ g = (w.alloc (.cells #[.string s] 9)).drew.drew.heap.size) :
 w6.cell? ⟨mb, 3, none⟩ = some ov /\ w6.frozen? ⟨mb, 3, none⟩ = false /\ (∀ b, b < w.heap.size -> b ≠ mb -> ov.ownBlock ≠ some b -> w6.heap[b]? = w.heap[b]?) /\ KM mb fv fe st ov s w (w6.setCell ⟨mb, 3, none⟩ (.slice (some ⟨g, 0, none⟩) (st.out.length + 1) cap)) g (.slice (some ⟨g, 0, none⟩) (st.out.length + 1) cap) := by
 have hg3 := Z8 w (.cells #[.string s] 9)
 have DI := Z6 hM.blk
 have hown0 := Zw hM.own
 have h6 : ∀ b, b < w.heap.size -> ov.ownBlock ≠ some b -> w6.heap[b]? = w.heap[b]? := fun b hb hne => (hgrow.block b (by have := hg3.size; show b < (w.alloc (.cells #[.string s] 9)).heap.size; omega) (fun e => hne e.symm)).trans (hg3.block b hb (by nofun))
 have gW := (h6 mb DI (fun e => by have := (hown0 mb e).1; omega)).trans hM.blk
 have hE := ((Em.free (wb := mb) (r := ov.ownBlock) (both (both hg3 (Z4 _)) (Z4 _))).trans (Em.grown hgrow (r' := some g) (by
  rcases hat with e | e
  ·exact .inl e.symm
  ·exact .inr ⟨g, rfl, by omega⟩))).trans (Em.set w6 3 (.slice (some ⟨g, 0, none⟩) (st.out.length + 1) cap) (some g))
 refine ⟨(YV gW).2.2.2, Lib.frozen_of_heap gW 3, fun b hb _ hne => h6 b hb hne, ⟨ZL (i := 3) gW _, ?_⟩, rfl, hE⟩
 have hown5 : w6.ownsRow (mb + 1) 9 1 (.slice (some ⟨g, 0, none⟩) (st.out.length + 1) cap) (st.out ++ [s]).length (strCells (st.out ++ [s])) := by rw [VN, List.length_append]; exact hown
 exact Zx hown5 (Zv w6 mb 3 _) (fun k hk e => by cases hk; have := (Zw hown5 _ e).1; omega)
theorem MN {w w7 : World} {mb g : Nat} {fv ov nv : Value} {fe : Int} {st : Xa} {s : ByteArray} {M : Nat -> Prop} {p q : Prop} {r : Prop} (h : p /\ q /\ r /\ KM mb fv fe st ov s w w7 g nv) (hm : ∀ b, M b -> b < w.heap.size) : WG mb fv fe w ov (.ok (.mk 3 0 ⟨#[]⟩ []) ⟨st.steps, st.out ++ [s]⟩) (fun v y w' => Wx M w' y v) (.returned (.pointer (some ⟨w7.heap.size, 0, none⟩))) (w7.alloc (.cells (Y9 3 0 ⟨#[]⟩ (.slice none 0 0)) 83)) := by
 obtain ⟨_, _, _, h1, h2, h3⟩ := h
 have hg := Z8 w7 (.cells (Y9 3 0 ⟨#[]⟩ (.slice none 0 0)) 83)
 obtain ⟨y, hy, h4, _⟩ := RH w7 3 0 ⟨#[]⟩
 refine ⟨nv, by rw [h2]; exact h3.trans (Em.free hg), h1.free hg, y, hy, h4 M fun b hb => Nat.lt_of_lt_of_le (hm b hb) h3.size⟩
theorem KJ {mb g ab : Nat} {fv ov nv : Value} {fe : Int} {st : Xa} {s t : ByteArray} {w w6 w7 : World} {u : Value} (_h : KM mb fv fe st ov s w w7 g nv) (hw : w7 = w6.setCell ⟨mb, 3, none⟩ u) (hne : ab ≠ mb) (h6 : w6.cell? ⟨ab, 2, none⟩ = some (.string t)) : w7.cell? ⟨ab, 2, none⟩ = some (.string t) := by
 subst hw
 rw [World.cell?_setCell_far _ _ _ _ (Ne.symm hne)]; exact h6
theorem yj {M : Nat -> Prop} {mb lb lo c ab : Nat} {a : ZT} {UA : Value} {w : World} (T : One M w lb lo ab a UA) (ga : a.op = 2) {fv : Value} {fe : Int} {st : Xa} {ov : Value} (hM : RZ w mb fv fe st ov) (hout : st.out.length = 1000) :
 Calls Tryz.prog 89 #[.pointer (some ⟨mb, 0, none⟩), .int .i64 14, .slice (some ⟨lb, lo, none⟩) 1 c] w fun e w' => e = .panicked (Wn 2 2) /\ w.grownBy w' none := by
 obtain ⟨l0, ha, pa⟩ := T
 have TB := Yw pa ga (.inr rfl)
 obtain ⟨_, _, a2, _⟩ := YV ha
 have HM := Z9 hM
 obtain ⟨_, _, _, d3⟩ := hM.cells
 obtain ⟨oa, oc, rfl⟩ := Yg hM.own
 have aaP := Z9 hout
 have HMB := Z9 (Z6 hM.blk)
 have HHA := Z9 ha
 rw [hout] at d3
 clear pa hM hout ha a2
 go_enter Tryz.func89, Tryz.ntmps89
 go_wp2_with fail
 refine XL 2 ?_
 rw [Y3]
 go_wp2_with (go_at_call 87; refine TB.mono ?_; rintro e w' ⟨rfl, rfl⟩)
 rw [Y3]
 go_wp2_with fail
 go_region
 go_wp2_with (go_at_call 62; refine (Xz _ _ _).mono ?_; rintro e w' ⟨rfl, rfl⟩)
 exact ⟨rfl, rfl, Z4 _⟩
theorem yh {M : Nat -> Prop} {mb lb lo c ab : Nat} {a : ZT} {UA : Value} {w : World} (T : One M w lb lo ab a UA) (ga : a.op = 2) {fv : Value} {fe : Int} {st : Xa} {ov : Value} (hM : RZ w mb fv fe st ov) (hout : st.out.length < 1000) (hm : ∀ b, M b -> b < w.heap.size) :
 Calls Tryz.prog 89 #[.pointer (some ⟨mb, 0, none⟩), .int .i64 14, .slice (some ⟨lb, lo, none⟩) 1 c] w (WG mb fv fe w ov (.ok (.mk 3 0 ⟨#[]⟩ []) ⟨st.steps, st.out ++ [a.s]⟩) fun v y w' => Wx M w' y v) := by
 obtain ⟨l0, ha, pa⟩ := T
 have TB := Yw pa ga (.inr rfl)
 obtain ⟨_, _, a2, _⟩ := YV ha
 have HM := Z9 hM
 obtain ⟨_, _, _, d3⟩ := hM.cells
 obtain ⟨oa, oc, rfl⟩ := Yg hM.own
 have aaP := Z9 hout
 have HMB := Z9 (Z6 hM.blk)
 have HHA := Z9 ha
 have hne0 : (((st.out.length : Nat) : Int) == 1000) = false := by simp; omega
 have HMM := Z9 hm
 have hnm : ab ≠ mb := fun e => by rw [e, hM.blk] at ha; exact absurd (Obj.cells.inj (Option.some.inj ha)).2.1 (by decide)
 have hno : (Value.slice oa st.out.length oc).ownBlock ≠ some ab := fun e => by
  obtain ⟨c, hc⟩ := XP hM.own _ e; rw [ha] at hc; exact absurd (Obj.cells.inj (Option.some.inj hc)).2.1 (by decide)
 have nA := Z9 (And.intro (Z6 ha) (And.intro hnm hno))
 obtain ⟨is0, his, Qc, PK, Qb⟩ := info_parts S9
 generalize a.s = s at *
 have s0 : w.drew.drew.cell? ⟨ab, 2, none⟩ = some (.string s) := a2
 have s1 : (w.alloc (.cells #[.string s] 9)).drew.drew.cell? ⟨ab, 2, none⟩ = some (.string s) := Z5 a2 _
 have d3' : (w.alloc (.cells #[.string s] 9)).cell? ⟨mb, 3, none⟩ = some (.slice oa st.out.length oc) := Z5 d3 _
 have HOW : Hid ((w.alloc (.cells #[.string s] 9)).drew.drew.ownsRow (mb + 1) 9 1 (.slice oa st.out.length oc) st.out.length (strCells st.out)) := Z9 (Zx hM.own (both (both (Z8 w (.cells #[.string s] 9)) (Z4 _)) (Z4 _)) (by nofun))
 have Kr : Hid (st.out.length + 1 <= maxLen /\ (st.out.length + 1) * 16 <= 140737488355328 /\ mb + 1 <= (w.alloc (.cells #[.string s] 9)).drew.drew.heap.size) := Z9 (by have := HMB.out; have := (Z8 w (.cells #[.string s] 9)).size; refine ⟨by unfold maxLen; omega, by omega, ?_⟩; show mb + 1 <= (w.alloc (.cells #[.string s] 9)).heap.size; omega)
 clear pa hM hout ha hm hnm hno
 go_enter Tryz.func89, Tryz.ntmps89
 go_wp2_with fail
 refine XL 2 ?_
 rw [Y3]
 go_wp2_with (go_at_call 87; refine TB.mono ?_; rintro e w' ⟨rfl, rfl⟩)
 rw [Y3]
 go_wp2_with fail
 go_region
 go_wp2_with fail
 refine XG (S := (fun w9 => w9.cell? ⟨ab, 2, none⟩ = some (.string s))) (by kernel_rfl) s0 (fun hHeld => ?_)
 refine tks (b := ?_) (by kernel_rfl) (fun _ _ _ _ _ h => h) s0 8 [0, 1, 2, 3, 5, 6, 7, 8] (by kernel_rfl) ?_ ?_
 rotate_left
 ·iterate 8 (refine yc (v := ?_) rfl rfl (by rfl) (fun w9 hSw => ?_) ?_; rotate_left; (focus go_simp; try rfl); simp only [Act.put, Zj, Zi, Zh])
  exact rfl
 refine wpAnyH_ready (rs := [4, 9]) (by kernel_rfl) (by simp) (AllReadyH.cons (by rfl) (fun K hK => ?eF) (AllReadyH.cons (by rfl) (fun K hK => ?eD) (AllReadyH.nil)))
 case eF =>
  go_simp; refine hK.out _ _ s0 (fun _ => ?_); clear hK K; refine rd1 9 (by kernel_rfl) rfl fun K hK => ?_
  go_simp; refine hK.out _ _ s1 (fun _ => ?_); clear hK K; refine rd1 10 (by kernel_rfl) rfl fun K hK => ?_
  refine step_append_lies _ rfl (.tmp 199) (.tmp 204) 27 rfl (mb + 1) 9 is0 (.string ByteArray.empty) 1 16 Tryz.underlying27 his Qc PK Qb rfl (by decide) (.slice oa st.out.length oc) st.out.length (strCells st.out) (by simp [Act.eval]) HOW.out ⟨w.heap.size, 0, none⟩ 1 1 [.string s] (by simp [Act.eval]) rfl (World.news_of_block (cs := #[.string s]) (show _ = _ from ZV w _)) (fun u hu => by simp at hu; subst hu; rfl) (by decide) Kr.out.1 Kr.out.2.1 Kr.out.2.2 _ rfl ?_; intro g cap w6 hown6 Y6 Sz Ot; have HP := Z9 (KL HM.out hown6 Y6 Sz); have s6 : w6.cell? ⟨ab, 2, none⟩ = some (.string s) := (by unfold World.cell?; rw [HP.out.2.2.1 ab nA.out.1 nA.out.2.1 nA.out.2.2]; exact s0); have k6 := HP.out.1; have f6 := HP.out.2.1; have s7 := KJ HP.out.2.2.2 rfl nA.out.2.1 s6; clear hown6 Y6 Sz Ot; refine hK.out _ _ s6 (fun _ => ?_); clear hK K; refine tks (b := ?_) (by kernel_rfl) (fun _ _ _ _ _ h => h) s6 2 [11, 12] (by kernel_rfl) ?_ ?_; rotate_left
  ·iterate 2 (refine yc (v := ?_) rfl rfl (by rfl) (fun w9 hSw => ?_) ?_; rotate_left; (focus go_simp; try rfl); simp only [Act.put, Zj, Zi, Zh])
   exact rfl
  refine rd1 13 (by kernel_rfl) rfl fun K hK => ?_
  go_simp; refine hK.out _ _ s7 (fun _ => ?_); clear hK K; refine X3 (by kernel_rfl) ?_ _; generalize w6.setCell ⟨mb, 3, none⟩ (.slice (some ⟨g, 0, none⟩) (st.out.length + 1) cap) = w7 at *; go_wp2_with (go_at_call 31; refine (RG _).mono ?_; rintro e w8 ⟨rfl, rfl⟩); go_ret; exact MN HP.out HMM.out
 case eD =>
  go_simp; refine hK.out _ _ s1 (fun _ => ?_); clear hK K; refine rd1 4 (by kernel_rfl) rfl fun K hK => ?_
  go_simp; refine hK.out _ _ s1 (fun _ => ?_); clear hK K; refine rd1 10 (by kernel_rfl) rfl fun K hK => ?_
  refine step_append_lies _ rfl (.tmp 199) (.tmp 204) 27 rfl (mb + 1) 9 is0 (.string ByteArray.empty) 1 16 Tryz.underlying27 his Qc PK Qb rfl (by decide) (.slice oa st.out.length oc) st.out.length (strCells st.out) (by simp [Act.eval]) HOW.out ⟨w.heap.size, 0, none⟩ 1 1 [.string s] (by simp [Act.eval]) rfl (World.news_of_block (cs := #[.string s]) (show _ = _ from ZV w _)) (fun u hu => by simp at hu; subst hu; rfl) (by decide) Kr.out.1 Kr.out.2.1 Kr.out.2.2 _ rfl ?_; intro g cap w6 hown6 Y6 Sz Ot; have HP := Z9 (KL HM.out hown6 Y6 Sz); have s6 : w6.cell? ⟨ab, 2, none⟩ = some (.string s) := (by unfold World.cell?; rw [HP.out.2.2.1 ab nA.out.1 nA.out.2.1 nA.out.2.2]; exact s0); have k6 := HP.out.1; have f6 := HP.out.2.1; have s7 := KJ HP.out.2.2.2 rfl nA.out.2.1 s6; clear hown6 Y6 Sz Ot; refine hK.out _ _ s6 (fun _ => ?_); clear hK K; refine tks (b := ?_) (by kernel_rfl) (fun _ _ _ _ _ h => h) s6 2 [11, 12] (by kernel_rfl) ?_ ?_; rotate_left
  ·iterate 2 (refine yc (v := ?_) rfl rfl (by rfl) (fun w9 hSw => ?_) ?_; rotate_left; (focus go_simp; try rfl); simp only [Act.put, Zj, Zi, Zh])
   exact rfl
  refine rd1 13 (by kernel_rfl) rfl fun K hK => ?_
  go_simp; refine hK.out _ _ s7 (fun _ => ?_); clear hK K; refine X3 (by kernel_rfl) ?_ _; generalize w6.setCell ⟨mb, 3, none⟩ (.slice (some ⟨g, 0, none⟩) (st.out.length + 1) cap) = w7 at *; go_wp2_with (go_at_call 31; refine (RG _).mono ?_; rintro e w8 ⟨rfl, rfl⟩); go_ret; exact MN HP.out HMM.out
theorem KI (k : Nat)  : strOfNums [(k : Int)] = ⟨#[UInt8.ofNat k]⟩ := by
 simp [strOfNums]
theorem QB : ∀ (f u : Nat), u < 10 ^ f -> 0 < f -> (Ul f u).data.toList = Lib.decDigits u
 | 0, _, _, h => by omega
 | f + 1, u, h, _ => by
   rw [Ul, Lib.decDigits]; by_cases hu : u < 10
   ·rw [ZY hu, dif_pos hu]
    have := KI (48 + u); rw [show ((48 : Int) + (u : Int)) = ((48 + u : Nat) : Int) by omega, this]
   ·rw [Z7 hu, dif_neg hu]
    have h0 : 0 < f := by
     rcases Nat.eq_zero_or_pos f with e | e
     ·subst e; simp at h; omega
     ·exact e
    have ih := QB f (u / 10) (by rw [Nat.pow_succ] at h; omega) h0; have := KI (48 + u % 10); rw [show ((48 : Int) + ((u % 10 : Nat) : Int)) = ((48 + u % 10 : Nat) : Int) by omega, this, ByteArray.data_append, Array.toList_append, ih]
theorem yg (n : Int) (h1 : -4503599627370496 <= n) (h2 : n <= 4503599627370496) : (⟨(Lib.itoa n).toArray⟩ : ByteArray) = Vy n := by
 unfold Vy Lib.itoa
 by_cases h : n < 0
 ·rw [ZY h, ZY h, <- QB 17 n.natAbs (by omega) (by decide)]
  apply ByteArray.ext; simp
 ·rw [Z7 h, Z7 h, show n.toNat = n.natAbs by omega, <- QB 17 n.natAbs (by omega) (by decide)]
def Js (q : PQ) (st : Xa) : WR ZT :=
 match q with
 | .stuck => .stop 4 0 st
 | .fail c => .stop 2 c st
 | .val v => .ok v st
 | .print s => if st.out.length = 1000 then .stop 2 2 st else .ok (.mk 3 0 ⟨#[]⟩ []) ⟨st.steps, st.out ++ [s]⟩
theorem sI {M : Nat -> Prop} {w : World} {lv : Value} {a : ZT} (h : Q6 M w lv [a]) : ∃ lb lo c ab UA, lv = .slice (some ⟨lb, lo, none⟩) 1 c /\ One M w lb lo ab a UA := by
 obtain ⟨ps, hR, hl, hk⟩ := h
 have hl' : ps.length = 1 := hl
 obtain ⟨lb, lo, c, hv, _, c0⟩ := Sk hR 0 (by omega)
 have h0 := hk 0 (by simp)
 obtain ⟨ab, UA, _, e, hb, _⟩ := id h0.open
 rw [e] at c0 h0
 rw [hl'] at hv
 exact ⟨lb, lo, c, ab, UA, hv, c0, hb, h0⟩
theorem sH {M : Nat -> Prop} {w : World} {lv : Value} {a b : ZT} (h : Q6 M w lv [a, b]) : ∃ lb lo c ab bb UA Qj, lv = .slice (some ⟨lb, lo, none⟩) 2 c /\ Two M w lb lo ab bb a b UA Qj := by
 obtain ⟨ps, hR, hl, hk⟩ := h
 have hl' : ps.length = 2 := hl
 obtain ⟨lb, lo, c, hv, _, c0⟩ := Sk hR 0 (by omega)
 obtain ⟨lb', lo', c', hv', _, c1⟩ := Sk hR 1 (by omega)
 rw [hv] at hv'
 obtain ⟨e1, _, _⟩ := Value.slice.inj hv'
 obtain ⟨rfl, rfl, _⟩ := Addr.mk.inj (Option.some.inj e1)
 have h0 := hk 0 (by simp)
 have h1 := hk 1 (by simp)
 obtain ⟨ab, UA, _, e, hb, _⟩ := id h0.open
 obtain ⟨bb, Qj, _, e', hb', _⟩ := id h1.open
 rw [e] at c0 h0
 rw [e'] at c1 h1
 rw [hl'] at hv
 exact ⟨lb, lo, c, ab, bb, UA, Qj, hv, c0, c1, hb, hb', h0, h1⟩
theorem BO (n : Int) (h1 : -4503599627370496 <= n) (h2 : n <= 4503599627370496) (w : World) (ht : Pv w) : Calls Tryz.prog 105 #[.int .i64 n] w fun e w' => e = .returned (.string (Vy n)) /\ w.grownBy w' none := by
 refine (Tryz.strconv_Itoa n (by omega) (by omega) w ht).mono fun e w' ⟨he, k, os, hw⟩ => ⟨by rw [he, yg n h1 h2], ?_⟩
 rw [hw]
 refine ⟨rfl, rfl, rfl, ?_, fun b hb _ => ?_⟩
 ·show w.heap.size <= (w.heap ++ os).size
  rw [Array.size_append]; omega
 ·show (w.heap ++ os)[b]? = w.heap[b]?
  exact Array.getElem?_append_left hb
section
variable {M : Nat -> Prop} {P : Zz} {w : World} {fv : Value} {fe : Int} {st : Xa} {ov : Value} {mb : Nat}
theorem Ah (hM : RZ w mb fv fe st ov) (hm : ∀ b, M b -> b < w.heap.size) {q : PQ} {e : Ending} {w' : World} (h : XK q w e w') : WG mb fv fe w ov (Js q st) (fun v y w' => Wx M w' y v) e w' := by
 cases q with
 | stuck => exact h.1 ▸ Si hM h.2 4 0 _
 | fail c => exact h.1 ▸ Si hM h.2 2 c _
 | val v => exact jZ hM (Yb w none) hm h
 | print s => exact h.elim
theorem sG {n s : Int} (hM : RZ w mb fv fe st ov) (hm : ∀ b, M b -> b < w.heap.size) {a b : ZT} (hv : ∀ y ∈ [a, b], VG P y) {lv : Value} (hR : Q6 M w lv [a, b]) (hs : Ye n = s) (hn : WC n = 2) (h14 : n ≠ 14)
 (ba : ∀ {lb lo c ab bb : Nat} {UA Qj : Value}, Two M w lb lo ab bb a b UA Qj -> a.op ≠ s -> Pk mb n lb lo 2 c w (Fails 4 0 w)) (bo : ∀ {lb lo c ab bb : Nat} {UA Qj : Value}, Two M w lb lo ab bb a b UA Qj -> a.op = s -> b.op ≠ s -> Pk mb n lb lo 2 c w (Fails 4 0 w))
 (good : ∀ {lb lo c ab bb : Nat} {UA Qj : Value}, Two M w lb lo ab bb a b UA Qj -> a.op = s -> b.op = s -> VG P a -> VG P b -> Pk mb n lb lo 2 c w (XK (Kl (Yo n a.n b.n a.s b.s (Vy a.n))) w)) :
 Calls Tryz.prog 89 #[.pointer (some ⟨mb, 0, none⟩), .int .i64 n, lv] w (WG mb fv fe w ov (Sm n [a, b] st) fun v y w' => Wx M w' y v) := by
 obtain ⟨lb, lo, c, ab, bb, UA, Qj, rfl, T⟩ := sH hR
 have va := hv a (by simp)
 have vb := hv b (by simp)
 rw [show Sm n [a, b] st = Js (Yq n [a, b]) st from rfl, yA va vb hn h14, hs]
 by_cases ga : a.op = s
 ·rw [Z7 (show ¬ a.op ≠ s from fun h => h ga)]
  by_cases gb : b.op = s
  ·rw [Z7 (show ¬ b.op ≠ s from fun h => h gb)]
   exact (good T ga gb va vb).mono fun e w' h => Ah hM hm h
  ·rw [ZY gb]
   exact (bo T ga gb).mono fun e w' ⟨h1, h2⟩ => h1 ▸ Si hM h2 4 0 _
 ·rw [ZY ga]
  exact (ba T ga).mono fun e w' ⟨h1, h2⟩ => h1 ▸ Si hM h2 4 0 _
theorem En {n : Int} (hM : RZ w mb fv fe st ov) (hm : ∀ b, M b -> b < w.heap.size) {a b : ZT} (hv : ∀ y ∈ [a, b], VG P y) {lv : Value} (hR : Q6 M w lv [a, b]) (hs : Ye n = 1) (hn : WC n = 2) (n1 : ¬ n = 10) (n2 : ¬ n = 11) (n3 : ¬ n = 12) (n4 : ¬ n = 14)
 (good : ∀ {lb lo c ab bb : Nat} {UA Qj : Value}, Two M w lb lo ab bb a b UA Qj -> a.op = 1 -> b.op = 1 -> -4503599627370496 <= a.n /\ a.n <= 4503599627370496 -> -4503599627370496 <= b.n /\ b.n <= 4503599627370496 -> Pk mb n lb lo 2 c w (XK (Kl (Yo n a.n b.n a.s b.s (Vy a.n))) w)) :
 Calls Tryz.prog 89 #[.pointer (some ⟨mb, 0, none⟩), .int .i64 n, lv] w (WG mb fv fe w ov (Sm n [a, b] st) fun v y w' => Wx M w' y v) :=
 sG hM hm hv hR hs hn n4 (fun T => yx T n1 n2 n3 n4) (fun T => yw T n1 n2 n3 n4) fun T ga gb va vb => good T ga gb (va.num ga) (vb.num gb)
theorem sF {n s : Int} (hM : RZ w mb fv fe st ov) (hm : ∀ b, M b -> b < w.heap.size) {a : ZT} (hv : ∀ y ∈ [a], VG P y) {lv : Value} (hR : Q6 M w lv [a]) (hs : Ye n = s) (hn : WC n = 1) (h14 : n ≠ 14)
 (ba : ∀ {lb lo c ab : Nat} {UA : Value}, One M w lb lo ab a UA -> a.op ≠ s -> Pk mb n lb lo 1 c w (Fails 4 0 w))
 (good : ∀ {lb lo c ab : Nat} {UA : Value}, One M w lb lo ab a UA -> a.op = s -> VG P a -> Pk mb n lb lo 1 c w (XK (Kl (Yo n a.n a.n a.s a.s (Vy a.n))) w)) :
 Calls Tryz.prog 89 #[.pointer (some ⟨mb, 0, none⟩), .int .i64 n, lv] w (WG mb fv fe w ov (Sm n [a] st) fun v y w' => Wx M w' y v) := by
 obtain ⟨lb, lo, c, ab, UA, rfl, T⟩ := sI hR
 have va := hv a (by simp)
 rw [show Sm n [a] st = Js (Yq n [a]) st from rfl, Jt va hn, hs]
 by_cases ga : a.op = s
 ·rw [Z7 (show ¬ a.op ≠ s from fun h => h ga), Z7 h14]
  exact (good T ga va).mono fun e w' h => Ah hM hm h
 ·rw [ZY ga]
  exact (ba T ga).mono fun e w' ⟨h1, h2⟩ => h1 ▸ Si hM h2 4 0 _
theorem x9 (hM : RZ w mb fv fe st ov) (hm : ∀ b, M b -> b < w.heap.size) (ho : st.out.length <= 1000) {a : ZT} (va : VG P a) {lv : Value} (hR : Q6 M w lv [a]) : Calls Tryz.prog 89 #[.pointer (some ⟨mb, 0, none⟩), .int .i64 14, lv] w (WG mb fv fe w ov (Sm 14 [a] st) fun v y w' => Wx M w' y v) := by
 obtain ⟨lb, lo, c, ab, UA, rfl, T⟩ := sI hR
 rw [show Sm 14 [a] st = Js (Yq 14 [a]) st from rfl, Jt va (by decide), show Ye 14 = 2 by decide]
 by_cases ga : a.op = 2
 ·rw [Z7 (show ¬ a.op ≠ 2 from fun h => h ga), ZY rfl]
  by_cases hf : st.out.length = 1000
  ·rw [show Js (.print a.s) st = .stop 2 2 st from ZY hf]
   exact (yj T ga hM hf).mono fun e w' ⟨h1, h2⟩ => h1 ▸ Si hM h2 2 2 _
  ·rw [show Js (.print a.s) st = .ok (.mk 3 0 ⟨#[]⟩ []) ⟨st.steps, st.out ++ [a.s]⟩ from Z7 hf]
   exact yh T ga hM (by omega) hm
 ·rw [ZY ga]
  exact (yt T ga).mono fun e w' ⟨h1, h2⟩ => h1 ▸ Si hM h2 4 0 _
theorem xZ (hM : RZ w mb fv fe st ov) (hm : ∀ b, M b -> b < w.heap.size) (ho : st.out.length <= 1000) (hT : Pv w) {n : Int} {vs : List ZT} (hv : ∀ y ∈ vs, VG P y) (h1 : 1 <= n) (h2 : n <= 14) (hl : (vs.length : Int) = ZA n) {lv : Value} (hR : Q6 M w lv vs) :
 Calls Tryz.prog 89 #[.pointer (some ⟨mb, 0, none⟩), .int .i64 n, lv] w (WG mb fv fe w ov (Sm n vs st) fun v y w' => Wx M w' y v) := by
 have h2' : ∀ {k : Int}, ZA k = 2 -> n = k -> ∃ a b, vs = [a, b] := fun {k} h e => by
  subst e; rw [h] at hl; exact O8 (by omega)
 have h1' : ∀ {k : Int}, ZA k = 1 -> n = k -> ∃ a, vs = [a] := fun {k} h e => by
  subst e; rw [h] at hl; obtain ⟨a, r, rfl⟩ := Qx (show 1 <= vs.length by omega); rw [List.length_cons] at hl; exact ⟨a, by rw [List.eq_nil_of_length_eq_zero (show r.length = 0 by omega)]⟩
 rcases (show n = 1 \/ n = 2 \/ n = 3 \/ n = 4 \/ n = 5 \/ n = 6 \/ n = 7 \/ n = 8 \/ n = 9 \/ n = 10 \/ n = 11 \/ n = 12 \/ n = 13 \/ n = 14 by omega) with rfl | rfl | rfl | rfl | rfl | rfl | rfl | rfl | rfl | rfl | rfl | rfl | rfl | rfl
 ·obtain ⟨a, b, rfl⟩ := h2' (k := 1) (by decide) rfl
  exact En hM hm hv hR (by decide) (by decide) (by decide) (by decide) (by decide) (by decide) fun T ga gb ra rb => by rw [Bl]; exact oW T ga gb (YJ _ (by omega) (by omega)) (Vu _)
 ·obtain ⟨a, b, rfl⟩ := h2' (k := 2) (by decide) rfl
  exact En hM hm hv hR (by decide) (by decide) (by decide) (by decide) (by decide) (by decide) fun T ga gb ra rb => by rw [Bj]; exact oV T ga gb (YJ _ (by omega) (by omega)) (Vu _)
 ·obtain ⟨a, b, rfl⟩ := h2' (k := 3) (by decide) rfl
  exact En hM hm hv hR (by decide) (by decide) (by decide) (by decide) (by decide) (by decide) fun T ga gb ra rb => by rw [Bh]; exact oU T ga gb (Ic a.n b.n ra rb)
 ·obtain ⟨a, b, rfl⟩ := h2' (k := 4) (by decide) rfl
  refine En hM hm hv hR (by decide) (by decide) (by decide) (by decide) (by decide) (by decide) fun T ga gb ra rb => ?_
  rw [show Yo 4 a.n b.n a.s b.s (Vy a.n) = (if b.n = 0 then .fail 3 else WV (wrap64 (Int.tdiv a.n b.n))) from rfl]; by_cases hz : b.n = 0
  ·rw [ZY hz]
   exact sN T ga gb hz
  ·rw [Z7 hz]
   have hq : (Int.tdiv a.n b.n).natAbs <= 4503599627370496 := by rw [Int.natAbs_tdiv]; have : a.n.natAbs.div b.n.natAbs <= a.n.natAbs := Nat.div_le_self _ _; omega
   rw [show wrap64 (Int.tdiv a.n b.n) = Int.tdiv a.n b.n by generalize Int.tdiv a.n b.n = q at *; unfold wrap64; omega]; exact oQ T ga gb hz (YJ _ (by omega) (by omega)) (Vu _)
 ·obtain ⟨a, b, rfl⟩ := h2' (k := 5) (by decide) rfl
  refine En hM hm hv hR (by decide) (by decide) (by decide) (by decide) (by decide) (by decide) fun T ga gb ra rb => ?_
  rw [show Yo 5 a.n b.n a.s b.s (Vy a.n) = (if b.n = 0 then .fail 3 else WV (Int.tmod a.n b.n)) from rfl]; by_cases hz : b.n = 0
  ·rw [ZY hz]
   exact sM T ga gb hz
  ·rw [Z7 hz]
   exact oP T ga gb hz rfl (Vu _)
 ·obtain ⟨a, rfl⟩ := h1' (k := 6) (by decide) rfl
  exact sF hM hm hv hR rfl (by decide) (by decide) (fun T => Eo T (by decide) (by decide) (by decide) (by decide)) fun T ga va => by
   have ra := va.num ga; rw [Bg]; exact oL T ga (YJ _ (by omega) (by omega)) (Vu _)
 ·obtain ⟨a, b, rfl⟩ := h2' (k := 7) (by decide) rfl
  exact En hM hm hv hR (by decide) (by decide) (by decide) (by decide) (by decide) (by decide) fun T ga gb _ _ => oO T ga gb (Rf _)
 ·obtain ⟨a, b, rfl⟩ := h2' (k := 8) (by decide) rfl
  exact En hM hm hv hR (by decide) (by decide) (by decide) (by decide) (by decide) (by decide) fun T ga gb _ _ => oN T ga gb (Rf _)
 ·obtain ⟨a, b, rfl⟩ := h2' (k := 9) (by decide) rfl
  exact En hM hm hv hR (by decide) (by decide) (by decide) (by decide) (by decide) (by decide) fun T ga gb _ _ => oM T ga gb (Rf _)
 ·obtain ⟨a, b, rfl⟩ := h2' (k := 10) (by decide) rfl
  exact sG hM hm hv hR rfl (by decide) (by decide) (fun T => BS T) (fun T => BR T) fun T ga gb va vb => by
   have ra := va.txt ga; have rb := vb.txt gb; rw [Gt]; exact sO T ga gb (by omega) (JB _)
 ·obtain ⟨a, rfl⟩ := h1' (k := 11) (by decide) rfl
  exact sF hM hm hv hR rfl (by decide) (by decide) (fun T => yu T) fun T ga va => by rw [Gs]; exact sK T ga (Vu _)
 ·obtain ⟨a, b, rfl⟩ := h2' (k := 12) (by decide) rfl
  exact sG hM hm hv hR rfl (by decide) (by decide) (fun T => BQ T) (fun T => BP T) fun T ga gb _ _ => sP T ga gb (Rf _)
 ·obtain ⟨a, rfl⟩ := h1' (k := 13) (by decide) rfl
  exact sF hM hm hv hR rfl (by decide) (by decide) (fun T => Eo T (by decide) (by decide) (by decide) (by decide)) fun T ga va => by
   have ra := va.num ga; rw [Gq]; exact sJ T ga hT (fun wx ht => BO a.n ra.1 ra.2 wx ht) (JB _)
 ·obtain ⟨a, rfl⟩ := h1' (k := 14) (by decide) rfl
  exact x9 hM hm ho (hv a (by simp)) hR
end
end Go.Proofs.YtbcfdebdikgijaaGreatDoor

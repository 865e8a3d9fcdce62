/- Part of the proof; its texts: Rw5. -/
import Derived.Test.YtbcfdebdikgijaaGreatDoorS24
set_option maxRecDepth 100000
set_option linter.unusedVariables false
set_option linter.unusedSimpArgs false
set_option maxHeartbeats 1000000
namespace Go.Proofs.YtbcfdebdikgijaaGreatDoor
open Go Go.RowKit
theorem Ep (n : Int) : Ye n = 1 \/ Ye n = 2 := by unfold Ye; split <;> simp
theorem Jt {n : Int} {a : ZT} {P : Zz} (hv : VG P a) (hn : WC n = 1) : Yq n [a] = if a.op ≠ Ye n then .stuck else if n = 14 then .print a.s else Kl (Yo n a.n a.n a.s a.s (Vy a.n)) := by
 have hw := Ep n
 by_cases h : a.op = Ye n
 ·rw [Z7 (by simpa using h)]
  have h1 : [a].all Km = true := by simp [Km]; omega
  have h2 : Rk n [a] = true := by simp [Rk, h, hn]
  have h3 : [a].all Tv = true := by simp; exact hv.flat (by omega)
  unfold Yq; rw [Z7 (by rw [h1]; decide), Z7 (by rw [h2]; decide), Z7 (show ¬ [a].all Tv = false by rw [h3]; decide)]; rfl
 ·rw [ZY h]
  unfold Yq; split
  ·rfl
  ·rw [ZY (by simp [Rk, h])]
theorem yA {n : Int} {a b : ZT} {P : Zz} (hv : VG P a) (hu : VG P b) (hn : WC n = 2) (h14 : n ≠ 14) : Yq n [a, b] = if a.op ≠ Ye n then .stuck else if b.op ≠ Ye n then .stuck else Kl (Yo n a.n b.n a.s b.s (Vy a.n)) := by
 have hw := Ep n
 by_cases h : a.op = Ye n
 ·rw [Z7 (by simpa using h)]
  by_cases hb : b.op = Ye n
  ·rw [Z7 (by simpa using hb)]
   have h1 : [a, b].all Km = true := by simp [Km]; omega
   have h2 : Rk n [a, b] = true := by simp [Rk, h, hb, hn]
   have h3 : [a, b].all Tv = true := by simp; exact ⟨hv.flat (by omega), hu.flat (by omega)⟩
   unfold Yq; rw [Z7 (by rw [h1]; decide), Z7 (by rw [h2]; decide), Z7 h14, Z7 (show ¬ [a, b].all Tv = false by rw [h3]; decide)]; rfl
  ·rw [ZY hb]
   unfold Yq; split
   ·rfl
   ·rw [ZY (by simp [Rk, hb])]
 ·rw [ZY h]
  unfold Yq; split
  ·rfl
  ·rw [ZY (by simp [Rk, h])]
theorem VG.num {P : Zz} {v : ZT} (h : VG P v) (h1 : v.op = 1) : -4503599627370496 <= v.n /\ v.n <= 4503599627370496 := by
 have := h.flat (.inl h1)
 unfold Tv XQ at this
 rw [ZY h1] at this
 unfold OU at this
 simp at this
 omega
theorem VG.txt {P : Zz} {v : ZT} (h : VG P v) (h1 : v.op = 2) : v.s.size <= 16384 := by
 have := h.flat (.inr h1)
 unfold Tv XQ at this
 rw [Z7 (by omega)] at this
 unfold OT at this
 simp at this
 omega
theorem o9 {op : Int} (h : op = 1 \/ op = 2) : Ig op = op := by unfold Ig; rw [Z7 (by omega)]
theorem kg {op s : Int} (h : op ≠ s) (hs : s = 1 \/ s = 2) : Ig op ≠ s := by unfold Ig; split <;> omega
theorem Si {α : Type} {mb : Nat} {fv : Value} {fe : Int} {w w' : World} {ov : Value} {st : Xa} (hM : RZ w mb fv fe st ov) (hg : w.grownBy w' none) (o n : Int) (K : α -> Value -> World -> Prop) : WG mb fv fe w ov (.stop o n st : WR α) K (.panicked (Wn o n)) w' :=
 ⟨ov, Em.free hg, hM.free hg, rfl⟩
theorem jZ {mb : Nat} {fv : Value} {fe : Int} {w w1 w' : World} {ov : Value} {st : Xa} {v : ZT} {M : Nat -> Prop} {e : Ending} (hM : RZ w mb fv fe st ov) (hg : w.grownBy w1 none) (hm : ∀ b, M b -> b < w.heap.size) (h : EF w1 v e w') : WG mb fv fe w ov (.ok v st) (fun v y w' => Wx M w' y v) e w' := by
 obtain ⟨y, rfl, h1, h2⟩ := h
 have hg2 := both hg h2
 exact ⟨ov, Em.free hg2, hM.free hg2, y, rfl, h1 M fun b hb => Nat.lt_of_lt_of_le (hm b hb) hg.size⟩
structure Two (M : Nat -> Prop) (w : World) (lb lo ab bb : Nat) (a b : ZT) (UA Qj : Value) : Prop where
 l0 : w.cell? ⟨lb, lo, none⟩ = some (.pointer (some ⟨ab, 0, none⟩))
 l1 : w.cell? ⟨lb, lo + 1, none⟩ = some (.pointer (some ⟨bb, 0, none⟩))
 ha : w.heap[ab]? = some (.cells (Y9 a.op a.n a.s UA) 83 (0, 0))
 hb : w.heap[bb]? = some (.cells (Y9 b.op b.n b.s Qj) 83 (0, 0))
 pa : Wx M w (.pointer (some ⟨ab, 0, none⟩)) a
 pb : Wx M w (.pointer (some ⟨bb, 0, none⟩)) b
structure One (M : Nat -> Prop) (w : World) (lb lo ab : Nat) (a : ZT) (UA : Value) : Prop where
 l0 : w.cell? ⟨lb, lo, none⟩ = some (.pointer (some ⟨ab, 0, none⟩))
 ha : w.heap[ab]? = some (.cells (Y9 a.op a.n a.s UA) 83 (0, 0))
 pa : Wx M w (.pointer (some ⟨ab, 0, none⟩)) a
theorem oZ {w w1 w' : World} {v : ZT} {e : Ending} (hg : w.grownBy w1 none) (h : EF w1 v e w') : EF w v e w' := by
 obtain ⟨y, rfl, h1, h2⟩ := h
 exact ⟨y, rfl, fun M hM => h1 M fun b hb => Nat.lt_of_lt_of_le (hM b hb) hg.size, both hg h2⟩
theorem WZ {q : PQ} {wx w' : World} {e : Ending} (h : XK q wx e w') : ((∃ c, e = .panicked c) \/ ∃ y, e = .returned y) /\ wx.grownBy w' none /\ ∀ w, w.grownBy wx none -> XK q w e w' := by
 cases q with
 | stuck => exact ⟨.inl ⟨_, h.1⟩, h.2, fun w g => ⟨h.1, both g h.2⟩⟩
 | fail c => exact ⟨.inl ⟨_, h.1⟩, h.2, fun w g => ⟨h.1, both g h.2⟩⟩
 | val v => obtain ⟨y, e1, h1, h2⟩ := h; exact ⟨.inr ⟨y, e1⟩, h2, fun w g => oZ g ⟨y, e1, h1, h2⟩⟩
 | print s => exact h.elim
theorem Yw {M : Nat -> Prop} {w : World} {ab : Nat} {a : ZT} {s : Int} (pa : Wx M w (.pointer (some ⟨ab, 0, none⟩)) a) (h : a.op = s) (hs : s = 1 \/ s = 2) : Calls Tryz.prog 87 #[.pointer (some ⟨ab, 0, none⟩), .int .i64 s] w fun e w' => e = .returned (.pointer (some ⟨ab, 0, none⟩)) /\ w = w' :=
 (RD pa s).mono fun e w' ⟨h1, h2, _⟩ => ⟨h2 ((o9 (by omega)).trans h), h1⟩
theorem UG {M : Nat -> Prop} {w : World} {ab : Nat} {a : ZT} {s : Int} (pa : Wx M w (.pointer (some ⟨ab, 0, none⟩)) a) (h : a.op ≠ s) (hs : s = 1 \/ s = 2) : Calls Tryz.prog 87 #[.pointer (some ⟨ab, 0, none⟩), .int .i64 s] w fun e w' => e = .panicked (Wn 4 0) /\ w = w' :=
 (RD pa s).mono fun e w' ⟨h1, _, h2⟩ => ⟨h2 (kg h hs), h1⟩
abbrev Pk (mb : Nat) (n : Int) (lb lo k c : Nat) (w : World) (Q : Ending -> World -> Prop) : Prop := Calls Tryz.prog 89 #[.pointer (some ⟨mb, 0, none⟩), .int .i64 n, .slice (some ⟨lb, lo, none⟩) k c] w Q
abbrev Fails (o n : Int) (w : World) (e : Ending) (w' : World) : Prop := e = .panicked (Wn o n) /\ w.grownBy w' none
section
variable {M : Nat -> Prop} {mb lb lo c ab bb : Nat} {n : Int} {a b : ZT} {UA Qj : Value} {w : World}
theorem Eo (T : One M w lb lo ab a UA) (n1 : ¬ n = 10) (n2 : ¬ n = 11) (n3 : ¬ n = 12) (n4 : ¬ n = 14) (ga : a.op ≠ 1) :
 Pk mb n lb lo 1 c w (Fails 4 0 w) := by
 obtain ⟨l0, ha, pa⟩ := T
 have TB := UG pa ga (.inl rfl)
 go_enter Tryz.func89, Tryz.ntmps89
 go_wp2_with fail
 refine XL 1 ?_
 rw [Y3]
 go_wp2_with (go_at_call 87; refine TB.mono ?_; rintro e w' ⟨rfl, rfl⟩)
 exact ⟨rfl, rfl, Yb _ _⟩
theorem yx (T : Two M w lb lo ab bb a b UA Qj) (n1 : ¬ n = 10) (n2 : ¬ n = 11) (n3 : ¬ n = 12) (n4 : ¬ n = 14) (ga : a.op ≠ 1) :
 Pk mb n lb lo 2 c w (Fails 4 0 w) := by
 obtain ⟨l0, l1, ha, hb, pa, pb⟩ := T
 have TB := UG pa ga (.inl rfl)
 go_enter Tryz.func89, Tryz.ntmps89
 go_wp2_with fail
 refine XL 2 ?_
 rw [Y3]
 go_wp2_with (go_at_call 87; refine TB.mono ?_; rintro e w' ⟨rfl, rfl⟩)
 exact ⟨rfl, rfl, Yb _ _⟩
theorem yw (T : Two M w lb lo ab bb a b UA Qj) (n1 : ¬ n = 10) (n2 : ¬ n = 11) (n3 : ¬ n = 12) (n4 : ¬ n = 14) (ga : a.op = 1) (gb : b.op ≠ 1) :
 Pk mb n lb lo 2 c w (Fails 4 0 w) := by
 obtain ⟨l0, l1, ha, hb, pa, pb⟩ := T
 have TB := Yw pa ga (.inl rfl)
 have Oa := UG pb gb (.inl rfl)
 go_enter Tryz.func89, Tryz.ntmps89
 go_wp2_with fail
 refine XL 2 ?_
 rw [Y3]
 go_wp2_with (go_at_call 87; refine TB.mono ?_; rintro e w' ⟨rfl, rfl⟩)
 rw [Y3]
 go_wp2_with (go_at_call 87; refine Oa.mono ?_; rintro e w' ⟨rfl, rfl⟩)
 exact ⟨rfl, rfl, Yb _ _⟩
theorem BS (T : Two M w lb lo ab bb a b UA Qj) (ga : a.op ≠ 2) :
 Pk mb 10 lb lo 2 c w (Fails 4 0 w) := by
 obtain ⟨l0, l1, ha, hb, pa, pb⟩ := T
 have TB := UG pa ga (.inr rfl)
 go_enter Tryz.func89, Tryz.ntmps89
 go_wp2_with fail
 refine XL 2 ?_
 rw [Y3]
 go_wp2_with (go_at_call 87; refine TB.mono ?_; rintro e w' ⟨rfl, rfl⟩)
 exact ⟨rfl, rfl, Yb _ _⟩
theorem BR (T : Two M w lb lo ab bb a b UA Qj) (ga : a.op = 2) (gb : b.op ≠ 2) :
 Pk mb 10 lb lo 2 c w (Fails 4 0 w) := by
 obtain ⟨l0, l1, ha, hb, pa, pb⟩ := T
 have TB := Yw pa ga (.inr rfl)
 have Oa := UG pb gb (.inr rfl)
 go_enter Tryz.func89, Tryz.ntmps89
 go_wp2_with fail
 refine XL 2 ?_
 rw [Y3]
 go_wp2_with (go_at_call 87; refine TB.mono ?_; rintro e w' ⟨rfl, rfl⟩)
 rw [Y3]
 go_wp2_with (go_at_call 87; refine Oa.mono ?_; rintro e w' ⟨rfl, rfl⟩)
 exact ⟨rfl, rfl, Yb _ _⟩
theorem BQ (T : Two M w lb lo ab bb a b UA Qj) (ga : a.op ≠ 2) :
 Pk mb 12 lb lo 2 c w (Fails 4 0 w) := by
 obtain ⟨l0, l1, ha, hb, pa, pb⟩ := T
 have TB := UG pa ga (.inr rfl)
 go_enter Tryz.func89, Tryz.ntmps89
 go_wp2_with fail
 refine XL 2 ?_
 rw [Y3]
 go_wp2_with (go_at_call 87; refine TB.mono ?_; rintro e w' ⟨rfl, rfl⟩)
 exact ⟨rfl, rfl, Yb _ _⟩
theorem BP (T : Two M w lb lo ab bb a b UA Qj) (ga : a.op = 2) (gb : b.op ≠ 2) :
 Pk mb 12 lb lo 2 c w (Fails 4 0 w) := by
 obtain ⟨l0, l1, ha, hb, pa, pb⟩ := T
 have TB := Yw pa ga (.inr rfl)
 have Oa := UG pb gb (.inr rfl)
 go_enter Tryz.func89, Tryz.ntmps89
 go_wp2_with fail
 refine XL 2 ?_
 rw [Y3]
 go_wp2_with (go_at_call 87; refine TB.mono ?_; rintro e w' ⟨rfl, rfl⟩)
 rw [Y3]
 go_wp2_with (go_at_call 87; refine Oa.mono ?_; rintro e w' ⟨rfl, rfl⟩)
 exact ⟨rfl, rfl, Yb _ _⟩
theorem yu (T : One M w lb lo ab a UA) (ga : a.op ≠ 2) :
 Pk mb 11 lb lo 1 c w (Fails 4 0 w) := by
 obtain ⟨l0, ha, pa⟩ := T
 have TB := UG pa ga (.inr rfl)
 go_enter Tryz.func89, Tryz.ntmps89
 go_wp2_with fail
 refine XL 1 ?_
 rw [Y3]
 go_wp2_with (go_at_call 87; refine TB.mono ?_; rintro e w' ⟨rfl, rfl⟩)
 exact ⟨rfl, rfl, Yb _ _⟩
theorem yt (T : One M w lb lo ab a UA) (ga : a.op ≠ 2) :
 Pk mb 14 lb lo 1 c w (Fails 4 0 w) := by
 obtain ⟨l0, ha, pa⟩ := T
 have TB := UG pa ga (.inr rfl)
 go_enter Tryz.func89, Tryz.ntmps89
 go_wp2_with fail
 refine XL 1 ?_
 rw [Y3]
 go_wp2_with (go_at_call 87; refine TB.mono ?_; rintro e w' ⟨rfl, rfl⟩)
 exact ⟨rfl, rfl, Yb _ _⟩
theorem oW (T : Two M w lb lo ab bb a b UA Qj) {q : PQ} (ga : a.op = 1) (gb : b.op = 1) {x : Int} (hw : IntKind.i64.wrap (a.n + b.n) = x) (HN : ∀ wx, Calls Tryz.prog 101 #[.int .i64 x] wx (XK q wx)) :
 Pk mb 1 lb lo 2 c w (XK q w) := by
 obtain ⟨l0, l1, ha, hb, pa, pb⟩ := T
 have TB := Yw pa ga (.inl rfl)
 have Oa := Yw pb gb (.inl rfl)
 obtain ⟨_, a1, a2, _⟩ := YV ha
 obtain ⟨_, b1, b2, _⟩ := YV hb
 have s0 : w.drew.drew.cell? ⟨ab, 1, none⟩ = some (.int .i64 a.n) /\ w.drew.drew.cell? ⟨bb, 1, none⟩ = some (.int .i64 b.n) := ⟨a1, b1⟩
 clear pa pb ha hb a1 a2 b1 b2
 generalize a.n = na at *
 generalize b.n = nb at *
 go_enter Tryz.func89, Tryz.ntmps89
 go_wp2_with fail
 refine XL 3 ?_
 rw [Y3]
 go_wp2_with (go_at_call 87; refine TB.mono ?_; rintro e w' ⟨rfl, rfl⟩)
 rw [Y3]
 go_wp2_with (go_at_call 87; refine Oa.mono ?_; rintro e w' ⟨rfl, rfl⟩)
 rw [Y3]
 go_wp2_with fail
 go_region
 go_wp2_with fail
 refine XG (S := (fun w9 => w9.cell? ⟨ab, 1, none⟩ = some (.int .i64 na) /\ w9.cell? ⟨bb, 1, none⟩ = some (.int .i64 nb))) (by kernel_rfl) s0 (fun hHeld => ?_)
 refine tks (b := ?_) (by kernel_rfl) (fun _ _ _ _ _ h => h) s0 9 [0, 1, 2, 3, 4, 5, 6, 7, 8] (by kernel_rfl) ?_ ?_
 rotate_left
 ·iterate 9 (refine yc (v := ?_) rfl rfl (by rfl) (fun w9 hSw => ?_) ?_; rotate_left; (focus go_simp; try rfl); simp only [Act.put, Zj, Zi, Zh])
  exact rfl
 refine rd1 9 (by kernel_rfl) rfl fun K hK => ?_
 go_simp
 go_at_call 101
 refine (HN _).mono ?_
 rintro e w4 hA
 obtain ⟨he, h2, hA⟩ := WZ hA
 rcases he with ⟨k, rfl⟩ | ⟨y, rfl⟩
 ·exact ⟨rfl, hA w (both (Z4 w) (Z4 _))⟩
 have s4 : w4.cell? ⟨ab, 1, none⟩ = some (.int .i64 na) /\ w4.cell? ⟨bb, 1, none⟩ = some (.int .i64 nb) := ⟨cell_grown s0.1 h2, cell_grown s0.2 h2⟩
 refine hK.out _ _ s4 (fun _ => ?_)
 clear hK K
 refine tks (b := ?_) (by kernel_rfl) (fun _ _ _ _ _ h => h) s4 1 [10] (by kernel_rfl) ?_ ?_
 rotate_left
 ·refine yc (v := ?_) rfl rfl (by rfl) (fun w9 hSw => ?_) ?_; rotate_left; (focus go_simp; try rfl); simp only [Act.put, Zj, Zi, Zh]
  exact rfl
 refine X3 (by kernel_rfl) ?_ _
 go_wp2
 go_ret
 exact hA w (both (Z4 w) (Z4 _))
theorem oV (T : Two M w lb lo ab bb a b UA Qj) {q : PQ} (ga : a.op = 1) (gb : b.op = 1) {x : Int} (hw : IntKind.i64.wrap (a.n - b.n) = x) (HN : ∀ wx, Calls Tryz.prog 101 #[.int .i64 x] wx (XK q wx)) :
 Pk mb 2 lb lo 2 c w (XK q w) := by
 obtain ⟨l0, l1, ha, hb, pa, pb⟩ := T
 have TB := Yw pa ga (.inl rfl)
 have Oa := Yw pb gb (.inl rfl)
 obtain ⟨_, a1, a2, _⟩ := YV ha
 obtain ⟨_, b1, b2, _⟩ := YV hb
 have s0 : w.drew.drew.cell? ⟨ab, 1, none⟩ = some (.int .i64 a.n) /\ w.drew.drew.cell? ⟨bb, 1, none⟩ = some (.int .i64 b.n) := ⟨a1, b1⟩
 clear pa pb ha hb a1 a2 b1 b2
 generalize a.n = na at *
 generalize b.n = nb at *
 go_enter Tryz.func89, Tryz.ntmps89
 go_wp2_with fail
 refine XL 3 ?_
 rw [Y3]
 go_wp2_with (go_at_call 87; refine TB.mono ?_; rintro e w' ⟨rfl, rfl⟩)
 rw [Y3]
 go_wp2_with (go_at_call 87; refine Oa.mono ?_; rintro e w' ⟨rfl, rfl⟩)
 rw [Y3]
 go_wp2_with fail
 go_region
 go_wp2_with fail
 refine XG (S := (fun w9 => w9.cell? ⟨ab, 1, none⟩ = some (.int .i64 na) /\ w9.cell? ⟨bb, 1, none⟩ = some (.int .i64 nb))) (by kernel_rfl) s0 (fun hHeld => ?_)
 refine tks (b := ?_) (by kernel_rfl) (fun _ _ _ _ _ h => h) s0 9 [0, 1, 2, 3, 4, 5, 6, 7, 8] (by kernel_rfl) ?_ ?_
 rotate_left
 ·iterate 9 (refine yc (v := ?_) rfl rfl (by rfl) (fun w9 hSw => ?_) ?_; rotate_left; (focus go_simp; try rfl); simp only [Act.put, Zj, Zi, Zh])
  exact rfl
 refine rd1 9 (by kernel_rfl) rfl fun K hK => ?_
 go_simp
 go_at_call 101
 refine (HN _).mono ?_
 rintro e w4 hA
 obtain ⟨he, h2, hA⟩ := WZ hA
 rcases he with ⟨k, rfl⟩ | ⟨y, rfl⟩
 ·exact ⟨rfl, hA w (both (Z4 w) (Z4 _))⟩
 have s4 : w4.cell? ⟨ab, 1, none⟩ = some (.int .i64 na) /\ w4.cell? ⟨bb, 1, none⟩ = some (.int .i64 nb) := ⟨cell_grown s0.1 h2, cell_grown s0.2 h2⟩
 refine hK.out _ _ s4 (fun _ => ?_)
 clear hK K
 refine tks (b := ?_) (by kernel_rfl) (fun _ _ _ _ _ h => h) s4 1 [10] (by kernel_rfl) ?_ ?_
 rotate_left
 ·refine yc (v := ?_) rfl rfl (by rfl) (fun w9 hSw => ?_) ?_; rotate_left; (focus go_simp; try rfl); simp only [Act.put, Zj, Zi, Zh]
  exact rfl
 refine X3 (by kernel_rfl) ?_ _
 go_wp2
 go_ret
 exact hA w (both (Z4 w) (Z4 _))
theorem oU (T : Two M w lb lo ab bb a b UA Qj) {q : PQ} (ga : a.op = 1) (gb : b.op = 1)  (HN : ∀ wx, Calls Tryz.prog 102 #[.int .i64 a.n, .int .i64 b.n] wx (XK q wx)) :
 Pk mb 3 lb lo 2 c w (XK q w) := by
 obtain ⟨l0, l1, ha, hb, pa, pb⟩ := T
 have TB := Yw pa ga (.inl rfl)
 have Oa := Yw pb gb (.inl rfl)
 obtain ⟨_, a1, a2, _⟩ := YV ha
 obtain ⟨_, b1, b2, _⟩ := YV hb
 have s0 : w.drew.drew.cell? ⟨ab, 1, none⟩ = some (.int .i64 a.n) /\ w.drew.drew.cell? ⟨bb, 1, none⟩ = some (.int .i64 b.n) := ⟨a1, b1⟩
 clear pa pb ha hb a1 a2 b1 b2
 generalize a.n = na at *
 generalize b.n = nb at *
 go_enter Tryz.func89, Tryz.ntmps89
 go_wp2_with fail
 refine XL 3 ?_
 rw [Y3]
 go_wp2_with (go_at_call 87; refine TB.mono ?_; rintro e w' ⟨rfl, rfl⟩)
 rw [Y3]
 go_wp2_with (go_at_call 87; refine Oa.mono ?_; rintro e w' ⟨rfl, rfl⟩)
 rw [Y3]
 go_wp2_with fail
 go_region
 go_wp2_with fail
 refine XG (S := (fun w9 => w9.cell? ⟨ab, 1, none⟩ = some (.int .i64 na) /\ w9.cell? ⟨bb, 1, none⟩ = some (.int .i64 nb))) (by kernel_rfl) s0 (fun hHeld => ?_)
 refine tks (b := ?_) (by kernel_rfl) (fun _ _ _ _ _ h => h) s0 8 [0, 1, 2, 3, 4, 5, 6, 7] (by kernel_rfl) ?_ ?_
 rotate_left
 ·iterate 8 (refine yc (v := ?_) rfl rfl (by rfl) (fun w9 hSw => ?_) ?_; rotate_left; (focus go_simp; try rfl); simp only [Act.put, Zj, Zi, Zh])
  exact rfl
 refine rd1 8 (by kernel_rfl) rfl fun K hK => ?_
 go_simp
 go_at_call 102
 refine (HN _).mono ?_
 rintro e w4 hA
 obtain ⟨he, h2, hA⟩ := WZ hA
 rcases he with ⟨k, rfl⟩ | ⟨y, rfl⟩
 ·exact ⟨rfl, hA w (both (Z4 w) (Z4 _))⟩
 have s4 : w4.cell? ⟨ab, 1, none⟩ = some (.int .i64 na) /\ w4.cell? ⟨bb, 1, none⟩ = some (.int .i64 nb) := ⟨cell_grown s0.1 h2, cell_grown s0.2 h2⟩
 refine hK.out _ _ s4 (fun _ => ?_)
 clear hK K
 refine tks (b := ?_) (by kernel_rfl) (fun _ _ _ _ _ h => h) s4 1 [9] (by kernel_rfl) ?_ ?_
 rotate_left
 ·refine yc (v := ?_) rfl rfl (by rfl) (fun w9 hSw => ?_) ?_; rotate_left; (focus go_simp; try rfl); simp only [Act.put, Zj, Zi, Zh]
  exact rfl
 refine X3 (by kernel_rfl) ?_ _
 go_wp2
 go_ret
 exact hA w (both (Z4 w) (Z4 _))
theorem oQ (T : Two M w lb lo ab bb a b UA Qj) {q : PQ} (ga : a.op = 1) (gb : b.op = 1) {x : Int} (hz : ¬ b.n = 0) (hw : IntKind.i64.wrap (Int.tdiv a.n b.n) = x) (HN : ∀ wx, Calls Tryz.prog 101 #[.int .i64 x] wx (XK q wx)) :
 Pk mb 4 lb lo 2 c w (XK q w) := by
 obtain ⟨l0, l1, ha, hb, pa, pb⟩ := T
 have TB := Yw pa ga (.inl rfl)
 have Oa := Yw pb gb (.inl rfl)
 obtain ⟨_, a1, a2, _⟩ := YV ha
 obtain ⟨_, b1, b2, _⟩ := YV hb
 have s0 : w.drew.drew.cell? ⟨ab, 1, none⟩ = some (.int .i64 a.n) /\ w.drew.drew.cell? ⟨bb, 1, none⟩ = some (.int .i64 b.n) := ⟨a1, b1⟩
 clear pa pb ha hb a1 a2 b2
 generalize a.n = na at *
 generalize b.n = nb at *
 go_enter Tryz.func89, Tryz.ntmps89
 go_wp2_with fail
 refine XL 3 ?_
 rw [Y3]
 go_wp2_with (go_at_call 87; refine TB.mono ?_; rintro e w' ⟨rfl, rfl⟩)
 rw [Y3]
 go_wp2_with (go_at_call 87; refine Oa.mono ?_; rintro e w' ⟨rfl, rfl⟩)
 rw [Y3]
 go_wp2_with fail
 go_region
 go_wp2_with fail
 refine XG (S := (fun w9 => w9.cell? ⟨ab, 1, none⟩ = some (.int .i64 na) /\ w9.cell? ⟨bb, 1, none⟩ = some (.int .i64 nb))) (by kernel_rfl) s0 (fun hHeld => ?_)
 refine tks (b := ?_) (by kernel_rfl) (fun _ _ _ _ _ h => h) s0 9 [0, 1, 2, 3, 4, 5, 6, 7, 8] (by kernel_rfl) ?_ ?_
 rotate_left
 ·iterate 9 (refine yc (v := ?_) rfl rfl (by rfl) (fun w9 hSw => ?_) ?_; rotate_left; (focus go_simp; try rfl); simp only [Act.put, Zj, Zi, Zh])
  exact rfl
 refine rd1 9 (by kernel_rfl) rfl fun K hK => ?_
 go_simp
 go_at_call 101
 refine (HN _).mono ?_
 rintro e w4 hA
 obtain ⟨he, h2, hA⟩ := WZ hA
 rcases he with ⟨k, rfl⟩ | ⟨y, rfl⟩
 ·exact ⟨rfl, hA w (both (Z4 w) (Z4 _))⟩
 have s4 : w4.cell? ⟨ab, 1, none⟩ = some (.int .i64 na) /\ w4.cell? ⟨bb, 1, none⟩ = some (.int .i64 nb) := ⟨cell_grown s0.1 h2, cell_grown s0.2 h2⟩
 refine hK.out _ _ s4 (fun _ => ?_)
 clear hK K
 refine tks (b := ?_) (by kernel_rfl) (fun _ _ _ _ _ h => h) s4 1 [10] (by kernel_rfl) ?_ ?_
 rotate_left
 ·refine yc (v := ?_) rfl rfl (by rfl) (fun w9 hSw => ?_) ?_; rotate_left; (focus go_simp; try rfl); simp only [Act.put, Zj, Zi, Zh]
  exact rfl
 refine X3 (by kernel_rfl) ?_ _
 go_wp2
 go_ret
 exact hA w (both (Z4 w) (Z4 _))
theorem oP (T : Two M w lb lo ab bb a b UA Qj) {q : PQ} (ga : a.op = 1) (gb : b.op = 1) {x : Int} (hz : ¬ b.n = 0) (hw : Int.tmod a.n b.n = x) (HN : ∀ wx, Calls Tryz.prog 101 #[.int .i64 x] wx (XK q wx)) :
 Pk mb 5 lb lo 2 c w (XK q w) := by
 obtain ⟨l0, l1, ha, hb, pa, pb⟩ := T
 have TB := Yw pa ga (.inl rfl)
 have Oa := Yw pb gb (.inl rfl)
 obtain ⟨_, a1, a2, _⟩ := YV ha
 obtain ⟨_, b1, b2, _⟩ := YV hb
 have s0 : w.drew.drew.cell? ⟨ab, 1, none⟩ = some (.int .i64 a.n) /\ w.drew.drew.cell? ⟨bb, 1, none⟩ = some (.int .i64 b.n) := ⟨a1, b1⟩
 clear pa pb ha hb a1 a2 b2
 generalize a.n = na at *
 generalize b.n = nb at *
 go_enter Tryz.func89, Tryz.ntmps89
 go_wp2_with fail
 refine XL 3 ?_
 rw [Y3]
 go_wp2_with (go_at_call 87; refine TB.mono ?_; rintro e w' ⟨rfl, rfl⟩)
 rw [Y3]
 go_wp2_with (go_at_call 87; refine Oa.mono ?_; rintro e w' ⟨rfl, rfl⟩)
 rw [Y3]
 go_wp2_with fail
 go_region
 go_wp2_with fail
 refine XG (S := (fun w9 => w9.cell? ⟨ab, 1, none⟩ = some (.int .i64 na) /\ w9.cell? ⟨bb, 1, none⟩ = some (.int .i64 nb))) (by kernel_rfl) s0 (fun hHeld => ?_)
 refine tks (b := ?_) (by kernel_rfl) (fun _ _ _ _ _ h => h) s0 9 [0, 1, 2, 3, 4, 5, 6, 7, 8] (by kernel_rfl) ?_ ?_
 rotate_left
 ·iterate 9 (refine yc (v := ?_) rfl rfl (by rfl) (fun w9 hSw => ?_) ?_; rotate_left; (focus go_simp; try rfl); simp only [Act.put, Zj, Zi, Zh])
  exact rfl
 refine rd1 9 (by kernel_rfl) rfl fun K hK => ?_
 go_simp
 go_at_call 101
 refine (HN _).mono ?_
 rintro e w4 hA
 obtain ⟨he, h2, hA⟩ := WZ hA
 rcases he with ⟨k, rfl⟩ | ⟨y, rfl⟩
 ·exact ⟨rfl, hA w (both (Z4 w) (Z4 _))⟩
 have s4 : w4.cell? ⟨ab, 1, none⟩ = some (.int .i64 na) /\ w4.cell? ⟨bb, 1, none⟩ = some (.int .i64 nb) := ⟨cell_grown s0.1 h2, cell_grown s0.2 h2⟩
 refine hK.out _ _ s4 (fun _ => ?_)
 clear hK K
 refine tks (b := ?_) (by kernel_rfl) (fun _ _ _ _ _ h => h) s4 1 [10] (by kernel_rfl) ?_ ?_
 rotate_left
 ·refine yc (v := ?_) rfl rfl (by rfl) (fun w9 hSw => ?_) ?_; rotate_left; (focus go_simp; try rfl); simp only [Act.put, Zj, Zi, Zh]
  exact rfl
 refine X3 (by kernel_rfl) ?_ _
 go_wp2
 go_ret
 exact hA w (both (Z4 w) (Z4 _))
theorem oO (T : Two M w lb lo ab bb a b UA Qj) {q : PQ} (ga : a.op = 1) (gb : b.op = 1)  (HN : ∀ wx, Calls Tryz.prog 103 #[.bool (decide (a.n < b.n))] wx (XK q wx)) :
 Pk mb 7 lb lo 2 c w (XK q w) := by
 obtain ⟨l0, l1, ha, hb, pa, pb⟩ := T
 have TB := Yw pa ga (.inl rfl)
 have Oa := Yw pb gb (.inl rfl)
 obtain ⟨_, a1, a2, _⟩ := YV ha
 obtain ⟨_, b1, b2, _⟩ := YV hb
 have s0 : w.drew.drew.cell? ⟨ab, 1, none⟩ = some (.int .i64 a.n) /\ w.drew.drew.cell? ⟨bb, 1, none⟩ = some (.int .i64 b.n) := ⟨a1, b1⟩
 clear pa pb ha hb a1 a2 b1 b2
 generalize a.n = na at *
 generalize b.n = nb at *
 go_enter Tryz.func89, Tryz.ntmps89
 go_wp2_with fail
 refine XL 3 ?_
 rw [Y3]
 go_wp2_with (go_at_call 87; refine TB.mono ?_; rintro e w' ⟨rfl, rfl⟩)
 rw [Y3]
 go_wp2_with (go_at_call 87; refine Oa.mono ?_; rintro e w' ⟨rfl, rfl⟩)
 rw [Y3]
 go_wp2_with fail
 go_region
 go_wp2_with fail
 refine XG (S := (fun w9 => w9.cell? ⟨ab, 1, none⟩ = some (.int .i64 na) /\ w9.cell? ⟨bb, 1, none⟩ = some (.int .i64 nb))) (by kernel_rfl) s0 (fun hHeld => ?_)
 refine tks (b := ?_) (by kernel_rfl) (fun _ _ _ _ _ h => h) s0 9 [0, 1, 2, 3, 4, 5, 6, 7, 8] (by kernel_rfl) ?_ ?_
 rotate_left
 ·iterate 9 (refine yc (v := ?_) rfl rfl (by rfl) (fun w9 hSw => ?_) ?_; rotate_left; (focus go_simp; try rfl); simp only [Act.put, Zj, Zi, Zh])
  exact rfl
 refine rd1 9 (by kernel_rfl) rfl fun K hK => ?_
 go_simp
 go_at_call 103
 refine (HN _).mono ?_
 rintro e w4 hA
 obtain ⟨he, h2, hA⟩ := WZ hA
 rcases he with ⟨k, rfl⟩ | ⟨y, rfl⟩
 ·exact ⟨rfl, hA w (both (Z4 w) (Z4 _))⟩
 have s4 : w4.cell? ⟨ab, 1, none⟩ = some (.int .i64 na) /\ w4.cell? ⟨bb, 1, none⟩ = some (.int .i64 nb) := ⟨cell_grown s0.1 h2, cell_grown s0.2 h2⟩
 refine hK.out _ _ s4 (fun _ => ?_)
 clear hK K
 refine tks (b := ?_) (by kernel_rfl) (fun _ _ _ _ _ h => h) s4 1 [10] (by kernel_rfl) ?_ ?_
 rotate_left
 ·refine yc (v := ?_) rfl rfl (by rfl) (fun w9 hSw => ?_) ?_; rotate_left; (focus go_simp; try rfl); simp only [Act.put, Zj, Zi, Zh]
  exact rfl
 refine X3 (by kernel_rfl) ?_ _
 go_wp2
 go_ret
 exact hA w (both (Z4 w) (Z4 _))
theorem oN (T : Two M w lb lo ab bb a b UA Qj) {q : PQ} (ga : a.op = 1) (gb : b.op = 1)  (HN : ∀ wx, Calls Tryz.prog 103 #[.bool (decide (a.n <= b.n))] wx (XK q wx)) :
 Pk mb 8 lb lo 2 c w (XK q w) := by
 obtain ⟨l0, l1, ha, hb, pa, pb⟩ := T
 have TB := Yw pa ga (.inl rfl)
 have Oa := Yw pb gb (.inl rfl)
 obtain ⟨_, a1, a2, _⟩ := YV ha
 obtain ⟨_, b1, b2, _⟩ := YV hb
 have s0 : w.drew.drew.cell? ⟨ab, 1, none⟩ = some (.int .i64 a.n) /\ w.drew.drew.cell? ⟨bb, 1, none⟩ = some (.int .i64 b.n) := ⟨a1, b1⟩
 clear pa pb ha hb a1 a2 b1 b2
 generalize a.n = na at *
 generalize b.n = nb at *
 go_enter Tryz.func89, Tryz.ntmps89
 go_wp2_with fail
 refine XL 3 ?_
 rw [Y3]
 go_wp2_with (go_at_call 87; refine TB.mono ?_; rintro e w' ⟨rfl, rfl⟩)
 rw [Y3]
 go_wp2_with (go_at_call 87; refine Oa.mono ?_; rintro e w' ⟨rfl, rfl⟩)
 rw [Y3]
 go_wp2_with fail
 go_region
 go_wp2_with fail
 refine XG (S := (fun w9 => w9.cell? ⟨ab, 1, none⟩ = some (.int .i64 na) /\ w9.cell? ⟨bb, 1, none⟩ = some (.int .i64 nb))) (by kernel_rfl) s0 (fun hHeld => ?_)
 refine tks (b := ?_) (by kernel_rfl) (fun _ _ _ _ _ h => h) s0 9 [0, 1, 2, 3, 4, 5, 6, 7, 8] (by kernel_rfl) ?_ ?_
 rotate_left
 ·iterate 9 (refine yc (v := ?_) rfl rfl (by rfl) (fun w9 hSw => ?_) ?_; rotate_left; (focus go_simp; try rfl); simp only [Act.put, Zj, Zi, Zh])
  exact rfl
 refine rd1 9 (by kernel_rfl) rfl fun K hK => ?_
 go_simp
 go_at_call 103
 refine (HN _).mono ?_
 rintro e w4 hA
 obtain ⟨he, h2, hA⟩ := WZ hA
 rcases he with ⟨k, rfl⟩ | ⟨y, rfl⟩
 ·exact ⟨rfl, hA w (both (Z4 w) (Z4 _))⟩
 have s4 : w4.cell? ⟨ab, 1, none⟩ = some (.int .i64 na) /\ w4.cell? ⟨bb, 1, none⟩ = some (.int .i64 nb) := ⟨cell_grown s0.1 h2, cell_grown s0.2 h2⟩
 refine hK.out _ _ s4 (fun _ => ?_)
 clear hK K
 refine tks (b := ?_) (by kernel_rfl) (fun _ _ _ _ _ h => h) s4 1 [10] (by kernel_rfl) ?_ ?_
 rotate_left
 ·refine yc (v := ?_) rfl rfl (by rfl) (fun w9 hSw => ?_) ?_; rotate_left; (focus go_simp; try rfl); simp only [Act.put, Zj, Zi, Zh]
  exact rfl
 refine X3 (by kernel_rfl) ?_ _
 go_wp2
 go_ret
 exact hA w (both (Z4 w) (Z4 _))
theorem oM (T : Two M w lb lo ab bb a b UA Qj) {q : PQ} (ga : a.op = 1) (gb : b.op = 1)  (HN : ∀ wx, Calls Tryz.prog 103 #[.bool (a.n == b.n)] wx (XK q wx)) :
 Pk mb 9 lb lo 2 c w (XK q w) := by
 obtain ⟨l0, l1, ha, hb, pa, pb⟩ := T
 have TB := Yw pa ga (.inl rfl)
 have Oa := Yw pb gb (.inl rfl)
 obtain ⟨_, a1, a2, _⟩ := YV ha
 obtain ⟨_, b1, b2, _⟩ := YV hb
 have s0 : w.drew.drew.cell? ⟨ab, 1, none⟩ = some (.int .i64 a.n) /\ w.drew.drew.cell? ⟨bb, 1, none⟩ = some (.int .i64 b.n) := ⟨a1, b1⟩
 clear pa pb ha hb a1 a2 b1 b2
 generalize a.n = na at *
 generalize b.n = nb at *
 go_enter Tryz.func89, Tryz.ntmps89
 go_wp2_with fail
 refine XL 3 ?_
 rw [Y3]
 go_wp2_with (go_at_call 87; refine TB.mono ?_; rintro e w' ⟨rfl, rfl⟩)
 rw [Y3]
 go_wp2_with (go_at_call 87; refine Oa.mono ?_; rintro e w' ⟨rfl, rfl⟩)
 rw [Y3]
 go_wp2_with fail
 go_region
 go_wp2_with fail
 refine XG (S := (fun w9 => w9.cell? ⟨ab, 1, none⟩ = some (.int .i64 na) /\ w9.cell? ⟨bb, 1, none⟩ = some (.int .i64 nb))) (by kernel_rfl) s0 (fun hHeld => ?_)
 refine tks (b := ?_) (by kernel_rfl) (fun _ _ _ _ _ h => h) s0 9 [0, 1, 2, 3, 4, 5, 6, 7, 8] (by kernel_rfl) ?_ ?_
 rotate_left
 ·iterate 9 (refine yc (v := ?_) rfl rfl (by rfl) (fun w9 hSw => ?_) ?_; rotate_left; (focus go_simp; try rfl); simp only [Act.put, Zj, Zi, Zh])
  exact rfl
 refine rd1 9 (by kernel_rfl) rfl fun K hK => ?_
 go_simp
 go_at_call 103
 refine (HN _).mono ?_
 rintro e w4 hA
 obtain ⟨he, h2, hA⟩ := WZ hA
 rcases he with ⟨k, rfl⟩ | ⟨y, rfl⟩
 ·exact ⟨rfl, hA w (both (Z4 w) (Z4 _))⟩
 have s4 : w4.cell? ⟨ab, 1, none⟩ = some (.int .i64 na) /\ w4.cell? ⟨bb, 1, none⟩ = some (.int .i64 nb) := ⟨cell_grown s0.1 h2, cell_grown s0.2 h2⟩
 refine hK.out _ _ s4 (fun _ => ?_)
 clear hK K
 refine tks (b := ?_) (by kernel_rfl) (fun _ _ _ _ _ h => h) s4 1 [10] (by kernel_rfl) ?_ ?_
 rotate_left
 ·refine yc (v := ?_) rfl rfl (by rfl) (fun w9 hSw => ?_) ?_; rotate_left; (focus go_simp; try rfl); simp only [Act.put, Zj, Zi, Zh]
  exact rfl
 refine X3 (by kernel_rfl) ?_ _
 go_wp2
 go_ret
 exact hA w (both (Z4 w) (Z4 _))
theorem sP (T : Two M w lb lo ab bb a b UA Qj) {q : PQ} (ga : a.op = 2) (gb : b.op = 2)  (HN : ∀ wx, Calls Tryz.prog 103 #[.bool (a.s.toList == b.s.toList)] wx (XK q wx)) :
 Pk mb 12 lb lo 2 c w (XK q w) := by
 obtain ⟨l0, l1, ha, hb, pa, pb⟩ := T
 have TB := Yw pa ga (.inr rfl)
 have Oa := Yw pb gb (.inr rfl)
 obtain ⟨_, a1, a2, _⟩ := YV ha
 obtain ⟨_, b1, b2, _⟩ := YV hb
 have s0 : w.drew.drew.cell? ⟨ab, 2, none⟩ = some (.string a.s) /\ w.drew.drew.cell? ⟨bb, 2, none⟩ = some (.string b.s) := ⟨a2, b2⟩
 clear pa pb ha hb a1 a2 b1 b2
 generalize a.s = sa at *
 generalize b.s = sb at *
 go_enter Tryz.func89, Tryz.ntmps89
 go_wp2_with fail
 refine XL 3 ?_
 rw [Y3]
 go_wp2_with (go_at_call 87; refine TB.mono ?_; rintro e w' ⟨rfl, rfl⟩)
 rw [Y3]
 go_wp2_with (go_at_call 87; refine Oa.mono ?_; rintro e w' ⟨rfl, rfl⟩)
 rw [Y3]
 go_wp2_with fail
 go_region
 go_wp2_with fail
 refine XG (S := (fun w9 => w9.cell? ⟨ab, 2, none⟩ = some (.string sa) /\ w9.cell? ⟨bb, 2, none⟩ = some (.string sb))) (by kernel_rfl) s0 (fun hHeld => ?_)
 refine tks (b := ?_) (by kernel_rfl) (fun _ _ _ _ _ h => h) s0 9 [0, 1, 2, 3, 4, 5, 6, 7, 8] (by kernel_rfl) ?_ ?_
 rotate_left
 ·iterate 9 (refine yc (v := ?_) rfl rfl (by rfl) (fun w9 hSw => ?_) ?_; rotate_left; (focus go_simp; try rfl); simp only [Act.put, Zj, Zi, Zh])
  exact rfl
 refine rd1 9 (by kernel_rfl) rfl fun K hK => ?_
 go_simp
 go_at_call 103
 refine (HN _).mono ?_
 rintro e w4 hA
 obtain ⟨he, h2, hA⟩ := WZ hA
 rcases he with ⟨k, rfl⟩ | ⟨y, rfl⟩
 ·exact ⟨rfl, hA w (both (Z4 w) (Z4 _))⟩
 have s4 : w4.cell? ⟨ab, 2, none⟩ = some (.string sa) /\ w4.cell? ⟨bb, 2, none⟩ = some (.string sb) := ⟨cell_grown s0.1 h2, cell_grown s0.2 h2⟩
 refine hK.out _ _ s4 (fun _ => ?_)
 clear hK K
 refine tks (b := ?_) (by kernel_rfl) (fun _ _ _ _ _ h => h) s4 1 [10] (by kernel_rfl) ?_ ?_
 rotate_left
 ·refine yc (v := ?_) rfl rfl (by rfl) (fun w9 hSw => ?_) ?_; rotate_left; (focus go_simp; try rfl); simp only [Act.put, Zj, Zi, Zh]
  exact rfl
 refine X3 (by kernel_rfl) ?_ _
 go_wp2
 go_ret
 exact hA w (both (Z4 w) (Z4 _))
theorem sO (T : Two M w lb lo ab bb a b UA Qj) {q : PQ} (ga : a.op = 2) (gb : b.op = 2) (hz : ¬ 9223372036854775807 < a.s.size + b.s.size) (HN : ∀ wx, Calls Tryz.prog 104 #[.string (a.s ++ b.s)] wx (XK q wx)) :
 Pk mb 10 lb lo 2 c w (XK q w) := by
 obtain ⟨l0, l1, ha, hb, pa, pb⟩ := T
 have TB := Yw pa ga (.inr rfl)
 have Oa := Yw pb gb (.inr rfl)
 obtain ⟨_, a1, a2, _⟩ := YV ha
 obtain ⟨_, b1, b2, _⟩ := YV hb
 have s0 : w.drew.drew.cell? ⟨ab, 2, none⟩ = some (.string a.s) /\ w.drew.drew.cell? ⟨bb, 2, none⟩ = some (.string b.s) := ⟨a2, b2⟩
 clear pa pb ha hb a1 a2 b1 b2
 generalize a.s = sa at *
 generalize b.s = sb at *
 go_enter Tryz.func89, Tryz.ntmps89
 go_wp2_with fail
 refine XL 3 ?_
 rw [Y3]
 go_wp2_with (go_at_call 87; refine TB.mono ?_; rintro e w' ⟨rfl, rfl⟩)
 rw [Y3]
 go_wp2_with (go_at_call 87; refine Oa.mono ?_; rintro e w' ⟨rfl, rfl⟩)
 rw [Y3]
 go_wp2_with fail
 go_region
 go_wp2_with fail
 refine XG (S := (fun w9 => w9.cell? ⟨ab, 2, none⟩ = some (.string sa) /\ w9.cell? ⟨bb, 2, none⟩ = some (.string sb))) (by kernel_rfl) s0 (fun hHeld => ?_)
 refine tks (b := ?_) (by kernel_rfl) (fun _ _ _ _ _ h => h) s0 9 [0, 1, 2, 3, 4, 5, 6, 7, 8] (by kernel_rfl) ?_ ?_
 rotate_left
 ·iterate 8 (refine yc (v := ?_) rfl rfl (by rfl) (fun w9 hSw => ?_) ?_; rotate_left; (focus go_simp; try rfl); simp only [Act.put, Zj, Zi, Zh])
  refine yc (v := .string (sa ++ sb)) rfl rfl (by rfl) (fun w9 hSw => by obtain ⟨i0, i1⟩ := hSw; go_simp) ?_; simp only [Act.put, Zj, Zi, Zh]; exact rfl
 refine rd1 9 (by kernel_rfl) rfl fun K hK => ?_
 go_simp
 go_at_call 104
 refine (HN _).mono ?_
 rintro e w4 hA
 obtain ⟨he, h2, hA⟩ := WZ hA
 rcases he with ⟨k, rfl⟩ | ⟨y, rfl⟩
 ·exact ⟨rfl, hA w (both (Z4 w) (Z4 _))⟩
 have s4 : w4.cell? ⟨ab, 2, none⟩ = some (.string sa) /\ w4.cell? ⟨bb, 2, none⟩ = some (.string sb) := ⟨cell_grown s0.1 h2, cell_grown s0.2 h2⟩
 refine hK.out _ _ s4 (fun _ => ?_)
 clear hK K
 refine tks (b := ?_) (by kernel_rfl) (fun _ _ _ _ _ h => h) s4 1 [10] (by kernel_rfl) ?_ ?_
 rotate_left
 ·refine yc (v := ?_) rfl rfl (by rfl) (fun w9 hSw => ?_) ?_; rotate_left; (focus go_simp; try rfl); simp only [Act.put, Zj, Zi, Zh]
  exact rfl
 refine X3 (by kernel_rfl) ?_ _
 go_wp2
 go_ret
 exact hA w (both (Z4 w) (Z4 _))
theorem sN (T : Two M w lb lo ab bb a b UA Qj) (ga : a.op = 1) (gb : b.op = 1) (hz : b.n = 0) :
 Pk mb 4 lb lo 2 c w (Fails 2 3 w) := by
 obtain ⟨l0, l1, ha, hb, pa, pb⟩ := T
 have TB := Yw pa ga (.inl rfl)
 have Oa := Yw pb gb (.inl rfl)
 obtain ⟨_, b1, _, _⟩ := YV hb
 rw [hz] at b1
 clear pa pb ha hb
 go_enter Tryz.func89, Tryz.ntmps89
 go_wp2_with fail
 refine XL 3 ?_
 rw [Y3]
 go_wp2_with (go_at_call 87; refine TB.mono ?_; rintro e w' ⟨rfl, rfl⟩)
 rw [Y3]
 go_wp2_with (go_at_call 87; refine Oa.mono ?_; rintro e w' ⟨rfl, rfl⟩)
 rw [Y3]
 go_wp2_with fail
 go_region
 go_wp2_with (go_at_call 62; refine (Xz _ _ _).mono ?_; rintro e w' ⟨rfl, rfl⟩)
 exact ⟨rfl, rfl, Z4 _⟩
theorem sM (T : Two M w lb lo ab bb a b UA Qj) (ga : a.op = 1) (gb : b.op = 1) (hz : b.n = 0) :
 Pk mb 5 lb lo 2 c w (Fails 2 3 w) := by
 obtain ⟨l0, l1, ha, hb, pa, pb⟩ := T
 have TB := Yw pa ga (.inl rfl)
 have Oa := Yw pb gb (.inl rfl)
 obtain ⟨_, b1, _, _⟩ := YV hb
 rw [hz] at b1
 clear pa pb ha hb
 go_enter Tryz.func89, Tryz.ntmps89
 go_wp2_with fail
 refine XL 3 ?_
 rw [Y3]
 go_wp2_with (go_at_call 87; refine TB.mono ?_; rintro e w' ⟨rfl, rfl⟩)
 rw [Y3]
 go_wp2_with (go_at_call 87; refine Oa.mono ?_; rintro e w' ⟨rfl, rfl⟩)
 rw [Y3]
 go_wp2_with fail
 go_region
 go_wp2_with (go_at_call 62; refine (Xz _ _ _).mono ?_; rintro e w' ⟨rfl, rfl⟩)
 exact ⟨rfl, rfl, Z4 _⟩
theorem oL (T : One M w lb lo ab a UA) (ga : a.op = 1) {q : PQ} {x : Int} (hw : IntKind.i64.wrap (-a.n) = x) (HN : ∀ wx, Calls Tryz.prog 101 #[.int .i64 x] wx (XK q wx)) :
 Pk mb 6 lb lo 1 c w (XK q w) := by
 obtain ⟨l0, ha, pa⟩ := T
 have TB := Yw pa ga (.inl rfl)
 obtain ⟨_, a1, a2, _⟩ := YV ha
 clear pa ha
 go_enter Tryz.func89, Tryz.ntmps89
 go_wp2_with fail
 refine XL 2 ?_
 rw [Y3]
 go_wp2_with (go_at_call 87; refine TB.mono ?_; rintro e w' ⟨rfl, rfl⟩)
 rw [Y3]
 go_wp2_with fail
 go_region
 go_wp2_with (go_at_call 101; refine (HN _).mono ?_; rintro e w4 hA; obtain ⟨he, h2, hA⟩ := WZ hA; rcases he with ⟨k, rfl⟩ | ⟨y, rfl⟩; (exact ⟨rfl, hA w (Z4 w)⟩))
 go_ret
 exact hA w (Z4 w)
theorem sK (T : One M w lb lo ab a UA) (ga : a.op = 2) {q : PQ} (HN : ∀ wx, Calls Tryz.prog 101 #[.int .i64 (a.s.size : Int)] wx (XK q wx)) :
 Pk mb 11 lb lo 1 c w (XK q w) := by
 obtain ⟨l0, ha, pa⟩ := T
 have TB := Yw pa ga (.inr rfl)
 obtain ⟨_, a1, a2, _⟩ := YV ha
 clear pa ha
 go_enter Tryz.func89, Tryz.ntmps89
 go_wp2_with fail
 refine XL 2 ?_
 rw [Y3]
 go_wp2_with (go_at_call 87; refine TB.mono ?_; rintro e w' ⟨rfl, rfl⟩)
 rw [Y3]
 go_wp2_with fail
 go_region
 go_wp2_with (go_at_call 101; refine (HN _).mono ?_; rintro e w4 hA; obtain ⟨he, h2, hA⟩ := WZ hA; rcases he with ⟨k, rfl⟩ | ⟨y, rfl⟩; (exact ⟨rfl, hA w (Z4 w)⟩))
 go_ret
 exact hA w (Z4 w)
theorem sJ (T : One M w lb lo ab a UA) (ga : a.op = 1) {q : PQ} {t : ByteArray} (htab' : Pv w.drew) (HI : ∀ wx, Pv wx -> Calls Tryz.prog 105 #[.int .i64 a.n] wx fun e w' => e = .returned (.string t) /\ wx.grownBy w' none) (HN : ∀ wx, Calls Tryz.prog 104 #[.string t] wx (XK q wx)) :
 Pk mb 13 lb lo 1 c w (XK q w) := by
 obtain ⟨l0, ha, pa⟩ := T
 have TB := Yw pa ga (.inl rfl)
 obtain ⟨_, a1, a2, _⟩ := YV ha
 clear pa ha
 go_enter Tryz.func89, Tryz.ntmps89
 go_wp2_with fail
 refine XL 2 ?_
 rw [Y3]
 go_wp2_with (go_at_call 87; refine TB.mono ?_; rintro e w' ⟨rfl, rfl⟩)
 rw [Y3]
 go_wp2_with fail
 go_region
 go_wp2_with (first | (go_at_call 105; refine (HI _ htab').mono ?_; rintro e w3 ⟨rfl, hg3⟩) | (go_at_call 104; refine (HN _).mono ?_; rintro e w4 hA; obtain ⟨he, h2, hA⟩ := WZ hA; rcases he with ⟨k, rfl⟩ | ⟨y, rfl⟩; (exact ⟨rfl, hA w (both (Z4 w) hg3)⟩)))
 go_ret
 exact hA w (both (Z4 w) hg3)
end
end Go.Proofs.YtbcfdebdikgijaaGreatDoor

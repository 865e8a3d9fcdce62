/- Part of the proof; its texts: Ry1. -/
import Derived.Test.YtbcfdebdikgijaaGreatDoorS24
import Derived.Test.YtbcfdebdikgijaaGreatDoorS25
set_option maxRecDepth 100000
set_option linter.unusedVariables false
set_option linter.unusedSimpArgs false
set_option maxHeartbeats 2000000
namespace Go.Proofs.YtbcfdebdikgijaaGreatDoor
open Go Go.RowKit
open Go.Maps
theorem VX {D : DataW Unit} (hT : Tidy D) (m n : Nat) (d : Lit) : (m = n -> (D.put (.int .i64 (n : Int)) (.lit d)).atKey (.int .i64 (m : Int)) (.lit (.int .i64 0)) = .lit d) /\ (m ≠ n -> (D.put (.int .i64 (n : Int)) (.lit d)).atKey (.int .i64 (m : Int)) (.lit (.int .i64 0)) = D.atKey (.int .i64 (m : Int)) (.lit (.int .i64 0))) := by
 refine ⟨fun e => ?_, fun e => ?_⟩
 ·subst e; exact atKey_put_same hT.isMap (Mk m) _ _
 ·exact atKey_put_other (show (Lit.int .i64 (m : Int)) ≠ Lit.int .i64 (n : Int) from fun h => e (by injection h with _ h2; omega)) _ _
theorem Et (W : World) : ∃ w1 w2 w3 w4 w5, (Instr.mapUpdate 131 (.map (some W.heap.size)) (.int .i64 1) (.int .i64 1)).run Tryz.prog (W.alloc (.map #[] 0)) = .ok () w1 /\ (Instr.mapUpdate 131 (.map (some W.heap.size)) (.int .i64 2) (.int .i64 2)).run Tryz.prog w1 = .ok () w2 /\
 (Instr.mapUpdate 131 (.map (some W.heap.size)) (.int .i64 3) (.int .i64 3)).run Tryz.prog w2 = .ok () w3 /\ (Instr.mapUpdate 131 (.map (some W.heap.size)) (.int .i64 4) (.int .i64 4)).run Tryz.prog w3 = .ok () w4 /\ (Instr.mapUpdate 131 (.map (some W.heap.size)) (.int .i64 5) (.int .i64 7)).run Tryz.prog w4 = .ok () w5 /\
 (W.alloc (.map #[] 0)).grownBy w5 (some W.heap.size) /\ ∀ op : Int, (op = 1 \/ op = 2 \/ op = 3 \/ op = 4 \/ op = 7) -> (Instr.lookup 131 (.map (some W.heap.size)) (.int .i64 (Ig op)) false).run Tryz.prog w5 = .ok (.int .i64 op) w5 := by
 have h0 : (W.alloc (.map #[] 0)).ownsMap Tryz.prog 3 (plainElem Tryz.prog 3) W.heap.size 0 (.map [] : DataW Unit) := World.ownsMap_made W Tryz.prog 3 _
 have step : ∀ {w : World} {n : Nat} {D : DataW Unit} (h : w.ownsMap Tryz.prog 3 (plainElem Tryz.prog 3) W.heap.size n D) (hn : n < 100) (k : Nat) (v : Nat) (hk : k < 100) (hv : v < 100), ∃ w', (Instr.mapUpdate 131 (.map (some W.heap.size)) (.int .i64 (k : Int)) (.int .i64 (v : Int))).run Tryz.prog w = .ok () w' /\ w'.ownsMap Tryz.prog 3 (plainElem Tryz.prog 3) W.heap.size (n + 1) (D.put (.int .i64 (k : Int)) (.lit (.int .i64 (v : Int)))) /\ w.grownBy w' (some W.heap.size) := fun h hn k v hk hv =>
  h.update VO Tryz.underlying131 (by unfold maxLen; omega) (keyOf_int_mk Tryz.underlying3 (I6 k (by omega))) (plainElem_int Tryz.underlying3 (WalkArith.wf_i64 (by omega)))
 obtain ⟨w1, r1, o1, g1⟩ := step h0 (by decide) 1 1 (by decide) (by decide)
 obtain ⟨w2, r2, o2, g2⟩ := step o1 (by decide) 2 2 (by decide) (by decide)
 obtain ⟨w3, r3, o3, g3⟩ := step o2 (by decide) 3 3 (by decide) (by decide)
 obtain ⟨w4, r4, o4, g4⟩ := step o3 (by decide) 4 4 (by decide) (by decide)
 obtain ⟨w5, r5, o5, g5⟩ := step o4 (by decide) 5 7 (by decide) (by decide)
 refine ⟨w1, w2, w3, w4, w5, r1, r2, r3, r4, r5, both (both (both (both g1 g2) g3) g4) g5, fun op ho => ?_⟩
 have look : ∀ m : Nat, m < 100 -> ∃ c, (Instr.lookup 131 (.map (some W.heap.size)) (.int .i64 (m : Int)) false).run Tryz.prog w5 = .ok (.int .i64 c) w5 /\ _ /\ _ := fun m hm => o5.lookup_int VO Tryz.underlying131 Tryz.underlying3 (OE w5) (keyOf_int_mk Tryz.underlying3 (I6 m (by omega)))
 have T0 := h0.tidy VO
 have T1 := o1.tidy VO
 have T2 := o2.tidy VO
 have T3 := o3.tidy VO
 have T4 := o4.tidy VO
 have fin : ∀ (m v : Nat) (c : Int), (Instr.lookup 131 (.map (some W.heap.size)) (.int .i64 (m : Int)) false).run Tryz.prog w5 = .ok (.int .i64 c) w5 -> DataW.lit (.int .i64 (v : Int)) = (DataW.lit (.int .i64 c) : DataW Unit) -> (Instr.lookup 131 (.map (some W.heap.size)) (.int .i64 (m : Int)) false).run Tryz.prog w5 = .ok (.int .i64 (v : Int)) w5 := fun m v c h e => by
  injection e with e; injection e with _ e; rw [h, e]
 rcases ho with rfl | rfl | rfl | rfl | rfl
 ·obtain ⟨c, h, hc, _⟩ := look 1 (by decide)
  rw [(VX T4 1 5 _).2 (by decide), (VX T3 1 4 _).2 (by decide), (VX T2 1 3 _).2 (by decide), (VX T1 1 2 _).2 (by decide), (VX T0 1 1 _).1 rfl] at hc; exact fin 1 1 c h hc
 ·obtain ⟨c, h, hc, _⟩ := look 2 (by decide)
  rw [(VX T4 2 5 _).2 (by decide), (VX T3 2 4 _).2 (by decide), (VX T2 2 3 _).2 (by decide), (VX T1 2 2 _).1 rfl] at hc; exact fin 2 2 c h hc
 ·obtain ⟨c, h, hc, _⟩ := look 3 (by decide)
  rw [(VX T4 3 5 _).2 (by decide), (VX T3 3 4 _).2 (by decide), (VX T2 3 3 _).1 rfl] at hc; exact fin 3 3 c h hc
 ·obtain ⟨c, h, hc, _⟩ := look 4 (by decide)
  rw [(VX T4 4 5 _).2 (by decide), (VX T3 4 4 _).1 rfl] at hc; exact fin 4 4 c h hc
 ·obtain ⟨c, h, hc, _⟩ := look 5 (by decide)
  rw [(VX T4 5 5 _).1 rfl] at hc; exact fin 5 7 c h hc
def kG (ob : Nat) (r : ZT × Int) (w : World) (e : Ending) (w' : World) : Prop :=
 if r.2 < 0 then e = .panicked (Wn 2 2) /\ w.grownBy w' (some ob) else ∃ y : Z0, e = .returned (.agg (ZN y.op y.n y.s y.lv)) /\ ZW y = r.1 /\ Pm w.heap.size none w' y /\ w.grownBy w' (some ob) /\ w'.heap[ob]? = some (.cells #[.int .i64 r.2] 87 (0, 0))
theorem KQ {M : Nat -> Prop} {w w' : World} {ob : Nat} {cur : Array Value} (h : w.heap[ob]? = some (.cells cur 87 (0, 0))) (g : w.grownBy w' (some ob)) : Sl M w w' := fun b cur' t ht hb _ => g.block b (Z6 hb) (fun e => by
 have e := Option.some.inj e
 rw [e, h] at hb
 have := (Obj.cells.inj (Option.some.inj hb)).2.1
 rcases ht with rfl | rfl | rfl <;> exact absurd this (by decide))
theorem PY (ob : Nat) (vy : Value) (left d : Int) (w : World) (ho : w.heap[ob]? = some (.cells #[.int .i64 left] 87 (0, 0))) (h0 : 0 <= left) (h1 : left <= 20000) (h : left <= 0 \/ d = 0) :
 Calls Tryz.prog 32 #[.pointer (some ⟨ob, 0, none⟩), vy, .int .i64 d] w (kG ob (default, -1) w) := by
 have hw : IntKind.i64.wrap (left - 1) = left - 1 := YJ _ (by omega) (by omega)
 have g0 := Z8 w (.cells #[.int .i64 0, .int .i64 0, .string ⟨#[]⟩, .slice none 0 0, .slice none 0 0] 43)
 have c0 := (one_cell ((g0.block ob (Z6 ho) (by nofun)).trans ho)).1
 have fz := Lib.frozen_of_heap ((g0.block ob (Z6 ho) (by nofun)).trans ho) 0
 have key : ∀ v, kG ob (default, -1) w (.panicked (Wn 2 2)) ((w.alloc (.cells #[.int .i64 0, .int .i64 0, .string ⟨#[]⟩, .slice none 0 0, .slice none 0 0] 43)).setCell ⟨ob, 0, none⟩ v) := fun v => by
  refine (ZY (show ((default : ZT), (-1 : Int)).2 < 0 by decide)).mpr ?_; exact ⟨rfl, both (YA g0 _) (Zv _ ob 0 v)⟩
 have HK := Z9 key
 clear key g0 ho
 by_cases hl : left - 1 < 0
 ·go_in
  go_wp2_with (go_at_call 62; refine (Xz _ _ _).mono ?_; rintro e w' ⟨rfl, rfl⟩); exact ⟨rfl, HK.out _⟩
 ·obtain rfl : d = 0 := by omega
  go_in; go_wp2_with (go_at_call 62; refine (Xz _ _ _).mono ?_; rintro e w' ⟨rfl, rfl⟩); exact ⟨rfl, HK.out _⟩
theorem Jy {w : World} {ob : Nat} {cur : Value} (ho : w.heap[ob]? = some (.cells #[cur] 87 (0, 0))) (v : Value) (W : World) (hW : W = (w.alloc (.cells #[.int .i64 0, .int .i64 0, .string ⟨#[]⟩, .slice none 0 0, .slice none 0 0] 43)).setCell ⟨ob, 0, none⟩ v) :
 W.heap.size = w.heap.size + 1 /\ W.heap[w.heap.size]? = some (.cells #[.int .i64 0, .int .i64 0, .string ⟨#[]⟩, .slice none 0 0, .slice none 0 0] 43 (0, 0)) /\ W.heap[ob]? = some (.cells #[v] 87 (0, 0)) /\ w.grownBy W (some ob) := by
 subst hW
 have g0 := Z8 w (.cells #[.int .i64 0, .int .i64 0, .string ⟨#[]⟩, .slice none 0 0, .slice none 0 0] 43)
 have n0 := Zn w (.cells #[.int .i64 0, .int .i64 0, .string ⟨#[]⟩, .slice none 0 0, .slice none 0 0] 43)
 have ho1 := (g0.block ob (Z6 ho) (by nofun)).trans ho
 have gs := Zv (w.alloc (.cells #[.int .i64 0, .int .i64 0, .string ⟨#[]⟩, .slice none 0 0, .slice none 0 0] 43)) ob 0 v
 refine ⟨by simp, (gs.block _ (Z6 n0) (fun e => ?_)).trans n0, ZL (i := 0) ho1 v, both (YA g0 _) gs⟩
 have := Option.some.inj e
 have := Z6 ho
 omega
theorem Al {W w5 : World} (h : (W.alloc (.map #[] 0)).grownBy w5 (some W.heap.size)) : W.grownBy w5 none :=
 U2 (Z8 W _) h (Nat.le_refl _)
theorem Ak {w w1 : World} {ob : Nat} {cs : Array Value} (h : w.grownBy w1 (some ob)) : w.grownBy (w1.setRow w.heap.size cs) (some ob) :=
 ⟨h.os, h.tape, h.output, by rw [setRow_size]; exact h.size, fun q hq hr => (WM w1 w.heap.size q cs (by omega)).trans (h.block q hq hr)⟩
theorem Aj {ob : Nat} {v : ZT} {left : Int} {w w' : World} (y : Z0) (hl : 0 <= left) (h1 : ZW y = v) (h2 : Pm w.heap.size none w' y) (h3 : w.grownBy w' (some ob)) (h4 : w'.heap[ob]? = some (.cells #[.int .i64 left] 87 (0, 0))) : kG ob (v, left) w (.returned (.agg (ZN y.op y.n y.s y.lv))) w' :=
 (Z7 (show ¬ (v, left).2 < 0 by show ¬ left < 0; omega)).mpr ⟨y, rfl, h1, h2, h3, h4⟩
theorem Ia {M : Nat -> Prop} (ob : Nat) (vy : Value) (v : ZT) (left d : Int) (w : World) (hv : Wx M w vy v) (h7 : v.op = 7) (ho : w.heap[ob]? = some (.cells #[.int .i64 left] 87 (0, 0))) (h0 : 0 < left) (h1 : left <= 20000) (hd : d ≠ 0) :
 Calls Tryz.prog 32 #[.pointer (some ⟨ob, 0, none⟩), vy, .int .i64 d] w (kG ob (.mk 7 0 ⟨#[]⟩ [], left - 1) w) := by
 have hw : IntKind.i64.wrap (left - 1) = left - 1 := YJ _ (by omega) (by omega)
 obtain ⟨vb, vl, vps, rfl, hb, jk, _⟩ := hv.open
 have g0 := Z8 w (.cells #[.int .i64 0, .int .i64 0, .string ⟨#[]⟩, .slice none 0 0, .slice none 0 0] 43)
 have n0 := Zn w (.cells #[.int .i64 0, .int .i64 0, .string ⟨#[]⟩, .slice none 0 0, .slice none 0 0] 43)
 have ho1 := (g0.block ob (Z6 ho) (by nofun)).trans ho
 have c0 := (one_cell ho1).1
 have fz := Lib.frozen_of_heap ho1 0
 have hnl : ¬ left - 1 < 0 := by omega
 have hmm := @run_makeMap Tryz.prog
 have HO := Z9 ho
 have HV := Z9 hv
 have HB := Z9 hb
 have HG0 := Z9 g0
 have HN0 := Z9 n0
 clear hv ho ho1 hb jk g0 n0
 go_in
 go_upto_region 4 with fail
 obtain ⟨W, hW⟩ : ∃ W, (w.alloc (.cells #[.int .i64 0, .int .i64 0, .string ⟨#[]⟩, .slice none 0 0, .slice none 0 0] 43)).setCell ⟨ob, 0, none⟩ (.int .i64 (left - 1)) = W := ⟨_, rfl⟩
 have hF := Jy HO.out (.int .i64 (left - 1)) W hW.symm
 rw [hW]
 obtain ⟨hz, hr, AV, hgW⟩ := hF
 obtain ⟨w1, w2, w3, w4, w5, r1, r2, r3, r4, r5, hg5, QN⟩ := Et W
 have lk := QN v.op (.inr (.inr (.inr (.inr h7))))
 rw [h7, show Ig 7 = 5 from rfl] at lk
 have KP : W.grownBy w5 none := Al hg5
 have hb5 := (HV.out.kept ((KQ HO.out hgW).trans (YS KP))).open
 obtain ⟨vb', vl', _, e, hb5, _⟩ := hb5
 obtain rfl : vb = vb' := by injection e with e; injection e with e; injection e
 rw [h7] at hb5
 obtain ⟨p0, p1, p2, p3⟩ := YV hb5
 rw [show Ig 7 = 5 from rfl] at p0
 rw [hz] at r1 r2 r3 r4 r5 lk
 have hr5 := (KP.block _ (Z6 hr) (by nofun)).trans hr
 have ho5 := (KP.block _ (Z6 AV) (by nofun)).trans AV
 have HG := Z9 (both hgW (YA KP _))
 clear QN hg5 hgW hr AV HB HG0 HN0 c0 fz hW hb5 KP
 go_upto_region 5 with fail
 have n7 := Zn w5 (.cells #[.int .i64 7, .int .i64 0, .string ⟨#[]⟩, .slice none 0 0, .slice none 0 0] 43)
 have g7 := Z8 w5 (.cells #[.int .i64 7, .int .i64 0, .string ⟨#[]⟩, .slice none 0 0, .slice none 0 0] 43)
 have hr7 := (g7.block _ (Z6 hr5) (by nofun)).trans hr5
 have ho7 := (g7.block _ (Z6 ho5) (by nofun)).trans ho5
 have hb7 := (g7.block vb (World.block_lt_of_cell? w5 _ p0) (by nofun))
 have p0' : (w5.alloc (.cells #[.int .i64 7, .int .i64 0, .string ⟨#[]⟩, .slice none 0 0, .slice none 0 0] 43)).cell? ⟨vb, 0, none⟩ = some (.int .i64 5) := by unfold World.cell? at p0 ⊢; rw [hb7]; exact p0
 have HG7 := Z9 (both HG.out (YA g7 _))
 have hne := Z6 HO.out
 go_wp2_with (first
  | (refine VF rfl 43 _ rfl w5.heap.size rfl 43 #[.int .i64 7, .int .i64 0, .string ⟨#[]⟩, .slice none 0 0, .slice none 0 0] (0, 0) _ n7 Tryz.underlying43 rfl YT ?_)
  | (refine Zc rfl 43 _ _ rfl w.heap.size #[.int .i64 7, .int .i64 0, .string ⟨#[]⟩, .slice none 0 0, .slice none 0 0] rfl rfl 43 _ hr7 YT rfl (ZO _ rfl) ?_))
 have q2 := Zd _ _ _ #[.int .i64 7, .int .i64 0, .string ⟨#[]⟩, .slice none 0 0, .slice none 0 0] _ _ hr7
 exact Y4 (YC rfl _ _ w.heap.size 43 #[.int .i64 7, .int .i64 0, .string ⟨#[]⟩, .slice none 0 0, .slice none 0 0] (0, 0) _ rfl q2 Tryz.underlying43 rfl YT) rfl (Aj (.mk 7 0 ⟨#[]⟩ (.slice none 0 0) []) (by omega) (by rw [Y2, stripL]) (SH _ _ _ _ _ _) (Ak HG7.out) ((WM _ _ _ _ (by omega)).trans ho7))
end Go.Proofs.YtbcfdebdikgijaaGreatDoor

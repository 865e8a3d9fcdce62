/- The reference's add, free, Free, occurs. Printed by gen_rfree.py, expanded by mac.py. -/
import Derived.Test.YtkiffgdinmpljaaGreatDoorF14
import Derived.Test.YtkiffgdinmpljaaGreatDoorF18
set_option linter.unusedVariables false
set_option linter.unusedSimpArgs false
namespace Go.Proofs.YtkiffgdinmpljaaGreatDoor
open Go Go.RowKit
set_option maxHeartbeats 8000000
set_option maxRecDepth 100000
def intv (xs : List Int) : List Value := xs.map (.int .i64)
theorem info_i64 : (Tryz.prog.info? 3).map (fun i => (i.zero, i.size, i.bytes)) = some (some (.int .i64 0), 1, 8) := by kernel_rfl
def IntsAt (w : World) (v : Value) (xs : List Int) : Prop := RowP (fun _ => True) w v xs.length (intv xs)
theorem ints_at {w : World} {v : Value} {xs : List Int} (h : IntsAt w v xs) (j : Nat) (hj : j < xs.length) : ∃ b off c, v = .slice (some ⟨b, off, none⟩) xs.length c/\b < w.heap.size/\w.cell? ⟨b, off + j, none⟩ = some (.int .i64 (xs.getD j 0)) := by
 obtain ⟨a, c, rfl, hlc, hcell⟩ := h
 obtain ⟨b, off, rfl, hp, hlt, hc⟩ := hcell (by omega)
 exact ⟨b, off, c, rfl, hlt, by rw [hc j (by unfold intv; rw [List.length_map]; exact hj)]; simp [intv, List.getD, hj]⟩
theorem IntsAt.below {w w' : World} {v : Value} {xs : List Int} (h : IntsAt w v xs) (hb : Below w.heap.size w w') : IntsAt w' v xs := RowP.keep h hb.size (fun b _ hlt => hb.block b hlt)
theorem IntsAt.nil (w : World) : IntsAt w (.slice none 0 0) [] := RowP.nil _ w
theorem take_getI (l : List Int) (j : Nat) (h : j < l.length) : l.take (j + 1) = l.take j ++ [l.getD j 0] := take_get 0 l j h
def AddOk (w : World) (xs : List Int) (n : Int) (e : Ending) (w' : World) : Prop := ∃ v ys, e = .returned v/\IntsAt w' v ys/\ys.length<=xs.length + 1/\(∀ z, z ∈ ys ↔ z ∈ xs ∨ z = n)/\Below w.heap.size w w'
theorem radd_any (v : Value) (xs : List Int) (n : Int) (w : World) (h : IntsAt w v xs) (hl : xs.length<=1000000) :
 Calls Tryz.prog 151 #[v, .int .i64 n] w (AddOk w xs n) := by
 obtain ⟨i0, hi, hz0, hz1, hz2⟩ := info_parts info_i64
 have HI := hJQ h
 obtain ⟨a, c, rfl, hlc, _⟩ := h
 go_enter Tryz.func151, Tryz.ntmps151
 go_wp2_with fail
 go_loopw [5, 6, 7] (fun v dn i wr => ∃ (ys : List Int) (dv : Bool) (j : Nat), dn = .bool dv/\i = .int .i64 j/\j<=xs.length/\ys.length + (if dv = true then 0 else 1)<=j + 1/\Hid (wr.ownsRow w.heap.size 3 1 v ys.length (intv ys))/\Hid (∀ z, z ∈ ys ↔ (z ∈ xs.take j/\z ≠ n) ∨ (dv = true/\z = n))/\Below w.heap.size w wr) (fun _ _ i _ => xs.length - (intOf i).toNat)
 case atStart => exact ⟨[], false, 0, rfl, rfl, Nat.zero_le _, by simp, ⟨rfl, .inl ⟨rfl, rfl⟩⟩, (fun z => by simp), Below.refl _ _⟩
 case round =>
  rename World => V
  obtain ⟨ys, dv, j, rfl, rfl, hj, hln, Hown, HM, hbV⟩ := hrel
  by_cases hjl : j < xs.length
  ·obtain ⟨b, off, c', fd, hbl, hcx⟩ := ints_at (HI.out.below hbV) j hjl
   obtain ⟨rfl, -⟩ := Value.slice.inj fd
   have HT := hJQ (take_getI xs j hjl)
   obtain ⟨b', off', c9, fd9, hblw, hcw⟩ := ints_at HI.out j hjl
   obtain ⟨fd8, -⟩ := Value.slice.inj fd9
   injection fd8 with fd7
   injection fd7 with fd6 fd5
   subst fd6
   subst fd5
   generalize xs.getD j 0 = x at *
   have hys : ys.length<=1000001 := by omega
   clear fd fd9
   cases dv
   ·by_cases hx : n<=x
    ·by_cases hne : x = n
     ·subst hne
      have hsz1 := hbV.size
      go_wp2_with (at_builtin; refine wpList_append_own _ rfl _ _ 89 rfl w.heap.size 3 i0 (.int .i64 0) 1 8 Tryz.underlying89 hi hz0 hz1 hz2 rfl (by decide) _ (ys).length (intv (ys)) rfl (Hown.out.alloc _) ⟨V.heap.size, 0, none⟩ 1 1 [.int .i64 x] rfl rfl (World.news_of_block (cs := #[.int .i64 x]) (nHQ V _)) (by intro u hu; simp at hu; subst hu; rfl) (by unfold maxLen; first | omega | (simp; omega)) (by first | omega | (simp; omega)) (by first | omega | (simp; omega)) ?_)
      intro v1 w1 hown1 hgrow1 _
      have hb1 : Below w.heap.size w w1 := (hbV.alloc hbV.size _).trans (gUQ hgrow1 (by simp; omega) (fun q hq => (Hown.out.lt q hq).1))
      have HO1 : Hid (w1.ownsRow w.heap.size 3 1 v1 ((ys) ++ [x]).length (intv ((ys) ++ [x]))) := by
       show World.ownsRow _ _ _ _ _ _ _
       rw [List.length_append]; unfold intv at hown1 ⊢; rw [List.map_append]; first | exact hown1 | (simp only [List.length_append, List.length_cons, List.length_nil] at hown1 ⊢; exact hown1)
      clear hown1 hgrow1 hsz1
      have hcx1 := (World.cell?_of_block (a := ⟨b, off + j, none⟩) (hb1.block b (by exact hblw))).trans hcw
      have HM2 : Hid (∀ z, z ∈ (ys ++ [x]) ↔ (z ∈ xs.take (j + 1)/\z ≠ x) ∨ (true = true/\z = x)) := fun z => by
       have h9 := HM.out z
       rw [HT.out]
       simp only [List.mem_append, List.mem_singleton, h9, Bool.false_eq_true, false_and, or_false, true_and]
       by_cases hz : z = x
       ·subst hz; simp; try omega
       ·by_cases hzx : z = x
        ·subst hzx; simp [hz]; try omega
        ·simp [hz, hzx]
      go_wp2_with fail
      go_roundw
      case rel => exact ⟨(ys ++ [x]), true, j + 1, rfl, by go_num, by omega, by simp only [List.length_append, List.length_cons, List.length_nil, if_true, if_false, Bool.false_eq_true] at hln ⊢; omega, HO1, HM2, hb1⟩
      case measure => simp [intOf]; omega
     ·have hne' : (x == n) = false := nEQ hne
      have hsz1 := hbV.size
      go_wp2_with (at_builtin; refine wpList_append_own _ rfl _ _ 89 rfl w.heap.size 3 i0 (.int .i64 0) 1 8 Tryz.underlying89 hi hz0 hz1 hz2 rfl (by decide) _ (ys).length (intv (ys)) rfl (Hown.out.alloc _) ⟨V.heap.size, 0, none⟩ 1 1 [.int .i64 n] rfl rfl (World.news_of_block (cs := #[.int .i64 n]) (nHQ V _)) (by intro u hu; simp at hu; subst hu; rfl) (by unfold maxLen; first | omega | (simp; omega)) (by first | omega | (simp; omega)) (by first | omega | (simp; omega)) ?_)
      intro v1 w1 hown1 hgrow1 _
      have hb1 : Below w.heap.size w w1 := (hbV.alloc hbV.size _).trans (gUQ hgrow1 (by simp; omega) (fun q hq => (Hown.out.lt q hq).1))
      have HO1 : Hid (w1.ownsRow w.heap.size 3 1 v1 ((ys) ++ [n]).length (intv ((ys) ++ [n]))) := by
       show World.ownsRow _ _ _ _ _ _ _
       rw [List.length_append]; unfold intv at hown1 ⊢; rw [List.map_append]; first | exact hown1 | (simp only [List.length_append, List.length_cons, List.length_nil] at hown1 ⊢; exact hown1)
      clear hown1 hgrow1 hsz1
      have hcx1 := (World.cell?_of_block (a := ⟨b, off + j, none⟩) (hb1.block b (by exact hblw))).trans hcw
      have hsz2 := hb1.size
      go_wp2_with (at_builtin; refine wpList_append_own _ rfl _ _ 89 rfl w.heap.size 3 i0 (.int .i64 0) 1 8 Tryz.underlying89 hi hz0 hz1 hz2 rfl (by decide) _ (ys ++ [n]).length (intv (ys ++ [n])) rfl (HO1.out.alloc _) ⟨w1.heap.size, 0, none⟩ 1 1 [.int .i64 x] rfl rfl (World.news_of_block (cs := #[.int .i64 x]) (nHQ w1 _)) (by intro u hu; simp at hu; subst hu; rfl) (by unfold maxLen; first | omega | (simp; omega)) (by first | omega | (simp; omega)) (by first | omega | (simp; omega)) ?_)
      intro v2 w2 hown2 hgrow2 _
      have hb2 : Below w.heap.size w w2 := (hb1.alloc hb1.size _).trans (gUQ hgrow2 (by simp; omega) (fun q hq => (HO1.out.lt q hq).1))
      have HO2 : Hid (w2.ownsRow w.heap.size 3 1 v2 ((ys ++ [n]) ++ [x]).length (intv ((ys ++ [n]) ++ [x]))) := by
       show World.ownsRow _ _ _ _ _ _ _
       rw [List.length_append]; unfold intv at hown2 ⊢; rw [List.map_append]; first | exact hown2 | (simp only [List.length_append, List.length_cons, List.length_nil] at hown2 ⊢; exact hown2)
      clear hown2 hgrow2 hsz2
      have HM2 : Hid (∀ z, z ∈ (ys ++ [n] ++ [x]) ↔ (z ∈ xs.take (j + 1)/\z ≠ n) ∨ (true = true/\z = n)) := fun z => by
       have h9 := HM.out z
       rw [HT.out]
       simp only [List.mem_append, List.mem_singleton, h9, Bool.false_eq_true, false_and, or_false, true_and]
       by_cases hz : z = n
       ·subst hz; simp; try omega
       ·by_cases hzx : z = x
        ·subst hzx; simp [hz]; try omega
        ·simp [hz, hzx]
      go_wp2_with fail
      go_roundw
      case rel => exact ⟨(ys ++ [n] ++ [x]), true, j + 1, rfl, by go_num, by omega, by simp only [List.length_append, List.length_cons, List.length_nil, if_true, if_false, Bool.false_eq_true] at hln ⊢; omega, HO2, HM2, hb2⟩
      case measure => simp [intOf]; omega
    ·have hne : x ≠ n := by omega
     have hne' : (x == n) = false := nEQ hne
     have hsz1 := hbV.size
     go_wp2_with (at_builtin; refine wpList_append_own _ rfl _ _ 89 rfl w.heap.size 3 i0 (.int .i64 0) 1 8 Tryz.underlying89 hi hz0 hz1 hz2 rfl (by decide) _ (ys).length (intv (ys)) rfl (Hown.out.alloc _) ⟨V.heap.size, 0, none⟩ 1 1 [.int .i64 x] rfl rfl (World.news_of_block (cs := #[.int .i64 x]) (nHQ V _)) (by intro u hu; simp at hu; subst hu; rfl) (by unfold maxLen; first | omega | (simp; omega)) (by first | omega | (simp; omega)) (by first | omega | (simp; omega)) ?_)
     intro v1 w1 hown1 hgrow1 _
     have hb1 : Below w.heap.size w w1 := (hbV.alloc hbV.size _).trans (gUQ hgrow1 (by simp; omega) (fun q hq => (Hown.out.lt q hq).1))
     have HO1 : Hid (w1.ownsRow w.heap.size 3 1 v1 ((ys) ++ [x]).length (intv ((ys) ++ [x]))) := by
      show World.ownsRow _ _ _ _ _ _ _
      rw [List.length_append]; unfold intv at hown1 ⊢; rw [List.map_append]; first | exact hown1 | (simp only [List.length_append, List.length_cons, List.length_nil] at hown1 ⊢; exact hown1)
     clear hown1 hgrow1 hsz1
     have HM2 : Hid (∀ z, z ∈ (ys ++ [x]) ↔ (z ∈ xs.take (j + 1)/\z ≠ n) ∨ (false = true/\z = n)) := fun z => by
      have h9 := HM.out z
      rw [HT.out]
      simp only [List.mem_append, List.mem_singleton, h9, Bool.false_eq_true, false_and, or_false, true_and]
      by_cases hz : z = n
      ·subst hz; simp; try omega
      ·by_cases hzx : z = x
       ·subst hzx; simp [hz]; try omega
       ·simp [hz, hzx]
     go_wp2_with fail
     go_roundw
     case rel => exact ⟨(ys ++ [x]), false, j + 1, rfl, by go_num, by omega, by simp only [List.length_append, List.length_cons, List.length_nil, if_true, if_false, Bool.false_eq_true] at hln ⊢; omega, HO1, HM2, hb1⟩
     case measure => simp [intOf]; omega
   ·by_cases hne : x = n
    ·subst hne
     have HM2 : Hid (∀ z, z ∈ ys ↔ (z ∈ xs.take (j + 1)/\z ≠ x) ∨ (true = true/\z = x)) := fun z => by
      have h9 := HM.out z
      rw [HT.out]
      simp only [List.mem_append, List.mem_singleton, h9, Bool.false_eq_true, false_and, or_false, true_and]
      by_cases hz : z = x
      ·subst hz; simp; try omega
      ·by_cases hzx : z = x
       ·subst hzx; simp [hz]; try omega
       ·simp [hz, hzx]
     go_wp2_with fail
     go_roundw
     case rel => exact ⟨ys, true, j + 1, rfl, by go_num, by omega, by simp only [List.length_append, List.length_cons, List.length_nil, if_true, if_false, Bool.false_eq_true] at hln ⊢; omega, Hown, HM2, hbV⟩
     case measure => simp [intOf]; omega
    ·have hne' : (x == n) = false := nEQ hne
     have hsz1 := hbV.size
     go_wp2_with (at_builtin; refine wpList_append_own _ rfl _ _ 89 rfl w.heap.size 3 i0 (.int .i64 0) 1 8 Tryz.underlying89 hi hz0 hz1 hz2 rfl (by decide) _ (ys).length (intv (ys)) rfl (Hown.out.alloc _) ⟨V.heap.size, 0, none⟩ 1 1 [.int .i64 x] rfl rfl (World.news_of_block (cs := #[.int .i64 x]) (nHQ V _)) (by intro u hu; simp at hu; subst hu; rfl) (by unfold maxLen; first | omega | (simp; omega)) (by first | omega | (simp; omega)) (by first | omega | (simp; omega)) ?_)
     intro v1 w1 hown1 hgrow1 _
     have hb1 : Below w.heap.size w w1 := (hbV.alloc hbV.size _).trans (gUQ hgrow1 (by simp; omega) (fun q hq => (Hown.out.lt q hq).1))
     have HO1 : Hid (w1.ownsRow w.heap.size 3 1 v1 ((ys) ++ [x]).length (intv ((ys) ++ [x]))) := by
      show World.ownsRow _ _ _ _ _ _ _
      rw [List.length_append]; unfold intv at hown1 ⊢; rw [List.map_append]; first | exact hown1 | (simp only [List.length_append, List.length_cons, List.length_nil] at hown1 ⊢; exact hown1)
     clear hown1 hgrow1 hsz1
     have HM2 : Hid (∀ z, z ∈ (ys ++ [x]) ↔ (z ∈ xs.take (j + 1)/\z ≠ n) ∨ (true = true/\z = n)) := fun z => by
      have h9 := HM.out z
      rw [HT.out]
      simp only [List.mem_append, List.mem_singleton, h9, Bool.false_eq_true, false_and, or_false, true_and]
      by_cases hz : z = n
      ·subst hz; simp; try omega
      ·by_cases hzx : z = x
       ·subst hzx; simp [hz]; try omega
       ·simp [hz, hzx]
     go_wp2_with fail
     go_roundw
     case rel => exact ⟨(ys ++ [x]), true, j + 1, rfl, by go_num, by omega, by simp only [List.length_append, List.length_cons, List.length_nil, if_true, if_false, Bool.false_eq_true] at hln ⊢; omega, HO1, HM2, hb1⟩
     case measure => simp [intOf]; omega
  ·obtain rfl : j = xs.length := by omega
   have HM3 : Hid (∀ z, z ∈ ys ↔ (z ∈ xs/\z ≠ n) ∨ (dv = true/\z = n)) := fun z => by have := HM.out z; rw [List.take_length] at this; exact this
   clear HM
   have hys : ys.length<=1000001 := by omega
   cases dv
   ·skip
    have hsz1 := hbV.size
    go_wp2_with (at_builtin; refine wpList_append_own _ rfl _ _ 89 rfl w.heap.size 3 i0 (.int .i64 0) 1 8 Tryz.underlying89 hi hz0 hz1 hz2 rfl (by decide) _ (ys).length (intv (ys)) rfl (Hown.out.alloc _) ⟨V.heap.size, 0, none⟩ 1 1 [.int .i64 n] rfl rfl (World.news_of_block (cs := #[.int .i64 n]) (nHQ V _)) (by intro u hu; simp at hu; subst hu; rfl) (by unfold maxLen; first | omega | (simp; omega)) (by first | omega | (simp; omega)) (by first | omega | (simp; omega)) ?_)
    intro v1 w1 hown1 hgrow1 _
    have hb1 : Below w.heap.size w w1 := (hbV.alloc hbV.size _).trans (gUQ hgrow1 (by simp; omega) (fun q hq => (Hown.out.lt q hq).1))
    have HO1 : Hid (w1.ownsRow w.heap.size 3 1 v1 ((ys) ++ [n]).length (intv ((ys) ++ [n]))) := by
     show World.ownsRow _ _ _ _ _ _ _
     rw [List.length_append]; unfold intv at hown1 ⊢; rw [List.map_append]; first | exact hown1 | (simp only [List.length_append, List.length_cons, List.length_nil] at hown1 ⊢; exact hown1)
    clear hown1 hgrow1 hsz1
    go_wp2_with fail
    go_ret
    refine ⟨v1, ys ++ [n], rfl, rowP_owns HO1.out (fun _ _ => trivial), by simp at hln ⊢; omega, fun z => ?_, hb1⟩
    have h9 := HM3.out z
    simp only [List.mem_append, List.mem_singleton, h9, Bool.false_eq_true, false_and, or_false]
    by_cases hz : z = n
    ·simp [hz]
    ·simp [hz]
   ·go_wp2_with fail
    go_ret
    refine ⟨_, ys, rfl, rowP_owns Hown.out (fun _ _ => trivial), by simp at hln ⊢; omega, fun z => ?_, hbV⟩
    have h9 := HM3.out z
    rw [h9]
    by_cases hz : z = n
    ·simp [hz]
    ·simp [hz]
def FreeOk (w : World) (xs : List Int) (d : Nat) (x : Cn) (e : Ending) (w' : World) : Prop := ∃ v ys, e = .returned v/\IntsAt w' v ys/\ys.length<=xs.length + sizeC x/\((0 : Int) ∈ ys ↔ (0 : Int) ∈ xs ∨ occC d x = true)/\Below w.heap.size w w'
theorem rfree_any : ∀ (x : ConD) (P : Nat->Prop) (w : World) (v : Value) (xs : List Int) (d : Nat), IsCon P w x->frmC (pC x) = true->IntsAt w v xs->xs.length + sizeC (pC x)<=100000->d + dCQ (pC x)<=20001 →
 Calls Tryz.prog 138 #[v, conV x, .int .i64 d] w (FreeOk w xs d (pC x)) := by
 refine ConD.ind (fun op n s k nv ns lv l ih P w v xs d h hf hx hsz hfd => ?_)
 rw [pMQ] at hf hsz hfd ⊢
 have hfs := fSQ hf
 rw [sMQ] at hsz
 rw [depthC_mk] at hfd
 have h0 := h.lt
 obtain ⟨va, vc, rfl, _⟩ := rSQ hx
 obtain ⟨ka, kc, kn, na, nc, a, c, rfl, _, rfl, _, hks, hcv, hll, hnn, hb0, gC, hsz0, HP, HC0, c0, c1, c2, c3, c4, c5⟩ := open_box h
 rw [hcv]
 clear hcv
 have HPW := hJQ (cVQ (op := op) (n := n) (s := s) (nv := .slice na ns.length nc) (lv := .slice a l.length c) (ns := ns) (l := l) hks)
 have HI := hJQ ih
 have HFS := hJQ hfs
 have HX := hJQ h
 have HXS := hJQ hx
 have HPw := hJQ h0.parts
 clear HP
 have HPO : Hid (∀ e w', FreeOk w xs d (.mk op n s (pK k) ns (l.map pC)) e w'->FreeOk w xs d (.mk op n s (pK k) ns (l.map pC)) e w') := fun _ _ h => h
 have hoc : occC d (.mk op n s (pK k) ns (l.map pC)) = if op = 1 then n == (d : Int) else occCL (dpI op d) (l.map pC) := by rw [occC]; rfl
 have HOC := hJQ hoc
 clear h0 h hks ih hf hfs hx HC0 hoc
 by_cases hop : op = 1
 ·subst hop
  have hn := HFS.out.2.2.1 (.inl rfl)
  have hl0 : l = [] := List.map_eq_nil_iff.1 (HFS.out.2.2.2.2 (.inl rfl))
  subst hl0
  by_cases hnd : (d : Int)<=n
  ·have hwr : IntKind.i64.wrap (n - (d : Int)) = n - d := wrap_ok _ (by omega) (by omega)
   have HA := hJQ (radd_any _ xs (n - d) _ (HXS.out.below hb0) (by omega))
   clear HI HFS HX HPw gC
   go_enter Tryz.func138, Tryz.ntmps138
   go_wp2_with fail
   refine HA.out.mono ?_
   rintro e w2 ⟨u, ys, rfl, hu, hul, hum, hb2⟩
   have HU := hJQ hu
   have HM := hJQ hum
   have hbw := hb0.trans (hb2.mono hb0.size)
   clear hu hum HA
   go_wp2_with fail
   go_ret
   refine ⟨u, ys, rfl, HU.out, by rw [sMQ]; omega, ?_, hbw⟩
   rw [HOC.out, HM.out 0]; simp only [if_true, beq_iff_eq]
   constructor
   ·rintro (h | h)
    ·exact .inl h
    ·exact .inr (by omega)
   ·rintro (h | h)
    ·exact .inl h
    ·exact .inr (by omega)
  ·clear HI HFS HX HPw gC
   go_enter Tryz.func138, Tryz.ntmps138
   go_wp2_with fail
   go_loopw [0, 7] (fun q i wr => q = .slice va xs.length vc/\i = .int .i64 0/\wr = w.alloc (.cells #[.int .i64 1, .int .i64 n, .string s, .slice ka kn kc, .slice na ns.length nc, .slice a 0 c] 28)) (fun _ _ _ => 0)
   case atStart => exact ⟨rfl, rfl, rfl⟩
   case round =>
    obtain ⟨rfl, rfl, rfl⟩ := hrel
    go_wp2_with fail
    go_ret
    refine ⟨_, xs, rfl, HXS.out.below hb0, by omega, ?_, hb0⟩
    rw [HOC.out]; simp only [if_true, beq_iff_eq]
    exact ⟨.inl, fun h => h.resolve_right (by omega)⟩
 ·have hop0 : (op == 1) = false := nEQ hop
  have HDp : Hid (∀ V, Below w.heap.size w V->Calls Tryz.prog 100 #[(.agg #[.int .i64 op, .int .i64 n, .string s, .slice ka kn kc, .slice na ns.length nc, .slice a l.length c]), .int .i64 (d : Nat)] V fun e w' => e = .returned (.int .i64 (dpI op d))/\Below V.heap.size V w') := fun V hV => by
   have := rdeep_any P _ (d : Nat) V (iBQ HX.out hV) (by omega) (by omega)
   rw [HPW.out] at this
   exact this
  have hll2 : l.length<=1000000 := by
   have : ∀ q : List Cn, q.length<=sizeCL q := fun q => by
    induction q with
    | nil => simp
    | cons x r ih => rw [sizeCL_cons, List.length_cons]; have := sizeC_pos x; omega
   have := this (l.map pC)
   rw [List.length_map] at this
   omega
  go_enter Tryz.func138, Tryz.ntmps138
  go_wp2_with fail
  have hsW : (w.alloc (.cells #[.int .i64 op, .int .i64 n, .string s, .slice ka kn kc, .slice na ns.length nc, .slice a l.length c] 28)).heap.size = w.heap.size + 1 := hsz0
  generalize w.alloc (.cells #[.int .i64 op, .int .i64 n, .string s, .slice ka kn kc, .slice na ns.length nc, .slice a l.length c] 28) = W at *
  clear c0 c1 c2 c3 c4 c5
  go_loopw [0, 7] (fun q i wr => ∃ (zs : List Int) (za' : Option Addr) (zc' : Nat) (j : Nat), q = .slice za' zs.length zc'/\j<=l.length/\i = .int .i64 j/\Hid (IntsAt wr (.slice za' zs.length zc') zs)/\zs.length<=xs.length + sizeCL ((l.map pC).take j)/\Hid ((0 : Int) ∈ zs ↔ (0 : Int) ∈ xs ∨ occCL (dpI op d) ((l.map pC).take j) = true)/\Below W.heap.size W wr) (fun _ i _ => l.length - (intOf i).toNat)
  case atStart => exact ⟨xs, va, vc, 0, rfl, Nat.zero_le _, rfl, HXS.out.below hb0, by omega, (by show _ ↔ _; rw [List.take_zero, occCL]; simp), Below.refl _ _⟩
  case round =>
   rename World => V
   obtain ⟨zs, za', zc', j, rfl, hj, rfl, HZ, hzl, HZM, hbV⟩ := hrel
   have hbwV := hb0.trans (hbV.mono hb0.size)
   have gV := (hbV.block _ (hLQ gC)).trans gC
   have htk := sizeCL_take (l.map pC) (j + 1)
   by_cases hjl : j < l.length
   ·have HV : Hid (Kept (fun b => P b/\b < w.heap.size) w V) := Kept.of_below hbwV
    obtain ⟨b, off, yop, yn, ys, yk, yns, yl, yka, ykn, ykc, yna, ync, ya, yc', fd, hbl, hq, hy, hmem, hv, HT, e0, e1, e2, e3, e4, e5⟩ := part_at (HV.out.row HPw.out.row) (fun y hy => HV.out.con (HPw.out.all y hy)) j hjl
    subst fd
    have HT := hJQ HT
    have hm' : pC (.mk yop yn ys yk (.slice yna yns.length ync) yns (.slice ya yl.length yc') yl) ∈ l.map pC := List.mem_map_of_mem hmem
    have hst : sizeCL ((l.map pC).take (j + 1)) = sizeCL ((l.map pC).take j) + sizeC (pC (.mk yop yn ys yk (.slice yna yns.length ync) yns (.slice ya yl.length yc') yl)) := by rw [HT.out, sizeCL_snoc]
    have HC : Hid (∀ W9, Below V.heap.size V W9->Calls Tryz.prog 138 #[.slice za' zs.length zc', (.agg #[.int .i64 yop, .int .i64 yn, .string ys, .slice yka ykn ykc, .slice yna yns.length ync, .slice ya yl.length yc']), .int .i64 (dpI op d)] W9 (FreeOk W9 zs (deepC op d) (pC (.mk yop yn ys yk (.slice yna yns.length ync) yns (.slice ya yl.length yc') yl)))) := fun W9 hW9 => by
     have := HI.out _ hmem _ W9 (.slice za' zs.length zc') zs (deepC op d) (iBQ hy hW9) (HFS.out.2.2.2.1 _ hm') (HZ.out.below hW9) (by omega) (by have := deepC_le op d; have := dGQ _ _ hm'; omega)
     rw [hv, ← dpI_nat] at this
     exact this
    have HTL : Hid (occCL (dpI op d) ((l.map pC).take (j + 1)) = (occCL (dpI op d) ((l.map pC).take j) || occC (deepC op d : Nat) (pC (.mk yop yn ys yk (.slice yna yns.length ync) yns (.slice ya yl.length yc') yl)))) := by show _ = _; rw [HT.out, occCL_any, occCL_any, List.any_append, dpI_nat]; simp
    have hdp := dpI_le op d
    obtain ⟨c0, c1, c2, c3, c4, c5⟩ := cnQ gV
    go_upto_region 6 with fail
    clear c0 c1 c2 c3 c4 c5 hy hv hmem hq HT hm'
    generalize pC (.mk yop yn ys yk (.slice yna yns.length ync) yns (.slice ya yl.length yc') yl) = py at *
    have S0 : (fun w9 => w9.cell? ⟨w.heap.size, 0, none⟩ = some (.int .i64 op)/\w9.cell? ⟨w.heap.size, 1, none⟩ = some (.int .i64 n)/\w9.cell? ⟨w.heap.size, 2, none⟩ = some (.string s)/\w9.cell? ⟨w.heap.size, 3, none⟩ = some (.slice ka kn kc)/\w9.cell? ⟨w.heap.size, 4, none⟩ = some (.slice na ns.length nc)/\w9.cell? ⟨w.heap.size, 5, none⟩ = some (.slice (some ⟨b, off, none⟩) l.length c)/\w9.cell? ⟨b, off + j * 6, none⟩ = some (.int .i64 yop)/\w9.cell? ⟨b, off + j * 6 + 1, none⟩ = some (.int .i64 yn)/\w9.cell? ⟨b, off + j * 6 + 2, none⟩ = some (.string ys)/\w9.cell? ⟨b, off + j * 6 + 3, none⟩ = some (.slice yka ykn ykc)/\w9.cell? ⟨b, off + j * 6 + 4, none⟩ = some (.slice yna yns.length ync)/\w9.cell? ⟨b, off + j * 6 + 5, none⟩ = some (.slice ya yl.length yc')) V.drew := ⟨(cnQ gV).1, (cnQ gV).2.1, (cnQ gV).2.2.1, (cnQ gV).2.2.2.1, (cnQ gV).2.2.2.2.1, (cnQ gV).2.2.2.2.2, e0, e1, e2, e3, e4, e5⟩
    have hbD : Below V.heap.size V V.drew := (Below.refl _ _).drew
    refine wp_region_held_drew (S := (fun w9 => w9.cell? ⟨w.heap.size, 0, none⟩ = some (.int .i64 op)/\w9.cell? ⟨w.heap.size, 1, none⟩ = some (.int .i64 n)/\w9.cell? ⟨w.heap.size, 2, none⟩ = some (.string s)/\w9.cell? ⟨w.heap.size, 3, none⟩ = some (.slice ka kn kc)/\w9.cell? ⟨w.heap.size, 4, none⟩ = some (.slice na ns.length nc)/\w9.cell? ⟨w.heap.size, 5, none⟩ = some (.slice (some ⟨b, off, none⟩) l.length c)/\w9.cell? ⟨b, off + j * 6, none⟩ = some (.int .i64 yop)/\w9.cell? ⟨b, off + j * 6 + 1, none⟩ = some (.int .i64 yn)/\w9.cell? ⟨b, off + j * 6 + 2, none⟩ = some (.string ys)/\w9.cell? ⟨b, off + j * 6 + 3, none⟩ = some (.slice yka ykn ykc)/\w9.cell? ⟨b, off + j * 6 + 4, none⟩ = some (.slice yna yns.length ync)/\w9.cell? ⟨b, off + j * 6 + 5, none⟩ = some (.slice ya yl.length yc'))) (by kernel_rfl) S0 (fun hHeld => ?_)
    refine tks (b := ?_) (by kernel_rfl) (fun _ _ _ _ _ h => h) S0 8 [0, 1, 2, 3, 4, 5, 6, 7] (by kernel_rfl) ?_ ?_
    rotate_left
    ·iterate 8 (refine yc (v := ?_) rfl rfl (by rfl) (fun w9 hSw => ?_) ?_; rotate_left; (focus go_simp; try rfl); simp only [Act.put, l1Q, l2Q, l3Q])
     exact rfl
    refine rd1 8 (by kernel_rfl) (by rfl) (fun K hK => ?_)
    go_simp
    go_at_call 100
    refine (HDp.out _ (hbwV.trans (hbD.mono hbwV.size))).mono ?_
    rintro e w1 ⟨rfl, hb1⟩
    have hbV1 := hbD.trans (hb1.mono hbD.size)
    have gB1 := (hbV1.block _ (hLQ gV)).trans gV
    have S1 : (fun w9 => w9.cell? ⟨w.heap.size, 0, none⟩ = some (.int .i64 op)/\w9.cell? ⟨w.heap.size, 1, none⟩ = some (.int .i64 n)/\w9.cell? ⟨w.heap.size, 2, none⟩ = some (.string s)/\w9.cell? ⟨w.heap.size, 3, none⟩ = some (.slice ka kn kc)/\w9.cell? ⟨w.heap.size, 4, none⟩ = some (.slice na ns.length nc)/\w9.cell? ⟨w.heap.size, 5, none⟩ = some (.slice (some ⟨b, off, none⟩) l.length c)/\w9.cell? ⟨b, off + j * 6, none⟩ = some (.int .i64 yop)/\w9.cell? ⟨b, off + j * 6 + 1, none⟩ = some (.int .i64 yn)/\w9.cell? ⟨b, off + j * 6 + 2, none⟩ = some (.string ys)/\w9.cell? ⟨b, off + j * 6 + 3, none⟩ = some (.slice yka ykn ykc)/\w9.cell? ⟨b, off + j * 6 + 4, none⟩ = some (.slice yna yns.length ync)/\w9.cell? ⟨b, off + j * 6 + 5, none⟩ = some (.slice ya yl.length yc')) w1 := ⟨(cnQ gB1).1, (cnQ gB1).2.1, (cnQ gB1).2.2.1, (cnQ gB1).2.2.2.1, (cnQ gB1).2.2.2.2.1, (cnQ gB1).2.2.2.2.2, (World.cell?_of_block (a := ⟨b, off + j * 6, none⟩) (hbV1.block b hbl)).trans e0, (World.cell?_of_block (a := ⟨b, off + j * 6 + 1, none⟩) (hbV1.block b hbl)).trans e1, (World.cell?_of_block (a := ⟨b, off + j * 6 + 2, none⟩) (hbV1.block b hbl)).trans e2, (World.cell?_of_block (a := ⟨b, off + j * 6 + 3, none⟩) (hbV1.block b hbl)).trans e3, (World.cell?_of_block (a := ⟨b, off + j * 6 + 4, none⟩) (hbV1.block b hbl)).trans e4, (World.cell?_of_block (a := ⟨b, off + j * 6 + 5, none⟩) (hbV1.block b hbl)).trans e5⟩
    refine hK.out _ _ S1 (fun _ => ?_)
    clear hK K
    refine rd1 9 (by kernel_rfl) (by rfl) (fun K hK => ?_)
    go_simp
    go_at_call 138
    refine (HC.out _ hbV1).mono ?_
    rintro e w2 ⟨u, us, rfl, hu, hul, hum, hb2⟩
    obtain ⟨ua, uc, rfl, _⟩ := rSQ hu
    have hbV2 := hbV1.trans (hb2.mono hbV1.size)
    have gB2 := (hbV2.block _ (hLQ gV)).trans gV
    have S2 : (fun w9 => w9.cell? ⟨w.heap.size, 0, none⟩ = some (.int .i64 op)/\w9.cell? ⟨w.heap.size, 1, none⟩ = some (.int .i64 n)/\w9.cell? ⟨w.heap.size, 2, none⟩ = some (.string s)/\w9.cell? ⟨w.heap.size, 3, none⟩ = some (.slice ka kn kc)/\w9.cell? ⟨w.heap.size, 4, none⟩ = some (.slice na ns.length nc)/\w9.cell? ⟨w.heap.size, 5, none⟩ = some (.slice (some ⟨b, off, none⟩) l.length c)/\w9.cell? ⟨b, off + j * 6, none⟩ = some (.int .i64 yop)/\w9.cell? ⟨b, off + j * 6 + 1, none⟩ = some (.int .i64 yn)/\w9.cell? ⟨b, off + j * 6 + 2, none⟩ = some (.string ys)/\w9.cell? ⟨b, off + j * 6 + 3, none⟩ = some (.slice yka ykn ykc)/\w9.cell? ⟨b, off + j * 6 + 4, none⟩ = some (.slice yna yns.length ync)/\w9.cell? ⟨b, off + j * 6 + 5, none⟩ = some (.slice ya yl.length yc')) w2 := ⟨(cnQ gB2).1, (cnQ gB2).2.1, (cnQ gB2).2.2.1, (cnQ gB2).2.2.2.1, (cnQ gB2).2.2.2.2.1, (cnQ gB2).2.2.2.2.2, (World.cell?_of_block (a := ⟨b, off + j * 6, none⟩) (hbV2.block b hbl)).trans e0, (World.cell?_of_block (a := ⟨b, off + j * 6 + 1, none⟩) (hbV2.block b hbl)).trans e1, (World.cell?_of_block (a := ⟨b, off + j * 6 + 2, none⟩) (hbV2.block b hbl)).trans e2, (World.cell?_of_block (a := ⟨b, off + j * 6 + 3, none⟩) (hbV2.block b hbl)).trans e3, (World.cell?_of_block (a := ⟨b, off + j * 6 + 4, none⟩) (hbV2.block b hbl)).trans e4, (World.cell?_of_block (a := ⟨b, off + j * 6 + 5, none⟩) (hbV2.block b hbl)).trans e5⟩
    refine hK.out _ _ S2 (fun _ => ?_)
    clear hK K
    refine rd1 10 (by kernel_rfl) (by rfl) (fun K hK => ?_)
    go_simp
    refine hK.out _ _ S2 (fun _ => ?_)
    clear hK K
    refine wpAnyH_done (by kernel_rfl) ?_ _
    have HB2 := hJQ (hbV.trans (hbV2.mono hbV.size))
    have HU := hJQ hu
    have HUM : Hid ((0 : Int) ∈ us ↔ (0 : Int) ∈ xs ∨ occCL (dpI op d) ((l.map pC).take (j + 1)) = true) := by
     show _ ↔ _
     rw [hum, HZM.out, HTL.out, Bool.or_eq_true, or_assoc]
    clear hHeld S0 S1 S2 HC gB1 gB2 hb1 hb2 hbV1 hbV2 hbD HTL hu hum HZM
    go_wp2_with fail
    go_roundw
    case rel => exact ⟨us, ua, uc, j + 1, rfl, by omega, by go_num, HU, by omega, HUM, HB2.out⟩
    case measure => simp [intOf]; omega
   ·obtain rfl : j = l.length := by omega
    obtain ⟨c0, c1, c2, c3, c4, c5⟩ := cnQ gV
    have HM9 : Hid ((0 : Int) ∈ zs ↔ (0 : Int) ∈ xs ∨ occCL (dpI op d) (l.map pC) = true) := by have := HZM.out; rw [take_all] at this; exact this
    have hzl9 : zs.length<=xs.length + (sizeCL (l.map pC) + 1) := by rw [take_all] at hzl; omega
    clear HZM hzl htk
    go_wp2_with fail
    go_ret
    refine ⟨_, zs, rfl, HZ.out, by rw [sMQ]; omega, ?_, hbwV⟩
    rw [HOC.out, if_neg hop]
    exact HM9.out
theorem rFree_any (P : Nat->Prop) (x : ConD) (w : World) (h : IsCon P w x) (hf : frmC (pC x) = true) (hsz : sizeC (pC x)<=100000) (hd : dCQ (pC x)<=20001) :
 Calls Tryz.prog 126 #[conV x] w (FreeOk w [] 0 (pC x)) := by
 have hb0 : Below w.heap.size w (w.alloc (.cells #[.int .i64 x.op, .int .i64 x.n, .string x.s, x.k.v, x.nv, x.lv] 28)) := (Below.refl _ _).alloc (nLQ _) _
 have HC := hJQ (rfree_any x P _ _ [] 0 (iBQ h hb0) hf (IntsAt.nil _) (by simpa using hsz) (by omega))
 obtain ⟨op, n, s, k, nv, ns, lv, l⟩ := x
 clear hb0
 obtain ⟨ka, kc, kn, na, nc, a, c, rfl, _, rfl, _, hks, hcv, hll, hnn, hb0, gC, hsz0, HP, HC0, c0, c1, c2, c3, c4, c5⟩ := open_box h
 rw [hcv]
 clear hcv
 rw [show conV (.mk op n s k (.slice na ns.length nc) ns (.slice a l.length c) l) = (.agg #[.int .i64 op, .int .i64 n, .string s, .slice ka kn kc, .slice na ns.length nc, .slice a l.length c]) from cVQ hks, show (ConD.mk op n s k (.slice na ns.length nc) ns (.slice a l.length c) l).k.v = k.v from rfl, hks] at HC
 clear h hks HP HC0
 generalize pC (.mk op n s k (.slice na ns.length nc) ns (.slice a l.length c) l) = px at *
 go_enter Tryz.func126, Tryz.ntmps126
 go_wp2_with fail
 refine HC.out.mono ?_
 rintro e w2 ⟨u, ys, rfl, hu, hul, hum, hb2⟩
 have HU := hJQ hu
 have HUM := hJQ hum
 have hbw := hb0.trans (hb2.mono hb0.size)
 clear hu hum HC
 go_wp2_with fail
 go_ret
 exact ⟨u, ys, rfl, HU.out, hul, HUM.out, hbw⟩
theorem roccurs_any (P : Nat->Prop) (x : ConD) (w : World) (h : IsCon P w x) (hf : frmC (pC x) = true) (hsz : sizeC (pC x)<=100000) (hd : dCQ (pC x)<=20001) :
 Calls Tryz.prog 99 #[conV x, .int .i64 0] w fun e w' => e = .returned (.bool (occC 0 (pC x)))/\Below w.heap.size w w' := by
 obtain ⟨op, n, s, k, nv, ns, lv, l⟩ := x
 obtain ⟨ka, kc, kn, na, nc, a, c, rfl, _, rfl, _, hks, hcv, hll, hnn, hb0, gC, hsz0, HP, HC0, c0, c1, c2, c3, c4, c5⟩ := open_box h
 rw [hcv]
 clear hcv
 have HC : Hid (Calls Tryz.prog 126 #[(.agg #[.int .i64 op, .int .i64 n, .string s, .slice ka kn kc, .slice na ns.length nc, .slice a l.length c])] (w.alloc (.cells #[.int .i64 op, .int .i64 n, .string s, .slice ka kn kc, .slice na ns.length nc, .slice a l.length c] 28)) (FreeOk (w.alloc (.cells #[.int .i64 op, .int .i64 n, .string s, .slice ka kn kc, .slice na ns.length nc, .slice a l.length c] 28)) [] 0 (pC (.mk op n s k (.slice na ns.length nc) ns (.slice a l.length c) l)))) := by
  have := rFree_any P _ _ HC0.out hf hsz hd
  rw [cVQ hks] at this
  exact this
 clear h hks HP HC0 hf hd
 generalize pC (.mk op n s k (.slice na ns.length nc) ns (.slice a l.length c) l) = px at *
 have HF : Hid (∀ b, occC 0 px = b->Ending.returned (.bool b) = Ending.returned (.bool (occC 0 px))) := fun b hb => by rw [hb]
 go_enter Tryz.func99, Tryz.ntmps99
 go_wp2_with fail
 refine HC.out.mono ?_
 rintro e w2 ⟨u, ys, rfl, hu, hul, hum, hb2⟩
 have hbw := hb0.trans (hb2.mono hb0.size)
 have HU := hJQ hu
 have HUM : Hid ((0 : Int) ∈ ys ↔ occC 0 px = true) := by show _ ↔ _; rw [hum]; simp
 obtain ⟨ua, uc, rfl, _⟩ := rSQ hu
 have hyl : ys.length<=100000 := by simp at hul; omega
 clear hu hum HC c0 c1 c2 c3 c4 c5 gC
 go_wp2_with fail
 go_loopw [6] (fun i wr => ∃ (j : Nat), j<=ys.length/\i = .int .i64 j/\Hid ((0 : Int) ∉ ys.take j)/\wr = w2) (fun i _ => ys.length - (intOf i).toNat)
 case atStart => exact ⟨0, Nat.zero_le _, rfl, (by show _ ∉ _; simp), rfl⟩
 case round =>
  obtain ⟨j, hj, rfl, HN, rfl⟩ := hrel
  by_cases hjl : j < ys.length
  ·obtain ⟨b, off, c', fd, hbl, hcx⟩ := ints_at HU.out j hjl
   obtain ⟨rfl, -⟩ := Value.slice.inj fd
   have HT := hJQ (take_getI ys j hjl)
   have HME : Hid (ys.getD j 0 ∈ ys) := mem_getD ys j hjl
   generalize ys.getD j 0 = x at *
   clear fd
   by_cases hx : x = 0
   ·subst hx
    have HE := hJQ (HF.out true (HUM.out.1 HME.out))
    go_wp2_with fail
    go_ret
    exact ⟨HE.out, hbw⟩
   ·have hx' : (x == 0) = false := nEQ hx
    have HN2 : Hid ((0 : Int) ∉ ys.take (j + 1)) := by
     show _ ∉ _
     rw [HT.out, List.mem_append, List.mem_singleton]
     rintro (h | h)
     ·exact HN.out h
     ·exact hx h.symm
    go_wp2_with fail
    go_roundw
    case rel => exact ⟨j + 1, by omega, by go_num, HN2, by first | rfl | trivial⟩
    case measure => simp [intOf]; omega
  ·obtain rfl : j = ys.length := by omega
   have HE := hJQ (HF.out false (by
    cases hq : occC 0 px with
    | false => rfl
    | true => have h1 := HN.out; rw [List.take_length] at h1; exact absurd (HUM.out.2 hq) h1))
   go_wp2_with fail
   go_ret
   exact ⟨HE.out, hbw⟩
end Go.Proofs.YtkiffgdinmpljaaGreatDoor

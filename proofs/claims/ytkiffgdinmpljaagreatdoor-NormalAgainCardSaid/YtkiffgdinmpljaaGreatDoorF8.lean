/- tycon.kindOf, normal.copiedKind. Printed by gen_kind.py, expanded by mac.py. -/
import Derived.Test.YtkiffgdinmpljaaGreatDoorF7
set_option linter.unusedVariables false
set_option linter.unusedSimpArgs false
namespace Go.Proofs.YtkiffgdinmpljaaGreatDoor
open Go Go.RowKit
set_option maxHeartbeats 8000000
set_option maxRecDepth 100000
theorem kind_shape {P : Nat->Prop} {w : World} {k : KindD} (h : IsKind P w k) : ∃ l a c, k = .mk (.slice a l.length c) l := by
 obtain ⟨v, l⟩ := k
 obtain ⟨a, c, rfl, _⟩ := rSQ h.parts.1
 exact ⟨l, a, c, rfl⟩
theorem kindOf_any (P : Nat->Prop) : ∀ (k : KindD) (w : World), IsKind P w k->sizeK (pK k)<=100000 →
 Calls Tryz.prog 109 #[kindV k] w fun e w' => KindOut (fun b => w.heap.size<=b) (pK k) e w'/\Below w.heap.size w w' := by
 refine KindD.ind (fun v l ih w h hsz => ?_)
 obtain ⟨hr, hm, hall⟩ := h.parts
 obtain ⟨a, c, rfl, hlc⟩ := rSQ hr
 have hgr := gBQ (gBQ (gAQ w (.cells #[.slice a l.length c] 24)) (gAQ _ (.cells #[.slice none 0 0] 24))) (gAQ _ (.cells #[.slice none 0 0] 24))
 have hg1 := gAQ (w.alloc (.cells #[.slice a l.length c] 24)) (.cells #[.slice none 0 0] 24)
 have hg2 := gAQ ((w.alloc (.cells #[.slice a l.length c] 24)).alloc (.cells #[.slice none 0 0] 24)) (.cells #[.slice none 0 0] 24)
 have s1 : (w.alloc (.cells #[.slice a l.length c] 24)).heap.size = w.heap.size + 1 := by simp
 have s2 : ((w.alloc (.cells #[.slice a l.length c] 24)).alloc (.cells #[.slice none 0 0] 24)).heap.size = w.heap.size + 1 + 1 := by simp
 have k0 := (hg2.block w.heap.size (by omega) (by nofun)).trans ((hg1.block w.heap.size (by omega) (by nofun)).trans (nHQ w (.cells #[.slice a l.length c] 24)))
 have k1 := (hg2.block (w.heap.size + 1) (by omega) (by nofun)).trans ((congrArg _ s1.symm).trans (nHQ (w.alloc (.cells #[.slice a l.length c] 24)) (.cells #[.slice none 0 0] 24)))
 have k2 : (((w.alloc (.cells #[.slice a l.length c] 24)).alloc (.cells #[.slice none 0 0] 24)).alloc (.cells #[.slice none 0 0] 24)).heap[w.heap.size + 1 + 1]? = some (.cells #[.slice none 0 0] 24 (0, 0)) := (congrArg _ s2.symm).trans (nHQ ((w.alloc (.cells #[.slice a l.length c] 24)).alloc (.cells #[.slice none 0 0] 24)) (.cells #[.slice none 0 0] 24))
 have s3 : (((w.alloc (.cells #[.slice a l.length c] 24)).alloc (.cells #[.slice none 0 0] 24)).alloc (.cells #[.slice none 0 0] 24)).heap.size = w.heap.size + 1 + 1 + 1 := by simp
 have HR := hJQ hr
 have HA := hJQ hall
 have HI := hJQ ih
 rw [pureK_mk] at hsz ⊢
 rw [sizeK_mk] at hsz
 have hm' : l.length<=9223372036854775807 := by
  have : maxLen = 9223372036854775807 := by decide
  omega
 clear hr hall ih h hm hg1 hg2 s1 s2
 rw [show kindV (.mk (.slice a l.length c) l) = .agg #[.slice a l.length c] from rfl]
 go_enter Tryz.func109, Tryz.ntmps109
 have c0 := cOQ k0
 have c2 := cOQ k2
 go_wp2_with fail
 generalize (((w.alloc (.cells #[.slice a l.length c] 24)).alloc (.cells #[.slice none 0 0] 24)).alloc (.cells #[.slice none 0 0] 24)) = W0 at *
 have hbW := gUQ (B := w.heap.size) hgr (Nat.le_refl _) (by nofun)
 clear hgr c0 c2
 go_loopw [9] (fun i wr => ∃ (cv : Value) (ds : List KindD), ds.length<=l.length/\i = .int .i64 ds.length/\Hid (MkK wr (w.heap.size + 1 + 1 + 1) (w.heap.size + 1 + 1) cv ds/\ds.map pK = (l.map pK).take ds.length)/\Hid (wr.heap[w.heap.size + 1]? = some (.cells #[.slice none 0 0] 24 (0, 0)))/\Below w.heap.size w wr) (fun i _ => l.length - (intOf i).toNat)
 case atStart => exact ⟨.slice none 0 0, [], Nat.zero_le _, rfl, ⟨⟨k2, ⟨rfl, .inl ⟨rfl, rfl⟩⟩, (fun y hy => by cases hy), by omega, by omega⟩, rfl⟩, k1, hbW⟩
 case round =>
  rename World => V
  obtain ⟨cv, ds, hj, rfl, HM, H1, hbV⟩ := hrel
  obtain ⟨oa, oc, hcv⟩ := HM.out.1.slice
  subst hcv
  have hszV := HM.out.1.lt
  have x2 := cOQ HM.out.1.cell
  have fz2 : V.frozen? ⟨w.heap.size + 1 + 1, 0, none⟩ = false := Lib.frozen_of_heap HM.out.1.cell 0
  by_cases hjl : ds.length < l.length
  ·have HK := hJQ (Kept.of_below (P := P) hbV)
   obtain ⟨b, off, m, l', ka, kc, fd, hbl, hq, hy, hm', HT, e0⟩ := kind_at (HK.out.row HR.out) (fun y hy => HK.out.kind (HA.out y hy)) ds.length hjl
   subst fd
   have HT := hJQ HT
   have hgX := gAQ V (.cells #[.slice ka m kc] 24)
   have f0 := cOQ (nHQ V (.cells #[.slice ka m kc] 24))
   have hsl : sizeK (pK (.mk (.slice ka m kc) l'))<=100000 := by
    have := sizeKL_ge (l.map pK) ds.length (by rw [List.length_map]; exact hjl)
    rw [map_getD pK l ds.length hjl, hq] at this
    omega
   have HMX := hJQ (HM.out.1.grown hgX)
   have H1X := hJQ ((hgX.block _ (by omega) (by nofun)).trans H1.out)
   have x2' := cOQ HMX.out.cell
   have hszX : (V.alloc (.cells #[.slice ka m kc] 24)).heap.size = V.heap.size + 1 := by simp
   have hbX : Below w.heap.size w (V.alloc (.cells #[.slice ka m kc] 24)) := hbV.alloc (by omega) _
   have HC : Hid (∀ W, (V.alloc (.cells #[.slice ka m kc] 24)).grownBy W none->Calls Tryz.prog 109 #[.agg #[.slice ka m kc]] W fun e w' => KindOut (fun b => W.heap.size<=b) (pK (.mk (.slice ka m kc) l')) e w'/\Below W.heap.size W w') := fun W hW => HI.out _ hm' W ((hy.grown hgX (by nofun)).grown hW (by nofun)) hsl
   clear hm' hq hy hsl x2
   have hll : l.length<=100000 := by
    have : ∀ q : List Kd, q.length<=sizeKL q := fun q => by
     induction q with
     | nil => simp
     | cons x r ih => rw [sizeKL_cons, List.length_cons]; have := sizeK_pos x; omega
    have := this (l.map pK)
    rw [List.length_map] at this
    omega
   generalize pK (.mk (.slice ka m kc) l') = py at *
   obtain ⟨ii0, hii, hiz0, hiz1, hiz2⟩ := info_parts info_kind
   go_upto_region 5 with fail
   generalize V.alloc (.cells #[.slice ka m kc] 24) = VX at *
   go_region_law
    (first
      | (fail_if_success (have guard9 := hb1)
         go_simp; go_at_call 109
         refine (HC.out _ (gDQ VX)).mono ?_
         rintro e w1 ⟨⟨d, rfl, hd, hpd⟩, hb1⟩
         have hg9 := gBQ (gDQ VX) (gLQ hb1)
         have HM1 := hJQ (HMX.out.grown hg9)
         have y2 := cOQ HM1.out.cell
         obtain ⟨ld, da, dc, hdk⟩ := kind_shape hd
         subst hdk
         have HD := hJQ hd
         have HPD := hJQ hpd
         have hkv : kindV (.mk (.slice da ld.length dc) ld) = .agg #[.slice da ld.length dc] := rfl
         rw [hkv]
         have y3 := (World.cell?_of_block (a := ⟨w.heap.size + 1 + 1, 0, none⟩) ((gAQ w1 (.cells #[.slice da ld.length dc] 24)).block (w.heap.size + 1 + 1) (by have := HM1.out.lt; omega) (by nofun))).trans y2)
      | (have guard9 := hb1; clear guard9
         refine step_append_lies _ (by rfl) _ _ _ (by rfl) (w.heap.size + 1 + 1 + 1) 24 ii0 (.agg #[.slice none 0 0]) 1 24 Tryz.underlying22 hii hiz0 hiz1 hiz2 (by rfl) (by decide) _ ds.length (kindCells ds) (by rfl) (HM1.out.own.alloc _) ⟨w1.heap.size, 0, none⟩ 1 1 [.slice da ld.length dc] (by rfl) (by rfl) (World.news_of_block (cs := #[.slice da ld.length dc]) (nHQ w1 _)) (by intro u hu; simp at hu; subst hu; rfl) (by decide) (by unfold maxLen; omega) (by omega) (by have := HM1.out.lt; simp; omega) _ rfl ?_
         intro gN cN w4 hown4 hgrow4 hat4 hlt4
         have HK4 := hJQ ((hgrow4.block (w.heap.size + 1 + 1) (by have := HM1.out.lt; simp; omega) (fun e => by have := HM1.out.own.lt _ e.symm; omega)).trans (((gAQ w1 (.cells #[.slice da ld.length dc] 24)).block (w.heap.size + 1 + 1) (by have := HM1.out.lt; omega) (by nofun)).trans HM1.out.cell))
         have y4 := cOQ HK4.out
         have fz4 : w4.frozen? ⟨w.heap.size + 1 + 1, 0, none⟩ = false := Lib.frozen_of_heap HK4.out 0))
   all_goals
    have hown9 := HMX.out.own
    have hB9 := HMX.out.lt
    have hMK := HM1.out.push (y := .mk (.slice da ld.length dc) ld) (HD.out.mono (fun b hb _ => ⟨(by have hb : VX.heap.size<=b := hb; omega), fun e => by have hb : VX.heap.size<=b := hb; have := (hown9.lt b e).2; omega⟩)) hown4 hgrow4 hat4
    have hB1 := HM1.out.lt
    have hgA := gAQ w1 (.cells #[.slice da ld.length dc] 24)
    have hgS := gSQ w4 (w.heap.size + 1 + 1) 0 (.slice (some ⟨gN, 0, none⟩) (ds.length + 1) cN)
    have hbF : Below w.heap.size w (w4.setCell ⟨w.heap.size + 1 + 1, 0, none⟩ (.slice (some ⟨gN, 0, none⟩) (ds.length + 1) cN)) := (((hbX.trans (gUQ hg9 (by omega) (by nofun))).trans (gUQ hgA (by omega) (by nofun))).trans (gUQ hgrow4 (by have := hgA.size; omega) (fun q hq => by have := HM1.out.own.lt q hq; omega))).trans (gUQ hgS (by have := hgrow4.size; have := hgA.size; omega) (fun q hq => by cases hq; omega))
    have hH1 : (w4.setCell ⟨w.heap.size + 1 + 1, 0, none⟩ (.slice (some ⟨gN, 0, none⟩) (ds.length + 1) cN)).heap[w.heap.size + 1]? = some (.cells #[.slice none 0 0] 24 (0, 0)) := by
     rw [hgS.block _ (by have := hgrow4.size; have := hgA.size; omega) (fun e => by have e2 : w.heap.size + 1 = w.heap.size + 1 + 1 := oJQ e; omega), hgrow4.block _ (by have := hgA.size; omega) (fun e => by have := HM1.out.own.lt _ e.symm; omega), hgA.block _ (by omega) (by nofun), hg9.block _ (by omega) (by nofun)]
     exact H1X.out
    have HZ : Hid (MkK (w4.setCell ⟨w.heap.size + 1 + 1, 0, none⟩ (.slice (some ⟨gN, 0, none⟩) (ds.length + 1) cN)) (w.heap.size + 1 + 1 + 1) (w.heap.size + 1 + 1) (.slice (some ⟨gN, 0, none⟩) (ds.length + 1) cN) (ds ++ [.mk (.slice da ld.length dc) ld])/\(ds ++ [KindD.mk (.slice da ld.length dc) ld]).map pK = (l.map pK).take (ds ++ [KindD.mk (.slice da ld.length dc) ld]).length) := by
     refine ⟨hMK, ?_⟩
     rw [List.map_append, HM.out.2, List.length_append, show [KindD.mk (.slice da ld.length dc) ld].length = 1 from rfl, HT.out, ← HPD.out]; rfl
    have HBF := hJQ hbF
    have HH1 := hJQ hH1
    clear hown9 hMK hgA hgS hbF hH1 hown4 hgrow4 hat4 HM1 HMX HD hd hg9 hb1
    go_wp2_with fail
    go_roundw
    case rel => exact ⟨_, ds ++ [.mk (.slice da ld.length dc) ld], by rw [List.length_append]; exact hjl, by rw [List.length_append]; go_num, HZ, HH1, HBF.out⟩
    case measure => simp [intOf]; omega
  ·have hjl' : Hid (ds.length = l.length) := by show _ = _; omega
   have hset := set1 H1.out (.slice oa ds.length oc)
   have x1 := cOQ H1.out
   have fz1 : V.frozen? ⟨w.heap.size + 1, 0, none⟩ = false := Lib.frozen_of_heap H1.out 0
   have HS := hJQ hset
   have hnot : ¬ (ds.length : Int) < l.length := by omega
   have HD : Hid (IsKind (fun b => w.heap.size<=b) (V.setCell ⟨w.heap.size + 1, 0, none⟩ (.slice oa ds.length oc)) (.mk (.slice oa ds.length oc) ds)/\pK (.mk (.slice oa ds.length oc) ds) = .mk (l.map pK)) := by
    have hgw : ∀ q, some (w.heap.size + 1) = some q->¬ (w.heap.size + 1 + 1 + 1<=q) := fun q hq => by have e2 : w.heap.size + 1 = q := oJQ hq; omega
    refine ⟨?_, ?_⟩
    ·refine IsKind.mk (RowP.grown (rowP_owns (P := fun b => w.heap.size + 1 + 1 + 1<=b) HM.out.1.own (fun b hb => hb)) hset.2 hgw |>.mono (fun b hb _ => by have hb : w.heap.size + 1 + 1 + 1<=b := hb; show w.heap.size<=b; omega)) (by unfold maxLen; omega) (fun y hy => ?_)
     exact ((HM.out.1.els y hy).grown hset.2 (fun q hq hp => hgw q hq hp.1)).mono (fun b hb _ => by have := hb.1; show w.heap.size<=b; omega)
    ·rw [pureK_mk, HM.out.2, hjl'.out, take_all]
   have HBF := hJQ (hbV.trans (gUQ (B := w.heap.size) hset.2 (by omega) (fun q hq => by have e2 : w.heap.size + 1 = q := oJQ hq; omega)))
   clear hset
   go_wp2_with fail
   refine bodyPost_ret (results_cell_row rfl _ _ (w.heap.size + 1) 24 #[.slice oa ds.length oc] (0, 0) _ rfl HS.out.1 Tryz.underlying24 rfl kind_info) rfl ?_
   exact ⟨⟨_, rfl, HD.out.1, HD.out.2⟩, HBF.out⟩
theorem copiedKind_any (P : Nat->Prop) : ∀ (k : KindD) (w : World), IsKind P w k->sizeK (pK k)<=100000 →
 Calls Tryz.prog 55 #[kindV k] w fun e w' => KindOut (fun b => w.heap.size<=b) (pK k) e w'/\Below w.heap.size w w' := by
 refine KindD.ind (fun v l ih w h hsz => ?_)
 obtain ⟨hr, hm, hall⟩ := h.parts
 obtain ⟨a, c, rfl, hlc⟩ := rSQ hr
 have hgr := gBQ (gBQ (gAQ w (.cells #[.slice a l.length c] 24)) (gAQ _ (.cells #[.slice none 0 0] 24))) (gAQ _ (.cells #[.slice none 0 0] 24))
 have hg1 := gAQ (w.alloc (.cells #[.slice a l.length c] 24)) (.cells #[.slice none 0 0] 24)
 have hg2 := gAQ ((w.alloc (.cells #[.slice a l.length c] 24)).alloc (.cells #[.slice none 0 0] 24)) (.cells #[.slice none 0 0] 24)
 have s1 : (w.alloc (.cells #[.slice a l.length c] 24)).heap.size = w.heap.size + 1 := by simp
 have s2 : ((w.alloc (.cells #[.slice a l.length c] 24)).alloc (.cells #[.slice none 0 0] 24)).heap.size = w.heap.size + 1 + 1 := by simp
 have k0 := (hg2.block w.heap.size (by omega) (by nofun)).trans ((hg1.block w.heap.size (by omega) (by nofun)).trans (nHQ w (.cells #[.slice a l.length c] 24)))
 have k1 := (hg2.block (w.heap.size + 1) (by omega) (by nofun)).trans ((congrArg _ s1.symm).trans (nHQ (w.alloc (.cells #[.slice a l.length c] 24)) (.cells #[.slice none 0 0] 24)))
 have k2 : (((w.alloc (.cells #[.slice a l.length c] 24)).alloc (.cells #[.slice none 0 0] 24)).alloc (.cells #[.slice none 0 0] 24)).heap[w.heap.size + 1 + 1]? = some (.cells #[.slice none 0 0] 24 (0, 0)) := (congrArg _ s2.symm).trans (nHQ ((w.alloc (.cells #[.slice a l.length c] 24)).alloc (.cells #[.slice none 0 0] 24)) (.cells #[.slice none 0 0] 24))
 have s3 : (((w.alloc (.cells #[.slice a l.length c] 24)).alloc (.cells #[.slice none 0 0] 24)).alloc (.cells #[.slice none 0 0] 24)).heap.size = w.heap.size + 1 + 1 + 1 := by simp
 have HR := hJQ hr
 have HA := hJQ hall
 have HI := hJQ ih
 rw [pureK_mk] at hsz ⊢
 rw [sizeK_mk] at hsz
 have hm' : l.length<=9223372036854775807 := by
  have : maxLen = 9223372036854775807 := by decide
  omega
 clear hr hall ih h hm hg1 hg2 s1 s2
 rw [show kindV (.mk (.slice a l.length c) l) = .agg #[.slice a l.length c] from rfl]
 go_enter Tryz.func55, Tryz.ntmps55
 have c0 := cOQ k0
 have c2 := cOQ k2
 go_wp2_with fail
 generalize (((w.alloc (.cells #[.slice a l.length c] 24)).alloc (.cells #[.slice none 0 0] 24)).alloc (.cells #[.slice none 0 0] 24)) = W0 at *
 have hbW := gUQ (B := w.heap.size) hgr (Nat.le_refl _) (by nofun)
 clear hgr c0 c2
 go_loopw [9] (fun i wr => ∃ (cv : Value) (ds : List KindD), ds.length<=l.length/\i = .int .i64 ds.length/\Hid (MkK wr (w.heap.size + 1 + 1 + 1) (w.heap.size + 1 + 1) cv ds/\ds.map pK = (l.map pK).take ds.length)/\Hid (wr.heap[w.heap.size + 1]? = some (.cells #[.slice none 0 0] 24 (0, 0)))/\Below w.heap.size w wr) (fun i _ => l.length - (intOf i).toNat)
 case atStart => exact ⟨.slice none 0 0, [], Nat.zero_le _, rfl, ⟨⟨k2, ⟨rfl, .inl ⟨rfl, rfl⟩⟩, (fun y hy => by cases hy), by omega, by omega⟩, rfl⟩, k1, hbW⟩
 case round =>
  rename World => V
  obtain ⟨cv, ds, hj, rfl, HM, H1, hbV⟩ := hrel
  obtain ⟨oa, oc, hcv⟩ := HM.out.1.slice
  subst hcv
  have hszV := HM.out.1.lt
  have x2 := cOQ HM.out.1.cell
  have fz2 : V.frozen? ⟨w.heap.size + 1 + 1, 0, none⟩ = false := Lib.frozen_of_heap HM.out.1.cell 0
  by_cases hjl : ds.length < l.length
  ·have HK := hJQ (Kept.of_below (P := P) hbV)
   obtain ⟨b, off, m, l', ka, kc, fd, hbl, hq, hy, hm', HT, e0⟩ := kind_at (HK.out.row HR.out) (fun y hy => HK.out.kind (HA.out y hy)) ds.length hjl
   subst fd
   have HT := hJQ HT
   have hgX := gAQ V (.cells #[.slice ka m kc] 24)
   have f0 := cOQ (nHQ V (.cells #[.slice ka m kc] 24))
   have hsl : sizeK (pK (.mk (.slice ka m kc) l'))<=100000 := by
    have := sizeKL_ge (l.map pK) ds.length (by rw [List.length_map]; exact hjl)
    rw [map_getD pK l ds.length hjl, hq] at this
    omega
   have HMX := hJQ (HM.out.1.grown hgX)
   have H1X := hJQ ((hgX.block _ (by omega) (by nofun)).trans H1.out)
   have x2' := cOQ HMX.out.cell
   have hszX : (V.alloc (.cells #[.slice ka m kc] 24)).heap.size = V.heap.size + 1 := by simp
   have hbX : Below w.heap.size w (V.alloc (.cells #[.slice ka m kc] 24)) := hbV.alloc (by omega) _
   have HC : Hid (∀ W, (V.alloc (.cells #[.slice ka m kc] 24)).grownBy W none->Calls Tryz.prog 55 #[.agg #[.slice ka m kc]] W fun e w' => KindOut (fun b => W.heap.size<=b) (pK (.mk (.slice ka m kc) l')) e w'/\Below W.heap.size W w') := fun W hW => HI.out _ hm' W ((hy.grown hgX (by nofun)).grown hW (by nofun)) hsl
   clear hm' hq hy hsl x2
   have hll : l.length<=100000 := by
    have : ∀ q : List Kd, q.length<=sizeKL q := fun q => by
     induction q with
     | nil => simp
     | cons x r ih => rw [sizeKL_cons, List.length_cons]; have := sizeK_pos x; omega
    have := this (l.map pK)
    rw [List.length_map] at this
    omega
   generalize pK (.mk (.slice ka m kc) l') = py at *
   obtain ⟨ii0, hii, hiz0, hiz1, hiz2⟩ := info_parts info_kind
   go_upto_region 5 with fail
   generalize V.alloc (.cells #[.slice ka m kc] 24) = VX at *
   go_region_law
    (first
      | (fail_if_success (have guard9 := hb1)
         go_simp; go_at_call 55
         refine (HC.out _ (gDQ VX)).mono ?_
         rintro e w1 ⟨⟨d, rfl, hd, hpd⟩, hb1⟩
         have hg9 := gBQ (gDQ VX) (gLQ hb1)
         have HM1 := hJQ (HMX.out.grown hg9)
         have y2 := cOQ HM1.out.cell
         obtain ⟨ld, da, dc, hdk⟩ := kind_shape hd
         subst hdk
         have HD := hJQ hd
         have HPD := hJQ hpd
         have hkv : kindV (.mk (.slice da ld.length dc) ld) = .agg #[.slice da ld.length dc] := rfl
         rw [hkv]
         have y3 := (World.cell?_of_block (a := ⟨w.heap.size + 1 + 1, 0, none⟩) ((gAQ w1 (.cells #[.slice da ld.length dc] 24)).block (w.heap.size + 1 + 1) (by have := HM1.out.lt; omega) (by nofun))).trans y2)
      | (have guard9 := hb1; clear guard9
         refine step_append_lies _ (by rfl) _ _ _ (by rfl) (w.heap.size + 1 + 1 + 1) 24 ii0 (.agg #[.slice none 0 0]) 1 24 Tryz.underlying22 hii hiz0 hiz1 hiz2 (by rfl) (by decide) _ ds.length (kindCells ds) (by rfl) (HM1.out.own.alloc _) ⟨w1.heap.size, 0, none⟩ 1 1 [.slice da ld.length dc] (by rfl) (by rfl) (World.news_of_block (cs := #[.slice da ld.length dc]) (nHQ w1 _)) (by intro u hu; simp at hu; subst hu; rfl) (by decide) (by unfold maxLen; omega) (by omega) (by have := HM1.out.lt; simp; omega) _ rfl ?_
         intro gN cN w4 hown4 hgrow4 hat4 hlt4
         have HK4 := hJQ ((hgrow4.block (w.heap.size + 1 + 1) (by have := HM1.out.lt; simp; omega) (fun e => by have := HM1.out.own.lt _ e.symm; omega)).trans (((gAQ w1 (.cells #[.slice da ld.length dc] 24)).block (w.heap.size + 1 + 1) (by have := HM1.out.lt; omega) (by nofun)).trans HM1.out.cell))
         have y4 := cOQ HK4.out
         have fz4 : w4.frozen? ⟨w.heap.size + 1 + 1, 0, none⟩ = false := Lib.frozen_of_heap HK4.out 0))
   all_goals
    have hown9 := HMX.out.own
    have hB9 := HMX.out.lt
    have hMK := HM1.out.push (y := .mk (.slice da ld.length dc) ld) (HD.out.mono (fun b hb _ => ⟨(by have hb : VX.heap.size<=b := hb; omega), fun e => by have hb : VX.heap.size<=b := hb; have := (hown9.lt b e).2; omega⟩)) hown4 hgrow4 hat4
    have hB1 := HM1.out.lt
    have hgA := gAQ w1 (.cells #[.slice da ld.length dc] 24)
    have hgS := gSQ w4 (w.heap.size + 1 + 1) 0 (.slice (some ⟨gN, 0, none⟩) (ds.length + 1) cN)
    have hbF : Below w.heap.size w (w4.setCell ⟨w.heap.size + 1 + 1, 0, none⟩ (.slice (some ⟨gN, 0, none⟩) (ds.length + 1) cN)) := (((hbX.trans (gUQ hg9 (by omega) (by nofun))).trans (gUQ hgA (by omega) (by nofun))).trans (gUQ hgrow4 (by have := hgA.size; omega) (fun q hq => by have := HM1.out.own.lt q hq; omega))).trans (gUQ hgS (by have := hgrow4.size; have := hgA.size; omega) (fun q hq => by cases hq; omega))
    have hH1 : (w4.setCell ⟨w.heap.size + 1 + 1, 0, none⟩ (.slice (some ⟨gN, 0, none⟩) (ds.length + 1) cN)).heap[w.heap.size + 1]? = some (.cells #[.slice none 0 0] 24 (0, 0)) := by
     rw [hgS.block _ (by have := hgrow4.size; have := hgA.size; omega) (fun e => by have e2 : w.heap.size + 1 = w.heap.size + 1 + 1 := oJQ e; omega), hgrow4.block _ (by have := hgA.size; omega) (fun e => by have := HM1.out.own.lt _ e.symm; omega), hgA.block _ (by omega) (by nofun), hg9.block _ (by omega) (by nofun)]
     exact H1X.out
    have HZ : Hid (MkK (w4.setCell ⟨w.heap.size + 1 + 1, 0, none⟩ (.slice (some ⟨gN, 0, none⟩) (ds.length + 1) cN)) (w.heap.size + 1 + 1 + 1) (w.heap.size + 1 + 1) (.slice (some ⟨gN, 0, none⟩) (ds.length + 1) cN) (ds ++ [.mk (.slice da ld.length dc) ld])/\(ds ++ [KindD.mk (.slice da ld.length dc) ld]).map pK = (l.map pK).take (ds ++ [KindD.mk (.slice da ld.length dc) ld]).length) := by
     refine ⟨hMK, ?_⟩
     rw [List.map_append, HM.out.2, List.length_append, show [KindD.mk (.slice da ld.length dc) ld].length = 1 from rfl, HT.out, ← HPD.out]; rfl
    have HBF := hJQ hbF
    have HH1 := hJQ hH1
    clear hown9 hMK hgA hgS hbF hH1 hown4 hgrow4 hat4 HM1 HMX HD hd hg9 hb1
    go_wp2_with fail
    go_roundw
    case rel => exact ⟨_, ds ++ [.mk (.slice da ld.length dc) ld], by rw [List.length_append]; exact hjl, by rw [List.length_append]; go_num, HZ, HH1, HBF.out⟩
    case measure => simp [intOf]; omega
  ·have hjl' : Hid (ds.length = l.length) := by show _ = _; omega
   have hset := set1 H1.out (.slice oa ds.length oc)
   have x1 := cOQ H1.out
   have fz1 : V.frozen? ⟨w.heap.size + 1, 0, none⟩ = false := Lib.frozen_of_heap H1.out 0
   have HS := hJQ hset
   have hnot : ¬ (ds.length : Int) < l.length := by omega
   have HD : Hid (IsKind (fun b => w.heap.size<=b) (V.setCell ⟨w.heap.size + 1, 0, none⟩ (.slice oa ds.length oc)) (.mk (.slice oa ds.length oc) ds)/\pK (.mk (.slice oa ds.length oc) ds) = .mk (l.map pK)) := by
    have hgw : ∀ q, some (w.heap.size + 1) = some q->¬ (w.heap.size + 1 + 1 + 1<=q) := fun q hq => by have e2 : w.heap.size + 1 = q := oJQ hq; omega
    refine ⟨?_, ?_⟩
    ·refine IsKind.mk (RowP.grown (rowP_owns (P := fun b => w.heap.size + 1 + 1 + 1<=b) HM.out.1.own (fun b hb => hb)) hset.2 hgw |>.mono (fun b hb _ => by have hb : w.heap.size + 1 + 1 + 1<=b := hb; show w.heap.size<=b; omega)) (by unfold maxLen; omega) (fun y hy => ?_)
     exact ((HM.out.1.els y hy).grown hset.2 (fun q hq hp => hgw q hq hp.1)).mono (fun b hb _ => by have := hb.1; show w.heap.size<=b; omega)
    ·rw [pureK_mk, HM.out.2, hjl'.out, take_all]
   have HBF := hJQ (hbV.trans (gUQ (B := w.heap.size) hset.2 (by omega) (fun q hq => by have e2 : w.heap.size + 1 = q := oJQ hq; omega)))
   clear hset
   go_wp2_with fail
   refine bodyPost_ret (results_cell_row rfl _ _ (w.heap.size + 1) 24 #[.slice oa ds.length oc] (0, 0) _ rfl HS.out.1 Tryz.underlying24 rfl kind_info) rfl ?_
   exact ⟨⟨_, rfl, HD.out.1, HD.out.2⟩, HBF.out⟩
end Go.Proofs.YtkiffgdinmpljaaGreatDoor

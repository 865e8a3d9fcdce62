/- tycon.kindOf, normal.copiedKind. Printed by gen_kind.py, expanded by mac.py. Walks of regions that draw their order, by hand: a run of takes, one operation alone, a store of a whole row. leafOf. Printed by gen_leaf.py, expanded by mac.py. -/
import Derived.Test.YtkiffgdinmpljaaGreatDoorF4
import Derived.Laws.Tables
import Derived.Laws.Rows
import Derived.Deep.RegionHeld
set_option linter.unusedVariables false
set_option linter.unusedSimpArgs false
namespace Go.Proofs.YtkiffgdinmpljaaGreatDoor
open Go Go.RowKit
set_option maxHeartbeats 8000000
set_option maxRecDepth 100000
theorem kind_shape {P : Nat->Prop} {w : World} {k : KindD} (h : IsKind P w k) : ∃ l a c, k = .mk (.slice a l.length c) l := by
 obtain ⟨v, l⟩ := k
 obtain ⟨a, c, rfl, _⟩ := rSQ h.parts.1
 exact ⟨l, a, c, rfl⟩
theorem kindOf_any (P : Nat->Prop) : ∀ (k : KindD) (w : World), IsKind P w k->sizeK (pK k)<=100000 →
 Calls Tryz.prog 109 #[kindV k] w fun e w' => KindOut (fun b => w.heap.size<=b) (pK k) e w'/\Below w.heap.size w w' := by
 refine KindD.ind (fun v l ih w h hsz => ?_)
 obtain ⟨hr, hm, hall⟩ := h.parts
 obtain ⟨a, c, rfl, hlc⟩ := rSQ hr
 have hgr := gBQ (gBQ (gAQ w (.cells #[.slice a l.length c] 24)) (gAQ _ (.cells #[.slice none 0 0] 24))) (gAQ _ (.cells #[.slice none 0 0] 24))
 have hg1 := gAQ (w.alloc (.cells #[.slice a l.length c] 24)) (.cells #[.slice none 0 0] 24)
 have hg2 := gAQ ((w.alloc (.cells #[.slice a l.length c] 24)).alloc (.cells #[.slice none 0 0] 24)) (.cells #[.slice none 0 0] 24)
 have s1 : (w.alloc (.cells #[.slice a l.length c] 24)).heap.size = w.heap.size + 1 := by simp
 have s2 : ((w.alloc (.cells #[.slice a l.length c] 24)).alloc (.cells #[.slice none 0 0] 24)).heap.size = w.heap.size + 1 + 1 := by simp
 have k0 := (hg2.block w.heap.size (by omega) (by nofun)).trans ((hg1.block w.heap.size (by omega) (by nofun)).trans (nHQ w (.cells #[.slice a l.length c] 24)))
 have k1 := (hg2.block (w.heap.size + 1) (by omega) (by nofun)).trans ((congrArg _ s1.symm).trans (nHQ (w.alloc (.cells #[.slice a l.length c] 24)) (.cells #[.slice none 0 0] 24)))
 have k2 : (((w.alloc (.cells #[.slice a l.length c] 24)).alloc (.cells #[.slice none 0 0] 24)).alloc (.cells #[.slice none 0 0] 24)).heap[w.heap.size + 1 + 1]? = some (.cells #[.slice none 0 0] 24 (0, 0)) := (congrArg _ s2.symm).trans (nHQ ((w.alloc (.cells #[.slice a l.length c] 24)).alloc (.cells #[.slice none 0 0] 24)) (.cells #[.slice none 0 0] 24))
 have s3 : (((w.alloc (.cells #[.slice a l.length c] 24)).alloc (.cells #[.slice none 0 0] 24)).alloc (.cells #[.slice none 0 0] 24)).heap.size = w.heap.size + 1 + 1 + 1 := by simp
 have HR := hJQ hr
 have HA := hJQ hall
 have HI := hJQ ih
 rw [pureK_mk] at hsz ⊢
 rw [sizeK_mk] at hsz
 have hm' : l.length<=9223372036854775807 := by
  have : maxLen = 9223372036854775807 := by decide
  omega
 clear hr hall ih h hm hg1 hg2 s1 s2
 rw [show kindV (.mk (.slice a l.length c) l) = .agg #[.slice a l.length c] from rfl]
 go_enter Tryz.func109, Tryz.ntmps109
 have c0 := cOQ k0
 have c2 := cOQ k2
 go_wp2_with fail
 generalize (((w.alloc (.cells #[.slice a l.length c] 24)).alloc (.cells #[.slice none 0 0] 24)).alloc (.cells #[.slice none 0 0] 24)) = W0 at *
 have hbW := gUQ (B := w.heap.size) hgr (nLQ _) (by nofun)
 clear hgr c0 c2
 go_loopw [9] (fun i wr => ∃ (cv : Value) (ds : List KindD), ds.length<=l.length/\i = .int .i64 ds.length/\Hid (MkK wr (w.heap.size + 1 + 1 + 1) (w.heap.size + 1 + 1) cv ds/\ds.map pK = (l.map pK).take ds.length)/\Hid (wr.heap[w.heap.size + 1]? = some (.cells #[.slice none 0 0] 24 (0, 0)))/\Below w.heap.size w wr) (fun i _ => l.length - (intOf i).toNat)
 case atStart => exact ⟨.slice none 0 0, [], Nat.zero_le _, rfl, ⟨⟨k2, ⟨rfl, .inl ⟨rfl, rfl⟩⟩, (fun y hy => by cases hy), by omega, by omega⟩, rfl⟩, k1, hbW⟩
 case round =>
  rename World => V
  obtain ⟨cv, ds, hj, rfl, HM, H1, hbV⟩ := hrel
  obtain ⟨oa, oc, hcv⟩ := HM.out.1.slice
  subst hcv
  have hszV := HM.out.1.lt
  have x2 := cOQ HM.out.1.cell
  have fz2 : V.frozen? ⟨w.heap.size + 1 + 1, 0, none⟩ = false := Lib.frozen_of_heap HM.out.1.cell 0
  by_cases hjl : ds.length < l.length
  ·have HK := hJQ (Kept.of_below (P := P) hbV)
   obtain ⟨b, off, m, l', ka, kc, fd, hbl, hq, hy, hm', HT, e0⟩ := kind_at (HK.out.row HR.out) (fun y hy => HK.out.kind (HA.out y hy)) ds.length hjl
   subst fd
   have HT := hJQ HT
   have hgX := gAQ V (.cells #[.slice ka m kc] 24)
   have f0 := cOQ (nHQ V (.cells #[.slice ka m kc] 24))
   have hsl : sizeK (pK (.mk (.slice ka m kc) l'))<=100000 := by
    have := sizeKL_ge (l.map pK) ds.length (by rw [List.length_map]; exact hjl)
    rw [map_getD pK l ds.length hjl, hq] at this
    omega
   have HMX := hJQ (HM.out.1.grown hgX)
   have H1X := hJQ ((hgX.block _ (by omega) (by nofun)).trans H1.out)
   have x2' := cOQ HMX.out.cell
   have hszX : (V.alloc (.cells #[.slice ka m kc] 24)).heap.size = V.heap.size + 1 := by simp
   have hbX : Below w.heap.size w (V.alloc (.cells #[.slice ka m kc] 24)) := hbV.alloc (by omega) _
   have HC : Hid (∀ W, (V.alloc (.cells #[.slice ka m kc] 24)).grownBy W none->Calls Tryz.prog 109 #[.agg #[.slice ka m kc]] W fun e w' => KindOut (fun b => W.heap.size<=b) (pK (.mk (.slice ka m kc) l')) e w'/\Below W.heap.size W w') := fun W hW => HI.out _ hm' W ((hy.grown hgX (by nofun)).grown hW (by nofun)) hsl
   clear hm' hq hy hsl x2
   have hll : l.length<=100000 := by
    have : ∀ q : List Kd, q.length<=sizeKL q := fun q => by
     induction q with
     | nil => simp
     | cons x r ih => rw [sizeKL_cons, List.length_cons]; have := sizeK_pos x; omega
    have := this (l.map pK)
    rw [List.length_map] at this
    omega
   generalize pK (.mk (.slice ka m kc) l') = py at *
   obtain ⟨ii0, hii, hiz0, hiz1, hiz2⟩ := info_parts info_kind
   go_upto_region 5 with fail
   generalize V.alloc (.cells #[.slice ka m kc] 24) = VX at *
   go_region_law
    (first
      | (fail_if_success (have guard9 := hb1)
         go_simp; go_at_call 109
         refine (HC.out _ (gDQ VX)).mono ?_
         rintro e w1 ⟨⟨d, rfl, hd, hpd⟩, hb1⟩
         have hg9 := gBQ (gDQ VX) (gLQ hb1)
         have HM1 := hJQ (HMX.out.grown hg9)
         have y2 := cOQ HM1.out.cell
         obtain ⟨ld, da, dc, hdk⟩ := kind_shape hd
         subst hdk
         have HD := hJQ hd
         have HPD := hJQ hpd
         have hkv : kindV (.mk (.slice da ld.length dc) ld) = .agg #[.slice da ld.length dc] := rfl
         rw [hkv]
         have y3 := (World.cell?_of_block (a := ⟨w.heap.size + 1 + 1, 0, none⟩) ((gAQ w1 (.cells #[.slice da ld.length dc] 24)).block (w.heap.size + 1 + 1) (by have := HM1.out.lt; omega) (by nofun))).trans y2)
      | (have guard9 := hb1; clear guard9
         refine step_append_lies _ (by rfl) _ _ _ (by rfl) (w.heap.size + 1 + 1 + 1) 24 ii0 (.agg #[.slice none 0 0]) 1 24 Tryz.underlying22 hii hiz0 hiz1 hiz2 (by rfl) (by decide) _ ds.length (kindCells ds) (by rfl) (HM1.out.own.alloc _) ⟨w1.heap.size, 0, none⟩ 1 1 [.slice da ld.length dc] (by rfl) (by rfl) (World.news_of_block (cs := #[.slice da ld.length dc]) (nHQ w1 _)) (by intro u hu; simp at hu; subst hu; rfl) (by decide) (by unfold maxLen; omega) (by omega) (by have := HM1.out.lt; simp; omega) _ rfl ?_
         intro gN cN w4 hown4 hgrow4 hat4 hlt4
         have HK4 := hJQ ((hgrow4.block (w.heap.size + 1 + 1) (by have := HM1.out.lt; simp; omega) (fun e => by have := HM1.out.own.lt _ e.symm; omega)).trans (((gAQ w1 (.cells #[.slice da ld.length dc] 24)).block (w.heap.size + 1 + 1) (by have := HM1.out.lt; omega) (by nofun)).trans HM1.out.cell))
         have y4 := cOQ HK4.out
         have fz4 : w4.frozen? ⟨w.heap.size + 1 + 1, 0, none⟩ = false := Lib.frozen_of_heap HK4.out 0))
   all_goals
    have hown9 := HMX.out.own
    have hB9 := HMX.out.lt
    have hMK := HM1.out.push (y := .mk (.slice da ld.length dc) ld) (HD.out.mono (fun b hb _ => ⟨(by have hb : VX.heap.size<=b := hb; omega), fun e => by have hb : VX.heap.size<=b := hb; have := (hown9.lt b e).2; omega⟩)) hown4 hgrow4 hat4
    have hB1 := HM1.out.lt
    have hgA := gAQ w1 (.cells #[.slice da ld.length dc] 24)
    have hgS := gSQ w4 (w.heap.size + 1 + 1) 0 (.slice (some ⟨gN, 0, none⟩) (ds.length + 1) cN)
    have hbF : Below w.heap.size w (w4.setCell ⟨w.heap.size + 1 + 1, 0, none⟩ (.slice (some ⟨gN, 0, none⟩) (ds.length + 1) cN)) := (((hbX.trans (gUQ hg9 (by omega) (by nofun))).trans (gUQ hgA (by omega) (by nofun))).trans (gUQ hgrow4 (by have := hgA.size; omega) (fun q hq => by have := HM1.out.own.lt q hq; omega))).trans (gUQ hgS (by have := hgrow4.size; have := hgA.size; omega) (fun q hq => by cases hq; omega))
    have hH1 : (w4.setCell ⟨w.heap.size + 1 + 1, 0, none⟩ (.slice (some ⟨gN, 0, none⟩) (ds.length + 1) cN)).heap[w.heap.size + 1]? = some (.cells #[.slice none 0 0] 24 (0, 0)) := by
     rw [hgS.block _ (by have := hgrow4.size; have := hgA.size; omega) (fun e => by have e2 : w.heap.size + 1 = w.heap.size + 1 + 1 := oJQ e; omega), hgrow4.block _ (by have := hgA.size; omega) (fun e => by have := HM1.out.own.lt _ e.symm; omega), hgA.block _ (by omega) (by nofun), hg9.block _ (by omega) (by nofun)]
     exact H1X.out
    have HZ : Hid (MkK (w4.setCell ⟨w.heap.size + 1 + 1, 0, none⟩ (.slice (some ⟨gN, 0, none⟩) (ds.length + 1) cN)) (w.heap.size + 1 + 1 + 1) (w.heap.size + 1 + 1) (.slice (some ⟨gN, 0, none⟩) (ds.length + 1) cN) (ds ++ [.mk (.slice da ld.length dc) ld])/\(ds ++ [KindD.mk (.slice da ld.length dc) ld]).map pK = (l.map pK).take (ds ++ [KindD.mk (.slice da ld.length dc) ld]).length) := by
     refine ⟨hMK, ?_⟩
     rw [List.map_append, HM.out.2, List.length_append, show [KindD.mk (.slice da ld.length dc) ld].length = 1 from rfl, HT.out, ← HPD.out]; rfl
    have HBF := hJQ hbF
    have HH1 := hJQ hH1
    clear hown9 hMK hgA hgS hbF hH1 hown4 hgrow4 hat4 HM1 HMX HD hd hg9 hb1
    go_wp2_with fail
    go_roundw
    case rel => exact ⟨_, ds ++ [.mk (.slice da ld.length dc) ld], by rw [List.length_append]; exact hjl, by rw [List.length_append]; go_num, HZ, HH1, HBF.out⟩
    case measure => simp [intOf]; omega
  ·have hjl' : Hid (ds.length = l.length) := by show _ = _; omega
   have hset := set1 H1.out (.slice oa ds.length oc)
   have x1 := cOQ H1.out
   have fz1 : V.frozen? ⟨w.heap.size + 1, 0, none⟩ = false := Lib.frozen_of_heap H1.out 0
   have HS := hJQ hset
   have hnot : ¬ (ds.length : Int) < l.length := by omega
   have HD : Hid (IsKind (fun b => w.heap.size<=b) (V.setCell ⟨w.heap.size + 1, 0, none⟩ (.slice oa ds.length oc)) (.mk (.slice oa ds.length oc) ds)/\pK (.mk (.slice oa ds.length oc) ds) = .mk (l.map pK)) := by
    have hgw : ∀ q, some (w.heap.size + 1) = some q->¬ (w.heap.size + 1 + 1 + 1<=q) := fun q hq => by have e2 : w.heap.size + 1 = q := oJQ hq; omega
    refine ⟨?_, ?_⟩
    ·refine IsKind.mk (RowP.grown (rowP_owns (P := fun b => w.heap.size + 1 + 1 + 1<=b) HM.out.1.own (fun b hb => hb)) hset.2 hgw |>.mono (fun b hb _ => by have hb : w.heap.size + 1 + 1 + 1<=b := hb; show w.heap.size<=b; omega)) (by unfold maxLen; omega) (fun y hy => ?_)
     exact ((HM.out.1.els y hy).grown hset.2 (fun q hq hp => hgw q hq hp.1)).mono (fun b hb _ => by have := hb.1; show w.heap.size<=b; omega)
    ·rw [pureK_mk, HM.out.2, hjl'.out, take_all]
   have HBF := hJQ (hbV.trans (gUQ (B := w.heap.size) hset.2 (by omega) (fun q hq => by have e2 : w.heap.size + 1 = q := oJQ hq; omega)))
   clear hset
   go_wp2_with fail
   refine bodyPost_ret (results_cell_row rfl _ _ (w.heap.size + 1) 24 #[.slice oa ds.length oc] (0, 0) _ rfl HS.out.1 Tryz.underlying24 rfl kind_info) rfl ?_
   exact ⟨⟨_, rfl, HD.out.1, HD.out.2⟩, HBF.out⟩
theorem copiedKind_any (P : Nat->Prop) : ∀ (k : KindD) (w : World), IsKind P w k->sizeK (pK k)<=100000 →
 Calls Tryz.prog 55 #[kindV k] w fun e w' => KindOut (fun b => w.heap.size<=b) (pK k) e w'/\Below w.heap.size w w' := by
 refine KindD.ind (fun v l ih w h hsz => ?_)
 obtain ⟨hr, hm, hall⟩ := h.parts
 obtain ⟨a, c, rfl, hlc⟩ := rSQ hr
 have hgr := gBQ (gBQ (gAQ w (.cells #[.slice a l.length c] 24)) (gAQ _ (.cells #[.slice none 0 0] 24))) (gAQ _ (.cells #[.slice none 0 0] 24))
 have hg1 := gAQ (w.alloc (.cells #[.slice a l.length c] 24)) (.cells #[.slice none 0 0] 24)
 have hg2 := gAQ ((w.alloc (.cells #[.slice a l.length c] 24)).alloc (.cells #[.slice none 0 0] 24)) (.cells #[.slice none 0 0] 24)
 have s1 : (w.alloc (.cells #[.slice a l.length c] 24)).heap.size = w.heap.size + 1 := by simp
 have s2 : ((w.alloc (.cells #[.slice a l.length c] 24)).alloc (.cells #[.slice none 0 0] 24)).heap.size = w.heap.size + 1 + 1 := by simp
 have k0 := (hg2.block w.heap.size (by omega) (by nofun)).trans ((hg1.block w.heap.size (by omega) (by nofun)).trans (nHQ w (.cells #[.slice a l.length c] 24)))
 have k1 := (hg2.block (w.heap.size + 1) (by omega) (by nofun)).trans ((congrArg _ s1.symm).trans (nHQ (w.alloc (.cells #[.slice a l.length c] 24)) (.cells #[.slice none 0 0] 24)))
 have k2 : (((w.alloc (.cells #[.slice a l.length c] 24)).alloc (.cells #[.slice none 0 0] 24)).alloc (.cells #[.slice none 0 0] 24)).heap[w.heap.size + 1 + 1]? = some (.cells #[.slice none 0 0] 24 (0, 0)) := (congrArg _ s2.symm).trans (nHQ ((w.alloc (.cells #[.slice a l.length c] 24)).alloc (.cells #[.slice none 0 0] 24)) (.cells #[.slice none 0 0] 24))
 have s3 : (((w.alloc (.cells #[.slice a l.length c] 24)).alloc (.cells #[.slice none 0 0] 24)).alloc (.cells #[.slice none 0 0] 24)).heap.size = w.heap.size + 1 + 1 + 1 := by simp
 have HR := hJQ hr
 have HA := hJQ hall
 have HI := hJQ ih
 rw [pureK_mk] at hsz ⊢
 rw [sizeK_mk] at hsz
 have hm' : l.length<=9223372036854775807 := by
  have : maxLen = 9223372036854775807 := by decide
  omega
 clear hr hall ih h hm hg1 hg2 s1 s2
 rw [show kindV (.mk (.slice a l.length c) l) = .agg #[.slice a l.length c] from rfl]
 go_enter Tryz.func55, Tryz.ntmps55
 have c0 := cOQ k0
 have c2 := cOQ k2
 go_wp2_with fail
 generalize (((w.alloc (.cells #[.slice a l.length c] 24)).alloc (.cells #[.slice none 0 0] 24)).alloc (.cells #[.slice none 0 0] 24)) = W0 at *
 have hbW := gUQ (B := w.heap.size) hgr (nLQ _) (by nofun)
 clear hgr c0 c2
 go_loopw [9] (fun i wr => ∃ (cv : Value) (ds : List KindD), ds.length<=l.length/\i = .int .i64 ds.length/\Hid (MkK wr (w.heap.size + 1 + 1 + 1) (w.heap.size + 1 + 1) cv ds/\ds.map pK = (l.map pK).take ds.length)/\Hid (wr.heap[w.heap.size + 1]? = some (.cells #[.slice none 0 0] 24 (0, 0)))/\Below w.heap.size w wr) (fun i _ => l.length - (intOf i).toNat)
 case atStart => exact ⟨.slice none 0 0, [], Nat.zero_le _, rfl, ⟨⟨k2, ⟨rfl, .inl ⟨rfl, rfl⟩⟩, (fun y hy => by cases hy), by omega, by omega⟩, rfl⟩, k1, hbW⟩
 case round =>
  rename World => V
  obtain ⟨cv, ds, hj, rfl, HM, H1, hbV⟩ := hrel
  obtain ⟨oa, oc, hcv⟩ := HM.out.1.slice
  subst hcv
  have hszV := HM.out.1.lt
  have x2 := cOQ HM.out.1.cell
  have fz2 : V.frozen? ⟨w.heap.size + 1 + 1, 0, none⟩ = false := Lib.frozen_of_heap HM.out.1.cell 0
  by_cases hjl : ds.length < l.length
  ·have HK := hJQ (Kept.of_below (P := P) hbV)
   obtain ⟨b, off, m, l', ka, kc, fd, hbl, hq, hy, hm', HT, e0⟩ := kind_at (HK.out.row HR.out) (fun y hy => HK.out.kind (HA.out y hy)) ds.length hjl
   subst fd
   have HT := hJQ HT
   have hgX := gAQ V (.cells #[.slice ka m kc] 24)
   have f0 := cOQ (nHQ V (.cells #[.slice ka m kc] 24))
   have hsl : sizeK (pK (.mk (.slice ka m kc) l'))<=100000 := by
    have := sizeKL_ge (l.map pK) ds.length (by rw [List.length_map]; exact hjl)
    rw [map_getD pK l ds.length hjl, hq] at this
    omega
   have HMX := hJQ (HM.out.1.grown hgX)
   have H1X := hJQ ((hgX.block _ (by omega) (by nofun)).trans H1.out)
   have x2' := cOQ HMX.out.cell
   have hszX : (V.alloc (.cells #[.slice ka m kc] 24)).heap.size = V.heap.size + 1 := by simp
   have hbX : Below w.heap.size w (V.alloc (.cells #[.slice ka m kc] 24)) := hbV.alloc (by omega) _
   have HC : Hid (∀ W, (V.alloc (.cells #[.slice ka m kc] 24)).grownBy W none->Calls Tryz.prog 55 #[.agg #[.slice ka m kc]] W fun e w' => KindOut (fun b => W.heap.size<=b) (pK (.mk (.slice ka m kc) l')) e w'/\Below W.heap.size W w') := fun W hW => HI.out _ hm' W ((hy.grown hgX (by nofun)).grown hW (by nofun)) hsl
   clear hm' hq hy hsl x2
   have hll : l.length<=100000 := by
    have : ∀ q : List Kd, q.length<=sizeKL q := fun q => by
     induction q with
     | nil => simp
     | cons x r ih => rw [sizeKL_cons, List.length_cons]; have := sizeK_pos x; omega
    have := this (l.map pK)
    rw [List.length_map] at this
    omega
   generalize pK (.mk (.slice ka m kc) l') = py at *
   obtain ⟨ii0, hii, hiz0, hiz1, hiz2⟩ := info_parts info_kind
   go_upto_region 5 with fail
   generalize V.alloc (.cells #[.slice ka m kc] 24) = VX at *
   go_region_law
    (first
      | (fail_if_success (have guard9 := hb1)
         go_simp; go_at_call 55
         refine (HC.out _ (gDQ VX)).mono ?_
         rintro e w1 ⟨⟨d, rfl, hd, hpd⟩, hb1⟩
         have hg9 := gBQ (gDQ VX) (gLQ hb1)
         have HM1 := hJQ (HMX.out.grown hg9)
         have y2 := cOQ HM1.out.cell
         obtain ⟨ld, da, dc, hdk⟩ := kind_shape hd
         subst hdk
         have HD := hJQ hd
         have HPD := hJQ hpd
         have hkv : kindV (.mk (.slice da ld.length dc) ld) = .agg #[.slice da ld.length dc] := rfl
         rw [hkv]
         have y3 := (World.cell?_of_block (a := ⟨w.heap.size + 1 + 1, 0, none⟩) ((gAQ w1 (.cells #[.slice da ld.length dc] 24)).block (w.heap.size + 1 + 1) (by have := HM1.out.lt; omega) (by nofun))).trans y2)
      | (have guard9 := hb1; clear guard9
         refine step_append_lies _ (by rfl) _ _ _ (by rfl) (w.heap.size + 1 + 1 + 1) 24 ii0 (.agg #[.slice none 0 0]) 1 24 Tryz.underlying22 hii hiz0 hiz1 hiz2 (by rfl) (by decide) _ ds.length (kindCells ds) (by rfl) (HM1.out.own.alloc _) ⟨w1.heap.size, 0, none⟩ 1 1 [.slice da ld.length dc] (by rfl) (by rfl) (World.news_of_block (cs := #[.slice da ld.length dc]) (nHQ w1 _)) (by intro u hu; simp at hu; subst hu; rfl) (by decide) (by unfold maxLen; omega) (by omega) (by have := HM1.out.lt; simp; omega) _ rfl ?_
         intro gN cN w4 hown4 hgrow4 hat4 hlt4
         have HK4 := hJQ ((hgrow4.block (w.heap.size + 1 + 1) (by have := HM1.out.lt; simp; omega) (fun e => by have := HM1.out.own.lt _ e.symm; omega)).trans (((gAQ w1 (.cells #[.slice da ld.length dc] 24)).block (w.heap.size + 1 + 1) (by have := HM1.out.lt; omega) (by nofun)).trans HM1.out.cell))
         have y4 := cOQ HK4.out
         have fz4 : w4.frozen? ⟨w.heap.size + 1 + 1, 0, none⟩ = false := Lib.frozen_of_heap HK4.out 0))
   all_goals
    have hown9 := HMX.out.own
    have hB9 := HMX.out.lt
    have hMK := HM1.out.push (y := .mk (.slice da ld.length dc) ld) (HD.out.mono (fun b hb _ => ⟨(by have hb : VX.heap.size<=b := hb; omega), fun e => by have hb : VX.heap.size<=b := hb; have := (hown9.lt b e).2; omega⟩)) hown4 hgrow4 hat4
    have hB1 := HM1.out.lt
    have hgA := gAQ w1 (.cells #[.slice da ld.length dc] 24)
    have hgS := gSQ w4 (w.heap.size + 1 + 1) 0 (.slice (some ⟨gN, 0, none⟩) (ds.length + 1) cN)
    have hbF : Below w.heap.size w (w4.setCell ⟨w.heap.size + 1 + 1, 0, none⟩ (.slice (some ⟨gN, 0, none⟩) (ds.length + 1) cN)) := (((hbX.trans (gUQ hg9 (by omega) (by nofun))).trans (gUQ hgA (by omega) (by nofun))).trans (gUQ hgrow4 (by have := hgA.size; omega) (fun q hq => by have := HM1.out.own.lt q hq; omega))).trans (gUQ hgS (by have := hgrow4.size; have := hgA.size; omega) (fun q hq => by cases hq; omega))
    have hH1 : (w4.setCell ⟨w.heap.size + 1 + 1, 0, none⟩ (.slice (some ⟨gN, 0, none⟩) (ds.length + 1) cN)).heap[w.heap.size + 1]? = some (.cells #[.slice none 0 0] 24 (0, 0)) := by
     rw [hgS.block _ (by have := hgrow4.size; have := hgA.size; omega) (fun e => by have e2 : w.heap.size + 1 = w.heap.size + 1 + 1 := oJQ e; omega), hgrow4.block _ (by have := hgA.size; omega) (fun e => by have := HM1.out.own.lt _ e.symm; omega), hgA.block _ (by omega) (by nofun), hg9.block _ (by omega) (by nofun)]
     exact H1X.out
    have HZ : Hid (MkK (w4.setCell ⟨w.heap.size + 1 + 1, 0, none⟩ (.slice (some ⟨gN, 0, none⟩) (ds.length + 1) cN)) (w.heap.size + 1 + 1 + 1) (w.heap.size + 1 + 1) (.slice (some ⟨gN, 0, none⟩) (ds.length + 1) cN) (ds ++ [.mk (.slice da ld.length dc) ld])/\(ds ++ [KindD.mk (.slice da ld.length dc) ld]).map pK = (l.map pK).take (ds ++ [KindD.mk (.slice da ld.length dc) ld]).length) := by
     refine ⟨hMK, ?_⟩
     rw [List.map_append, HM.out.2, List.length_append, show [KindD.mk (.slice da ld.length dc) ld].length = 1 from rfl, HT.out, ← HPD.out]; rfl
    have HBF := hJQ hbF
    have HH1 := hJQ hH1
    clear hown9 hMK hgA hgS hbF hH1 hown4 hgrow4 hat4 HM1 HMX HD hd hg9 hb1
    go_wp2_with fail
    go_roundw
    case rel => exact ⟨_, ds ++ [.mk (.slice da ld.length dc) ld], by rw [List.length_append]; exact hjl, by rw [List.length_append]; go_num, HZ, HH1, HBF.out⟩
    case measure => simp [intOf]; omega
  ·have hjl' : Hid (ds.length = l.length) := by show _ = _; omega
   have hset := set1 H1.out (.slice oa ds.length oc)
   have x1 := cOQ H1.out
   have fz1 : V.frozen? ⟨w.heap.size + 1, 0, none⟩ = false := Lib.frozen_of_heap H1.out 0
   have HS := hJQ hset
   have hnot : ¬ (ds.length : Int) < l.length := by omega
   have HD : Hid (IsKind (fun b => w.heap.size<=b) (V.setCell ⟨w.heap.size + 1, 0, none⟩ (.slice oa ds.length oc)) (.mk (.slice oa ds.length oc) ds)/\pK (.mk (.slice oa ds.length oc) ds) = .mk (l.map pK)) := by
    have hgw : ∀ q, some (w.heap.size + 1) = some q->¬ (w.heap.size + 1 + 1 + 1<=q) := fun q hq => by have e2 : w.heap.size + 1 = q := oJQ hq; omega
    refine ⟨?_, ?_⟩
    ·refine IsKind.mk (RowP.grown (rowP_owns (P := fun b => w.heap.size + 1 + 1 + 1<=b) HM.out.1.own (fun b hb => hb)) hset.2 hgw |>.mono (fun b hb _ => by have hb : w.heap.size + 1 + 1 + 1<=b := hb; show w.heap.size<=b; omega)) (by unfold maxLen; omega) (fun y hy => ?_)
     exact ((HM.out.1.els y hy).grown hset.2 (fun q hq hp => hgw q hq hp.1)).mono (fun b hb _ => by have := hb.1; show w.heap.size<=b; omega)
    ·rw [pureK_mk, HM.out.2, hjl'.out, take_all]
   have HBF := hJQ (hbV.trans (gUQ (B := w.heap.size) hset.2 (by omega) (fun q hq => by have e2 : w.heap.size + 1 = q := oJQ hq; omega)))
   clear hset
   go_wp2_with fail
   refine bodyPost_ret (results_cell_row rfl _ _ (w.heap.size + 1) 24 #[.slice oa ds.length oc] (0, 0) _ rfl HS.out.1 Tryz.underlying24 rfl kind_info) rfl ?_
   exact ⟨⟨_, rfl, HD.out.1, HD.out.2⟩, HBF.out⟩
theorem step_store {P : Program} {ops : Array Oper} {o : Oper} {a : Act} {w : World} {K : Act->World->Prop} {Q : Exit->Act->World->Prop} {E : Prop}
 (hg : o.guard = none) (ty : TypeId) (x y : Operand) (ho : o.op = .store ty x y) (g : Nat) (cells : Array Value) (hx : a.eval x = .pointer (some ⟨g, 0, none⟩)) (hy : a.eval y = .agg cells)
 (t : TypeId) (old : Array Value) (h0 : w.heap[g]? = some (.cells old t (0, 0))) (hi : (P.info? ty).map (·.size) = some cells.size) (hold : old.size = cells.size) (h1 : cells.all (·.oneCell') = true)
 (h : K (a.put o.dst undef) (w.setRow g cells)) : if Region.wanted o (yielded ops a.tmps) = true then Oper.wp P o a w K Q else E := by
 have hw : Region.wanted o (yielded ops a.tmps) = true := by simp [Region.wanted, hg]
 rw [if_pos hw]
 exact wp_store_row ty x y ho g cells hx hy t old h0 hi hold h1 h
theorem all_one (l : List Value) (h : l.all (·.oneCell') = true) : l.toArray.all (·.oneCell') = true := by rw [← Array.all_toList]; exact h
theorem held_take {P : Program} {ops : Array Oper} {Q : Exit->Act->World->Prop} {md : Region.Mode} {S : World->Prop} {fuel : Nat} {listed : Array Bool} {a : Act} {w : World} (i d : Nat) (v : Value) {oi : Oper} (hi : ops[i]? = some oi) (hd : oi.dst = some d)
 (hs : Region.noSelect ops = true) (hf : Region.free md ops listed i = true) (hr : (Region.ready md ops listed).contains i = true)
 (hQ : ∀ c a w, Q (.panic c) (a.put oi.dst v) w->Q (.panic c) a w) (hy : YieldsIf P ops S oi v a) (hS : S w)
 (h : wpAnyH P md ops Q S fuel (listed.setIfInBounds i true) (a.put (some d) v) w) : wpAnyH P md ops Q S (fuel + 1) listed a w :=
 wpAnyH_take hi hs hf hr hQ hy hS (by rw [hd]; exact h)
def Yc (P : Program) (ops : Array Oper) (S : World->Prop) : List Nat->Act->Act->Prop
 | [], a, b => a = b
 | i :: r, a, b => ∃ o d v, ops[i]? = some o/\o.dst = some d/\Region.wanted o (yielded ops a.tmps) = true/\(∀ w, S w->(execOp a.eval o).run P w = .ok (.value v) w)/\Yc P ops S r (a.put (some d) v) b
def setT : Array Bool->List Nat->Array Bool
 | l, [] => l
 | l, i :: r => setT (l.setIfInBounds i true) r
def chkT (md : Region.Mode) (ops : Array Oper) : Array Bool->List Nat->Bool
 | _, [] => true
 | l, i :: r => Region.free md ops l i && ((Region.ready md ops l).contains i && chkT md ops (l.setIfInBounds i true) r)
theorem yc {P : Program} {ops : Array Oper} {S : World->Prop} {i d : Nat} {r : List Nat} {a b : Act} {o : Oper} {v : Value} (ho : ops[i]? = some o) (hd : o.dst = some d) (hw : Region.wanted o (yielded ops a.tmps) = true) (hy : ∀ w, S w->(execOp a.eval o).run P w = .ok (.value v) w) (h : Yc P ops S r (a.put (some d) v) b) : Yc P ops S (i :: r) a b :=
 ⟨o, d, v, ho, hd, hw, hy, h⟩
theorem tks {P : Program} {ops : Array Oper} {Q : Exit->Act->World->Prop} {md : Region.Mode} {S : World->Prop} {k : Nat} {w : World} {b : Act} (hs : Region.noSelect ops = true) (hQ : ∀ d v c a w, Q (.panic c) (a.put (some d) v) w->Q (.panic c) a w) (hS : S w) : ∀ (m : Nat) (l : List Nat) {listed : Array Bool} {a : Act}, (chkT md ops listed l && l.length == m) = true →
 Yc P ops S l a b->wpAnyH P md ops Q S k (setT listed l) b w->wpAnyH P md ops Q S (k + m) listed a w
 | m, [], listed, a, hc, hy, h => by
   obtain rfl : m = 0 := by simp [chkT] at hc; omega
   cases hy
   exact h
 | m, i :: r, listed, a, hc, hy, h => by
   obtain ⟨o, d, v, ho, hd, hw, hy, hr⟩ := hy
   simp only [chkT, Bool.and_eq_true, beq_iff_eq, List.length_cons] at hc
   obtain ⟨⟨hf, hre, hc⟩, rfl⟩ := hc
   refine held_take i d v ho hd hs hf hre (fun c a w h => hQ d v c a w (by rw [← hd]; exact h)) (Or.inl ⟨hw, hy⟩) hS (tks hs hQ hS r.length r (by rw [hc]; simp) hr h)
theorem rd1 {P : Program} {ops : Array Oper} {Q : Exit->Act->World->Prop} {md : Region.Mode} {S : World->Prop} {fuel : Nat} {listed : Array Bool} {a : Act} {w : World} {o : Oper} (i : Nat) (hr : Region.ready md ops listed = [i]) (ho : ops[i]? = some o)
 (h : ∀ K' : Act->World->Prop, Shut (∀ a w, S w->(S w->wpAnyH P md ops Q S fuel (listed.setIfInBounds i true) a w)->K' a w)->if Region.wanted o (yielded ops a.tmps) = true then Oper.wp P o a w K' Q else K' (a.put o.dst undef) w) : wpAnyH P md ops Q S (fuel + 1) listed a w :=
 wpAnyH_ready hr (by simp) (AllReadyH.cons ho h AllReadyH.nil)
theorem held_store {P : Program} {ops : Array Oper} {Q : Exit->Act->World->Prop} {md : Region.Mode} {S : World->Prop} {fuel : Nat} {listed : Array Bool} {a : Act} {w : World} (i : Nat) {o : Oper}
 (hr : Region.ready md ops listed = [i]) (ho : ops[i]? = some o) (hg : o.guard = none) (hdn : o.dst = none) (ty : TypeId) (x y : Operand) (hop : o.op = .store ty x y) (g : Nat) (cells : Array Value) (hx : a.eval x = .pointer (some ⟨g, 0, none⟩)) (hy : a.eval y = .agg cells)
 (t : TypeId) (old : Array Value) (h0 : w.heap[g]? = some (.cells old t (0, 0))) (hi : (P.info? ty).map (·.size) = some cells.size) (hold : old.size = cells.size) (h1 : cells.all (·.oneCell') = true) (hS : S (w.setRow g cells))
 (h : wpAnyH P md ops Q S fuel (listed.setIfInBounds i true) a (w.setRow g cells)) : wpAnyH P md ops Q S (fuel + 1) listed a w :=
 wpAnyH_ready hr (by simp) (AllReadyH.cons ho (fun K hK => step_store hg ty x y hop g cells hx hy t old h0 hi hold h1 (hK.out _ _ hS (fun _ => by rw [hdn]; exact h))) AllReadyH.nil)
theorem gRQ (V : World) (R : Nat) (cs : Array Value) : V.grownBy (V.setRow R cs) (some R) :=
 ⟨rfl, rfl, rfl, Nat.le_of_eq (size_setRow V R cs).symm, fun q _ hr => setRow_other V R q cs (fun e => hr (by rw [e]))⟩
theorem leafOf_any (P : Nat->Prop) (x : ConD) (w : World) (h : IsCon P w x) (hsz : sizeK (pC x).k<=100000) :
 Calls Tryz.prog 68 #[conV x] w fun e w' => ConOut (fun b => w.heap.size<=b) (.mk x.op x.n x.s (pK x.k) [] []) e w'/\Below w.heap.size w w' := by
 obtain ⟨op, n, s, k, nv, ns, lv, l⟩ := x
 rw [pMQ] at hsz
 obtain ⟨ka, kc, kn, na, nc, a, c, rfl, _, rfl, _, hks, hcv, hll, hnn, hb0, gC, hsz0, HP, HC0, c0, c1, c2, c3, c4, c5⟩ := open_box h
 rw [hcv]
 clear hcv
 show Calls _ _ _ _ fun e w' => ConOut (fun b => w.heap.size<=b) (.mk op n s (pK k) [] []) e w'/\_
 obtain ⟨hg1, kR, kB, hszW⟩ := fo_box gC
 have hkk := (h.parts.kind.grown (gBQ (gAQ w (.cells #[.int .i64 op, .int .i64 n, .string s, .slice ka kn kc, .slice na ns.length nc, .slice a l.length c] 28)) hg1) (by nofun))
 have hbW := gUQ (B := w.heap.size) (gBQ (gAQ w (.cells #[.int .i64 op, .int .i64 n, .string s, .slice ka kn kc, .slice na ns.length nc, .slice a l.length c] 28)) hg1) (nLQ _) (by nofun)
 have hkv : kindV k = .agg #[.slice ka kn kc] := by show Value.agg #[k.v] = _; rw [hks]
 clear c0 c1 c2 c3 c4 c5 h hb0 gC HP HC0 hsz0 hg1
 go_enter Tryz.func68, Tryz.ntmps68
 go_upto_region 1 with fail
 generalize (w.alloc (.cells #[.int .i64 op, .int .i64 n, .string s, .slice ka kn kc, .slice na ns.length nc, .slice a l.length c] 28)).alloc (.cells #[.int .i64 0, .int .i64 0, .string ⟨#[]⟩, .slice none 0 0, .slice none 0 0, .slice none 0 0] 28) = W at *
 obtain ⟨c0, c1, c2, c3, c4, c5⟩ := cnQ kB
 have HC := hJQ (kindOf_any P k W.drew (hkk.grown (gDQ W) (by nofun)) hsz)
 rw [hkv] at HC
 have S0 : (fun w9 => w9.cell? ⟨w.heap.size, 0, none⟩ = some (.int .i64 op)/\w9.cell? ⟨w.heap.size, 1, none⟩ = some (.int .i64 n)/\w9.cell? ⟨w.heap.size, 2, none⟩ = some (.string s)/\w9.cell? ⟨w.heap.size, 3, none⟩ = some (.slice ka kn kc)) W.drew := ⟨c0, c1, c2, c3⟩
 refine wp_region_held_drew (S := (fun w9 => w9.cell? ⟨w.heap.size, 0, none⟩ = some (.int .i64 op)/\w9.cell? ⟨w.heap.size, 1, none⟩ = some (.int .i64 n)/\w9.cell? ⟨w.heap.size, 2, none⟩ = some (.string s)/\w9.cell? ⟨w.heap.size, 3, none⟩ = some (.slice ka kn kc))) (by kernel_rfl) S0 (fun hHeld => ?_)
 refine tks (b := ?_) (by kernel_rfl) (fun _ _ _ _ _ h => h) S0 8 [0, 1, 2, 3, 4, 5, 6, 7] (by kernel_rfl) ?_ ?_
 rotate_left
 ·iterate 8 (refine yc (v := ?_) rfl rfl (by rfl) (fun w9 hSw => ?_) ?_; rotate_left; (focus go_simp; try rfl); simp only [Act.put, l1Q, l2Q, l3Q])
  exact rfl
 refine rd1 8 (by kernel_rfl) (by rfl) (fun K hK => ?_)
 go_simp
 go_at_call 109
 refine HC.out.mono ?_
 rintro e w2 ⟨⟨d, rfl, hd, hpd⟩, hb2⟩
 obtain ⟨ld, da, dc, hdk⟩ := kind_shape hd
 subst hdk
 rw [show kindV (.mk (.slice da ld.length dc) ld) = .agg #[.slice da ld.length dc] from rfl]
 have g2 := (hb2.block _ (hLQ kB)).trans kB
 obtain ⟨d0, d1, d2, d3, d4, d5⟩ := cnQ g2
 have gR2 := (hb2.block _ (hLQ kR)).trans kR
 have S2 : (fun w9 => w9.cell? ⟨w.heap.size, 0, none⟩ = some (.int .i64 op)/\w9.cell? ⟨w.heap.size, 1, none⟩ = some (.int .i64 n)/\w9.cell? ⟨w.heap.size, 2, none⟩ = some (.string s)/\w9.cell? ⟨w.heap.size, 3, none⟩ = some (.slice ka kn kc)) w2 := ⟨d0, d1, d2, d3⟩
 have hszW2 : W.heap.size<=w2.heap.size := hb2.size
 have hrow := gRQ w2 (w.heap.size + 1) #[.int .i64 op, .int .i64 n, .string s, .slice da ld.length dc, .slice none 0 0, .slice none 0 0]
 have g3 := (hrow.block _ (hLQ g2) (fun e => by have e2 : w.heap.size = w.heap.size + 1 := oJQ e; omega)).trans g2
 obtain ⟨e0, e1, e2, e3, e4, e5⟩ := cnQ g3
 have S3 : (fun w9 => w9.cell? ⟨w.heap.size, 0, none⟩ = some (.int .i64 op)/\w9.cell? ⟨w.heap.size, 1, none⟩ = some (.int .i64 n)/\w9.cell? ⟨w.heap.size, 2, none⟩ = some (.string s)/\w9.cell? ⟨w.heap.size, 3, none⟩ = some (.slice ka kn kc)) (w2.setRow (w.heap.size + 1) #[.int .i64 op, .int .i64 n, .string s, .slice da ld.length dc, .slice none 0 0, .slice none 0 0]) := ⟨e0, e1, e2, e3⟩
 have HB := hJQ ((hbW.drew.trans (hb2.mono hbW.drew.size)).trans (gUQ (B := w.heap.size) hrow (by omega) (fun q hq => by have e2 : w.heap.size + 1 = q := oJQ hq; omega)))
 have HD : Hid (IsKind (fun b => w.heap.size<=b) (w2.setRow (w.heap.size + 1) #[.int .i64 op, .int .i64 n, .string s, .slice da ld.length dc, .slice none 0 0, .slice none 0 0]) (.mk (.slice da ld.length dc) ld)) := ((hd.grown hrow (fun q hq hp => by have e2 : w.heap.size + 1 = q := oJQ hq; have hp : W.heap.size<=q := hp; omega)).mono (fun b hb _ => by have hb : W.heap.size<=b := hb; show w.heap.size<=b; omega))
 have HR3 := hJQ (setRow_heap w2 (w.heap.size + 1) _ #[.int .i64 op, .int .i64 n, .string s, .slice da ld.length dc, .slice none 0 0, .slice none 0 0] _ _ gR2)
 clear hrow hd HC hb2 hbW hkk
 refine hK.out _ _ S2 (fun _ => ?_)
 clear hK K
 refine tks (b := ?_) (by kernel_rfl) (fun _ _ _ _ _ h => h) S2 1 [9] (by kernel_rfl) ?_ ?_
 rotate_left
 ·refine yc (v := ?_) rfl rfl (by rfl) (fun w9 hSw => ?_) ?_; rotate_left; (focus go_simp; try rfl); simp only [Act.put, l1Q, l2Q, l3Q]
  exact rfl
 refine held_store 10 (by kernel_rfl) (by rfl) (by rfl) (by rfl) 28 _ _ (by rfl) (w.heap.size + 1) #[.int .i64 op, .int .i64 n, .string s, .slice da ld.length dc, .slice none 0 0, .slice none 0 0] (by rfl) (by rfl) 28 _ gR2 cIQ rfl (all_one _ rfl) S3 ?_
 refine wpAnyH_done (by kernel_rfl) ?_ _
 go_wp2_with fail
 refine bodyPost_ret (results_cell_row rfl _ _ (w.heap.size + 1) 28 #[.int .i64 op, .int .i64 n, .string s, .slice da ld.length dc, .slice none 0 0, .slice none 0 0] (0, 0) _ rfl HR3.out Tryz.underlying28 rfl cIQ) rfl ?_
 exact ⟨⟨.mk op n s (.mk (.slice da ld.length dc) ld) (.slice none 0 0) [] (.slice none 0 0) [], rfl, .mk HD.out (RowP.nil _ _) (Nat.zero_le maxLen) (RowP.nil _ _) (Nat.zero_le maxLen) (fun y hy => by cases hy), by rw [pMQ, hpd]; rfl⟩, HB.out⟩
end Go.Proofs.YtkiffgdinmpljaaGreatDoor

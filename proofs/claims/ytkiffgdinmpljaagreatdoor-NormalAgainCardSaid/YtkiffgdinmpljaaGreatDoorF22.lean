/- slices.Reverse over a list of constructors under way. Expanded by mac.py. normal.occurs. Expanded by mac.py. -/
import Derived.Test.YtkiffgdinmpljaaGreatDoorF21
import Derived.Test.YtkiffgdinmpljaaGreatDoorF10
import Derived.Test.YtkiffgdinmpljaaGreatDoorF9
import Derived.Test.YtkiffgdinmpljaaGreatDoorShelf
set_option linter.unusedVariables false
set_option linter.unusedSimpArgs false
namespace Go.Proofs.YtkiffgdinmpljaaGreatDoor
open Go Go.RowKit Go.Sort
set_option maxHeartbeats 8000000
set_option maxRecDepth 100000
def encR (x : ConD) : List Value := (cEQ x).map fun v => if v.oneCell' = true then v else .int .i64 0
theorem encR_len (x : ConD) : (encR x).length = 6 := rfl
theorem encR_one (x : ConD) : ∀ v ∈ encR x, v.oneCell' = true := fun v hv => by
 obtain ⟨u, _, rfl⟩ := List.mem_map.1 hv
 split
 ·assumption
 ·rfl
theorem encR_eq {P : Nat->Prop} {w : World} {x : ConD} (h : IsCon P w x) : encR x = cEQ x := by
 obtain ⟨yop, yn, ys, yk, yns, yl, yka, ykn, ykc, yna, ync, ya, yc', rfl, hyk, _⟩ := cSQ h
 show [_, _, _, (if yk.v.oneCell' = true then yk.v else _), _, _] = [_, _, _, yk.v, _, _]
 rw [hyk]; rfl
theorem flat_eq (ds : List ConD) (h : ∀ y ∈ ds, encR y = cEQ y) : (flatK encR 6 ds.toArray).toList = cCQ ds := by
 apply List.ext_getElem
 ·simp [conCells_length]
 ·intro t h1 h2
  have ht : t < ds.length * 6 := by simpa [conCells_length] using h2
  have hd : t / 6 < ds.length := Nat.div_lt_of_lt_mul (by omega)
  have hm : t % 6 < 6 := Nat.mod_lt _ (by decide)
  have e := conCells_at ds (t / 6) (t % 6) hd hm
  rw [Nat.div_add_mod' t 6] at e
  have g := get_flatK encR 6 ds.toArray t (by simpa using ht)
  rw [getElem!_pos _ t (by simpa using ht)] at g
  rw [Array.getElem_toList, g]
  have hy : ds.toArray[t / 6]! = ds.getD (t / 6) default := by simp [List.getD, hd, getElem!_pos]
  have hmem : ds.getD (t / 6) default ∈ ds := by simp [List.getD, hd]
  rw [hy, h _ hmem, getElem!_pos _ _ (by show t % 6 < 6; exact hm)]
  rw [List.getD_eq_getElem?_getD, List.getElem?_eq_getElem h2, List.getD_eq_getElem?_getD, List.getElem?_eq_getElem (by show t % 6 < 6; exact hm)] at e
  exact e.symm
theorem take_put (cur F : Array Value) (h : F.size<=cur.size) : (putCells id 0 F cur).toList.take F.size = F.toList := by
 apply List.ext_getElem?
 intro j
 by_cases hj : j < F.size
 ·rw [List.getElem?_take_of_lt hj, Array.getElem?_toList]
  simp [putCells, hj, show j < cur.size by omega]
 ·rw [List.getElem?_take_eq_none (by omega), List.getElem?_eq_none (by simp; omega)]
theorem heap_put {w : World} {g n : Nat} {cur F : Array Value} {e : TypeId} {fr : Nat × Nat} (hb : w.heap[g]? = some (.cells cur e fr)) :
 (putRow id (Sort.ahead w n) g 0 F).heap[g]? = some (.cells (putCells id 0 F cur) e fr) := by
 simp [putRow, mapBlock, Sort.ahead, Array.getElem?_modify, hb, onCells]
theorem grown_put {w : World} {g n : Nat} {F : Array Value} : w.grownBy (putRow id (Sort.ahead w n) g 0 F) (some g) := by
 refine ⟨rfl, rfl, rfl, by simp [putRow, mapBlock, Sort.ahead], fun k hk hne => ?_⟩
 have : g ≠ k := fun e => hne (by rw [e])
 simp [putRow, mapBlock, Sort.ahead, Array.getElem?_modify, this]
theorem reverse_any (P : Nat->Prop) (B : Nat) (V : World) (cv : Value) (ds : List ConD) (h : LsC P V B cv ds) (hl : ds.length<=1000000) :
 Calls Tryz.prog 64 #[cv] V fun e w' => e = .returned (.tuple #[])/\LsC P w' B cv ds.reverse/\V.grownBy w' cv.ownBlock := by
 obtain ⟨hx, hr⟩ := h.own
 rcases hr with ⟨rfl, h0⟩ | ⟨g, cap, cur, rfl, hBg, hb, h1, h2, h3, h4⟩
 ·obtain rfl : ds = [] := List.length_eq_zero_iff.1 h0
  refine (Tryz.slices_Reverse_empty none 0 V).mono ?_
  rintro e w' ⟨rfl, rfl⟩
  exact ⟨rfl, h, ⟨rfl, rfl, rfl, Nat.le_refl _, fun _ _ _ => rfl⟩⟩
 ·have he : ∀ y ∈ ds, encR y = cEQ y := fun y hy => encR_eq (h.els y hy)
  have hfl := flat_eq ds he
  have hfs : (flatK encR 6 ds.toArray).size = ds.length * 6 := by simp
  have hH : HoldsK encR 6 V g 0 ds.toArray := by
   intro j hj
   have hj' : j < ds.length * 6 := by rw [hfs] at hj; exact hj
   refine ⟨?_, by simp [World.frozen?, hb]⟩
   have e1 : (cur.toList.take (ds.length * 6))[j]? = (flatK encR 6 ds.toArray).toList[j]? := by rw [h4, hfl]
   rw [List.getElem?_take_of_lt hj'] at e1
   simp only [World.cell?, hb, Nat.zero_add]
   simp only [Option.isSome_none, Bool.false_eq_true, if_false]
   rw [← Array.getElem?_toList, e1, Array.getElem?_toList]
   rw [Array.getElem?_eq_getElem hj, getElem!_pos _ j hj]; rfl
  have hR := Tryz.slices_Reverse 6 Tryz.isAgg28 Tryz.sizeOf28 encR encR_len encR_one g 0 cap ds.toArray V hH (by simp; omega)
  rw [show ds.toArray.size = ds.length from by simp] at hR
  refine hR.mono ?_
  rintro e w' ⟨rfl, n, rfl⟩
  have her : ∀ y ∈ ds.reverse, encR y = cEQ y := fun y hy => he y (List.mem_reverse.1 hy)
  have hfr := flat_eq ds.reverse her
  have hrs : (flatK encR 6 ds.reverse.toArray).size = ds.length * 6 := by simp
  have hg := grown_put (w := V) (g := g) (n := n) (F := flatK encR 6 ds.reverse.toArray)
  rw [show ds.toArray.reverse = ds.reverse.toArray from by simp]
  refine ⟨rfl, ⟨⟨?_, .inr ⟨g, cap, _, ?_, hBg, heap_put hb, ?_, h2, ?_, ?_⟩⟩, fun y hy => ?_, Nat.le_trans h.lt hg.size⟩, hg⟩
  ·rw [conCells_length]
  ·rw [List.length_reverse]
  ·rw [List.length_reverse]; exact h1
  ·rw [← h3]; simp [putCells]
  ·rw [List.length_reverse, ← hrs, take_put _ _ (by rw [hrs, h3]; exact Nat.mul_le_mul_right 6 h1), hfr]
  ·exact (h.els y (List.mem_reverse.1 hy)).grown hg (fun q hq hp => hp.2 (by show some g = some q; exact hq))
end Go.Proofs.YtkiffgdinmpljaaGreatDoor
namespace Go.Proofs.YtkiffgdinmpljaaGreatDoor
open Go Go.RowKit
theorem depthCL_ge' (l : List Cn) (x : Cn) (h : x ∈ l) : dCQ x<=depthCL l := by
 induction l with
 | nil => cases h
 | cons y l ih =>
   rw [depthCL_cons]
   rcases List.mem_cons.1 h with rfl | h
   ·omega
   ·have := ih h; omega
def OccAll (x : ConD) : Prop := ∀ (P : Nat->Prop) (w : World) (i : Int), IsCon P w x->0<=i->i + dCQ (pC x)<=1000000->Calls Tryz.prog 98 #[conV x, .int .i64 i] w fun e w' => e = .returned (.bool (occC i (pC x)))/\Below w.heap.size w w'
theorem occurs1_any (P : Nat->Prop) (x : ConD) (H : OccAll x) (nb : Nat) (w : World) (i : Int) (h : IsCon P w x) (hN : w.heap[nb]? = some (.cells #[.int .i64 i] 3 (0, 0))) (h0 : 0<=i) (h1 : i + dCQ (pC x)<=1000000) :
 Calls Tryz.prog 125 (#[conV x] ++ #[.pointer (some ⟨nb, 0, none⟩)]) w fun e w' => e = .returned (.bool (occC i (pC x)))/\Below w.heap.size w w' := by
 obtain ⟨op, n, s, k, nv, ns, lv, l⟩ := x
 obtain ⟨ka, kc, kn, hks⟩ := iKQ h.parts.kind
 obtain ⟨na, nc, rfl, _⟩ := rSQ h.parts.names
 obtain ⟨a, c, rfl, _⟩ := rSQ h.parts.row
 rw [cVQ hks]
 have hll : l.length<=9223372036854775807 := by have h1 := h.parts.llen; have : maxLen = 9223372036854775807 := (by decide); omega
 have hnn : ns.length<=9223372036854775807 := by have h1 := h.parts.nlen; have : maxLen = 9223372036854775807 := (by decide); omega
 have hb0 : Below w.heap.size w (w.alloc (.cells #[.int .i64 op, .int .i64 n, .string s, .slice ka kn kc, .slice na ns.length nc, .slice a l.length c] 28)) := (Below.refl _ _).alloc (Nat.le_refl _) _
 have gC := nHQ w (.cells #[.int .i64 op, .int .i64 n, .string s, .slice ka kn kc, .slice na ns.length nc, .slice a l.length c] 28)
 have hsz0 : (w.alloc (.cells #[.int .i64 op, .int .i64 n, .string s, .slice ka kn kc, .slice na ns.length nc, .slice a l.length c] 28)).heap.size = w.heap.size + 1 := by simp
 obtain ⟨c0, c1, c2, c3, c4, c5⟩ := cnQ gC
 have HP := hJQ (iBQ h hb0).parts
 have HC0 := hJQ (iBQ h hb0)
 have hN2 := (hb0.block _ (hLQ hN)).trans hN
 have cN := cell_int hN2
 have HC := hJQ (H P _ i HC0.out h0 h1)
 rw [cVQ hks] at HC
 clear h hks HP HC0 hsz0 H gC hN hN2
 generalize pC (.mk op n s k (.slice na ns.length nc) ns (.slice a l.length c) l) = x at *
 go_enter Tryz.func125, Tryz.ntmps125
 go_wp2_with fail
 refine HC.out.mono ?_
 rintro e w2 ⟨rfl, hb2⟩
 have hbz := hb0.trans (hb2.mono hb0.size)
 clear HC
 go_wp2_with fail
 go_ret
 exact ⟨rfl, hbz⟩
theorem occL_any (P : Nat->Prop) (v : Value) (l : List ConD) (H : ∀ y ∈ l, OccAll y) (nb : Nat) (w : World) (i : Int) (h : RowP P w v l.length (cCQ l)) (hm : l.length<=9223372036854775807) (ha : ∀ y ∈ l, IsCon P w y) (hN : w.heap[nb]? = some (.cells #[.int .i64 i] 3 (0, 0))) (h0 : 0<=i) (h1 : i + depthCL (l.map pC)<=1000000) :
 Calls Tryz.prog 22 #[v, .func (.func 125) #[] #[.pointer (some ⟨nb, 0, none⟩)]] w fun e w' => e = .returned (.bool ((l.map pC).any (occC i)))/\Below w.heap.size w w' := by
 refine (containsC_any 125 #[.pointer (some ⟨nb, 0, none⟩)] (enters_of Tryz.func125 (by kernel_rfl) rfl) P v l (fun j V => ((l.map pC).take j).any (occC i) = false/\Below w.heap.size w V) (fun j V => (j < l.length->occC i (pC (l.getD j default)) = true)/\Below w.heap.size w V) w ⟨by rw [List.take_zero]; rfl, Below.refl _ _⟩ (fun j V hI => Kept.of_below hI.2) (fun j V hj hI => ?_) h hm ha).mono ?_
 ·have hmem := mem_getD l j hj
  have hm' : pC (l.getD j default) ∈ l.map pC := List.mem_map_of_mem hmem
  refine (occurs1_any P (l.getD j default) (H _ hmem) nb V i (iBQ (ha _ hmem) hI.2) ((hI.2.block _ (hLQ hN)).trans hN) h0 (by have := depthCL_ge' _ _ hm'; omega)).mono fun e V' ⟨he, hb⟩ => ⟨_, he, fun hb1 => ⟨fun _ => hb1, hI.2.trans (hb.mono hI.2.size)⟩, fun hb1 => ⟨?_, hI.2.trans (hb.mono hI.2.size)⟩⟩
  have hT : (l.map pC).take (j + 1) = (l.map pC).take j ++ [pC (l.getD j default)] := by
   rw [take_get default _ j (by rw [List.length_map]; exact hj), map_getD pC l j hj]
  rw [hT, List.any_append, hI.1, List.any_cons, List.any_nil, hb1]; rfl
 ·rintro e w' ⟨b, rfl, hy, hn⟩
  cases b
  ·obtain ⟨h1, h2⟩ := hn rfl
   rw [take_all] at h1
   exact ⟨by rw [h1], h2⟩
  ·obtain ⟨j, hj, h1, h2⟩ := hy rfl
   refine ⟨?_, h2⟩
   have : (l.map pC).any (occC i) = true := by
    rw [List.any_eq_true]; exact ⟨_, List.mem_map_of_mem (mem_getD l j hj), h1 hj⟩
   rw [this]
theorem occurs_any : ∀ x : ConD, OccAll x := by
 refine ConD.ind (fun op n s k nv ns lv l ih P w i h h0 h1 => ?_)
 obtain ⟨ka, kc, kn, hks⟩ := iKQ h.parts.kind
 obtain ⟨na, nc, rfl, _⟩ := rSQ h.parts.names
 obtain ⟨a, c, rfl, _⟩ := rSQ h.parts.row
 rw [cVQ hks]
 have hll : l.length<=9223372036854775807 := by have h1 := h.parts.llen; have : maxLen = 9223372036854775807 := (by decide); omega
 have hnn : ns.length<=9223372036854775807 := by have h1 := h.parts.nlen; have : maxLen = 9223372036854775807 := (by decide); omega
 have hb0 : Below w.heap.size w (w.alloc (.cells #[.int .i64 op, .int .i64 n, .string s, .slice ka kn kc, .slice na ns.length nc, .slice a l.length c] 28)) := (Below.refl _ _).alloc (Nat.le_refl _) _
 have gC := nHQ w (.cells #[.int .i64 op, .int .i64 n, .string s, .slice ka kn kc, .slice na ns.length nc, .slice a l.length c] 28)
 have hsz0 : (w.alloc (.cells #[.int .i64 op, .int .i64 n, .string s, .slice ka kn kc, .slice na ns.length nc, .slice a l.length c] 28)).heap.size = w.heap.size + 1 := by simp
 obtain ⟨c0, c1, c2, c3, c4, c5⟩ := cnQ gC
 have HP := hJQ (iBQ h hb0).parts
 have HC0 := hJQ (iBQ h hb0)
 rw [pMQ] at h1 ⊢
 rw [depthC_mk] at h1
 rw [occC_mk]
 have hgN := gAQ (w.alloc (.cells #[.int .i64 op, .int .i64 n, .string s, .slice ka kn kc, .slice na ns.length nc, .slice a l.length c] 28)) (.cells #[.int .i64 i] 3)
 have kN : ((w.alloc (.cells #[.int .i64 op, .int .i64 n, .string s, .slice ka kn kc, .slice na ns.length nc, .slice a l.length c] 28)).alloc (.cells #[.int .i64 i] 3)).heap[w.heap.size + 1]? = _ := (congrArg _ hsz0.symm).trans (nHQ (w.alloc (.cells #[.int .i64 op, .int .i64 n, .string s, .slice ka kn kc, .slice na ns.length nc, .slice a l.length c] 28)) (.cells #[.int .i64 i] 3))
 have kB := (hgN.block w.heap.size (by omega) (by nofun)).trans gC
 have hgW := gBQ (gAQ w (.cells #[.int .i64 op, .int .i64 n, .string s, .slice ka kn kc, .slice na ns.length nc, .slice a l.length c] 28)) hgN
 have hszW : ((w.alloc (.cells #[.int .i64 op, .int .i64 n, .string s, .slice ka kn kc, .slice na ns.length nc, .slice a l.length c] 28)).alloc (.cells #[.int .i64 i] 3)).heap.size = w.heap.size + 2 := by simp
 have HW := hJQ (h.lt.grown hgW (by nofun)).parts
 have HI := hJQ ih
 have HB : ∀ W, Hid (Calls Tryz.prog 124 #[.int .i64 op] W fun e w' => e = .returned (.bool (binderB op))/\w' = W) := fun W => hJQ (opBinder_any 124 (.inl rfl) op W)
 clear h hks HP HC0 hsz0 gC ih c0 c1 c2 c3 c4 c5 hb0 hgN
 have HGW := hJQ hgW
 have hbW := gUQ (B := w.heap.size) hgW (Nat.le_refl _) (by nofun)
 by_cases q1 : op = 1
 ·subst q1
  rw [if_pos rfl]
  go_enter Tryz.func98, Tryz.ntmps98
  go_upto_region 1 with fail
  generalize (w.alloc (.cells #[.int .i64 1, .int .i64 n, .string s, .slice ka kn kc, .slice na ns.length nc, .slice a l.length c] 28)).alloc (.cells #[.int .i64 i] 3) = W at *
  obtain ⟨c0, c1, c2, c3, c4, c5⟩ := cnQ kB
  have cN := cell_int kN
  go_wp2_with fail
  go_ret
  exact ⟨rfl, hbW⟩
 ·have q1' : (op == 1) = false := beq_eq_false_iff_ne.2 q1
  rw [if_neg q1]
  clear q1
  obtain ⟨bb, hbb⟩ : ∃ b, binderB op = b := ⟨_, rfl⟩
  have HB : ∀ W, Hid (Calls Tryz.prog 124 #[.int .i64 op] W fun e w' => e = .returned (.bool bb)/\w' = W) := fun W => by rw [← hbb]; exact HB W
  rw [hbb]
  clear hbb
  cases bb
  ·rw [show (if (false : Bool) = true then i + 1 else i) = i from rfl]
   go_enter Tryz.func98, Tryz.ntmps98
   go_upto_region 1 with fail
   generalize (w.alloc (.cells #[.int .i64 op, .int .i64 n, .string s, .slice ka kn kc, .slice na ns.length nc, .slice a l.length c] 28)).alloc (.cells #[.int .i64 i] 3) = W at *
   obtain ⟨c0, c1, c2, c3, c4, c5⟩ := cnQ kB
   have cN := cell_int kN
   have fN : W.frozen? ⟨w.heap.size + 1, 0, none⟩ = false := Lib.frozen_of_heap kN 0
   have HB2 := HB W
   have HL := hJQ (occL_any _ _ l (fun y hy => HI.out y hy) (w.heap.size + 1) W i HW.out.row hll HW.out.all kN h0 (by omega))
   obtain ⟨q, hq⟩ : ∃ q, (l.map pC).any (occC i) = q := ⟨_, rfl⟩
   rw [hq] at HL
   have HQ : Hid (Ending.returned (.bool q) = Ending.returned (.bool ((l.map pC).any (occC i)))) := by show _ = _; rw [hq]
   clear hq
   go_wp2_with fail
   refine HB2.out.mono ?_
   rintro e w2 ⟨rfl, rfl⟩
   clear HB
   go_wp2_with fail
   refine HL.out.mono ?_
   rintro e w3 ⟨rfl, hb3⟩
   have hbz := hbW.trans (hb3.mono hbW.size)
   clear HL HB2
   go_wp2_with fail
   go_ret
   exact ⟨HQ.out, hbz⟩
  ·rw [show (if (true : Bool) = true then i + 1 else i) = i + 1 from rfl]
   go_enter Tryz.func98, Tryz.ntmps98
   go_upto_region 1 with fail
   generalize (w.alloc (.cells #[.int .i64 op, .int .i64 n, .string s, .slice ka kn kc, .slice na ns.length nc, .slice a l.length c] 28)).alloc (.cells #[.int .i64 i] 3) = W at *
   obtain ⟨c0, c1, c2, c3, c4, c5⟩ := cnQ kB
   have cN := cell_int kN
   have fN : W.frozen? ⟨w.heap.size + 1, 0, none⟩ = false := Lib.frozen_of_heap kN 0
   have HB2 := HB W
   have hwr : IntKind.i64.wrap (i + 1) = i + 1 := by rw [IntKind.wrap_i64]; omega
   have hS := gSQ W (w.heap.size + 1) 0 (.int .i64 (i + 1))
   have kN2 := heap_set_same (i := 0) kN (.int .i64 (i + 1))
   have hBS : Below w.heap.size w (W.setCell ⟨w.heap.size + 1, 0, none⟩ (.int .i64 (i + 1))) := hbW.trans (gUQ (B := w.heap.size) hS (by omega) (fun q hq => by have e2 : w.heap.size + 1 = q := oJQ hq; omega))
   have kB2 := (hS.block w.heap.size (by omega) (fun e => by have e2 : w.heap.size = w.heap.size + 1 := oJQ e; omega)).trans kB
   obtain ⟨d0, d1, d2, d3, d4, d5⟩ := cnQ kB2
   have hnp : ∀ q, some (w.heap.size + 1) = some q->¬ (P q/\q < w.heap.size) := fun q hq hp => by have e2 : w.heap.size + 1 = q := oJQ hq; have := hp.2; omega
   have HL := hJQ (occL_any _ _ l (fun y hy => HI.out y hy) (w.heap.size + 1) _ (i + 1) (HW.out.row.grown hS hnp) hll (fun y hy => (HW.out.all y hy).grown hS hnp) kN2 (by omega) (by omega))
   obtain ⟨q, hq⟩ : ∃ q, (l.map pC).any (occC (i + 1)) = q := ⟨_, rfl⟩
   rw [hq] at HL
   have HQ : Hid (Ending.returned (.bool q) = Ending.returned (.bool ((l.map pC).any (occC (i + 1))))) := by show _ = _; rw [hq]
   clear hq
   clear hS hnp
   go_wp2_with fail
   refine HB2.out.mono ?_
   rintro e w2 ⟨rfl, rfl⟩
   clear HB
   go_wp2_with fail
   refine HL.out.mono ?_
   rintro e w3 ⟨rfl, hb3⟩
   have hbz := hBS.trans (hb3.mono hBS.size)
   clear HL HB2
   go_wp2_with fail
   go_ret
   exact ⟨HQ.out, hbz⟩
end Go.Proofs.YtkiffgdinmpljaaGreatDoor

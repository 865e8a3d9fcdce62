/- IndexFunc and ContainsFunc over rows, at whatever closure. Printed by gen_nd2.py. -/
import Derived.Test.YtkiffgdinmpljaaGreatDoorF3
set_option linter.unusedVariables false
set_option linter.unusedSimpArgs false
namespace Go.Proofs.YtkiffgdinmpljaaGreatDoor
open Go Go.RowKit
set_option maxHeartbeats 8000000
set_option maxRecDepth 100000
theorem Kept.refl (P : Nat->Prop) (w : World) : Kept P w w := ⟨Nat.le_refl _, fun _ _ _ => rfl⟩
theorem kind_at {P : Nat->Prop} {V : World} {a : Option Addr} {lc : Nat} {l : List KindD} (hr : RowP P V (.slice a l.length lc) l.length (kindCells l)) (ha : ∀ y ∈ l, IsKind P V y) (j : Nat) (hj : j < l.length) :
 ∃ b off m l' ka kc, a = some ⟨b, off, none⟩/\b < V.heap.size/\l.getD j default = .mk (.slice ka m kc) l'/\IsKind P V (.mk (.slice ka m kc) l')/\KindD.mk (.slice ka m kc) l' ∈ l/\(l.map pK).take (j + 1) = (l.map pK).take j ++ [pK (.mk (.slice ka m kc) l')]/\V.cell? ⟨b, off + j, none⟩ = some (.slice ka m kc) := by
 obtain ⟨b, off, c', fd, _, _, hbl, d0⟩ := kinds_at hr j hj
 obtain rfl := (Value.slice.inj fd).1
 have hT : (l.map pK).take (j + 1) = (l.map pK).take j ++ [pK (l.getD j default)] := by
  rw [take_get default _ j (by rw [List.length_map]; exact hj), map_getD pK l j hj]
 have hm := mem_getD l j hj
 have hy := ha _ hm
 obtain ⟨ka, kc, m, hks⟩ := iKQ hy
 generalize l.getD j default = y at *
 obtain ⟨v, l'⟩ := y
 have hks : v = .slice ka m kc := hks
 subst hks
 exact ⟨b, off, m, l', ka, kc, rfl, hbl, rfl, hy, hm, hT, d0⟩
theorem str_at {P : Nat->Prop} {V : World} {a : Option Addr} {lc : Nat} {l : List ByteArray} (hr : RowP P V (.slice a l.length lc) l.length (strCells l)) (j : Nat) (hj : j < l.length) :
 ∃ b off, a = some ⟨b, off, none⟩/\b < V.heap.size/\l.getD j default ∈ l/\V.cell? ⟨b, off + j, none⟩ = some (.string (l.getD j default)) := by
 obtain ⟨a', c', fd, _, hc⟩ := hr
 obtain ⟨b, off, ha, _, hlt, hx⟩ := hc (by omega)
 obtain rfl := (Value.slice.inj fd).1
 refine ⟨b, off, ha, hlt, mem_getD l j hj, ?_⟩
 rw [hx j (by simpa [strCells] using hj)]
 simp [strCells, List.getD, hj]
theorem indexC_any (g : Nat) (lb : Array Value) (eg : ∀ args w, (callFunc g args).run Tryz.prog w = .ok (.enter g args) w) (P : Nat->Prop) (lv : Value) (l : List ConD) (I R : Nat->World->Prop) (w : World)
 (h0 : I 0 w) (hK : ∀ j V, I j V->Kept P w V) (hs : ∀ j V, j < l.length->I j V->Calls Tryz.prog g (#[conV (l.getD j default)] ++ lb) V fun e V' => ∃ b : Bool, e = .returned (.bool b)/\(b = true->R j V')/\(b = false->I (j + 1) V'))
 (hr : RowP P w lv l.length (cCQ l)) (hm : l.length<=9223372036854775807) (ha : ∀ y ∈ l, IsCon P w y) :
 Calls Tryz.prog 46 #[lv, .func (.func g) #[] lb] w fun e w' => ∃ r : Int, e = .returned (.int .i64 r)/\(0<=r->∃ j, j < l.length/\R j w')/\(r < 0->I l.length w') := by
 obtain ⟨a, c, rfl, hlc⟩ := rSQ hr
 have HR := hJQ hr
 have HKK := hJQ hK
 have HS := hJQ hs
 have H0 := hJQ h0
 have HA := hJQ ha
 clear hr hK hs h0 ha
 go_enter Tryz.func46, Tryz.ntmps46
 go_wp2_with fail
 go_loopw [8] (fun i wr => ∃ j : Nat, j<=l.length/\i = .int .i64 j/\Hid (I j wr)) (fun i _ => l.length - (intOf i).toNat)
 case atStart => exact ⟨0, Nat.zero_le _, rfl, H0⟩
 case round =>
  rename World => V
  obtain ⟨j, hj, rfl, HI⟩ := hrel
  by_cases hjl : j < l.length
  ·have HK := hJQ (HKK.out j V HI.out)
   obtain ⟨b, off, op, n, s, k, ns, l', ka, kn, kc, na, nc, la, lc', fd, hbl, hq, hy, hm', hv, _, e0, e1, e2, e3, e4, e5⟩ := part_at (HK.out.row HR.out) (fun y hy => HK.out.con (HA.out y hy)) j hjl
   subst fd
   have HC := hJQ (HS.out j V hjl HI.out)
   rw [hq, hv] at HC
   clear hq hy hm' hv
   go_wp2_with (go_at_fn g; refine HC.out.mono ?_; rintro e w2 ⟨b, rfl, hyes, hno⟩)
   ·rename_i hbb
    subst hbb
    go_ret
    exact ⟨j, rfl, fun _ => ⟨j, hjl, hyes rfl⟩, fun h => by omega⟩
   ·rename_i hbb
    subst hbb
    have HN := hJQ (hno rfl)
    go_roundw
    case rel => exact ⟨j + 1, by omega, by go_num, HN⟩
    case measure => simp [intOf]; omega
  ·obtain rfl : j = l.length := by omega
   go_wp2_with fail
   go_ret
   exact ⟨-1, rfl, fun h => by omega, fun _ => HI.out⟩
theorem containsC_any (g : Nat) (lb : Array Value) (eg : ∀ args w, (callFunc g args).run Tryz.prog w = .ok (.enter g args) w) (P : Nat->Prop) (lv : Value) (l : List ConD) (I R : Nat->World->Prop) (w : World)
 (h0 : I 0 w) (hK : ∀ j V, I j V->Kept P w V) (hs : ∀ j V, j < l.length->I j V->Calls Tryz.prog g (#[conV (l.getD j default)] ++ lb) V fun e V' => ∃ b : Bool, e = .returned (.bool b)/\(b = true->R j V')/\(b = false->I (j + 1) V'))
 (hr : RowP P w lv l.length (cCQ l)) (hm : l.length<=9223372036854775807) (ha : ∀ y ∈ l, IsCon P w y) :
 Calls Tryz.prog 22 #[lv, .func (.func g) #[] lb] w fun e w' => ∃ b : Bool, e = .returned (.bool b)/\(b = true->∃ j, j < l.length/\R j w')/\(b = false->I l.length w') := by
 have H := hJQ (indexC_any g lb eg P lv l I R w h0 hK hs hr hm ha)
 obtain ⟨a, c, rfl, hlc⟩ := rSQ hr
 clear hr hK hs h0 ha
 go_enter Tryz.func22, Tryz.ntmps22
 go_wp2_with fail
 refine H.out.mono ?_
 rintro e w2 ⟨r, rfl, hyes, hno⟩
 have HR : Hid (∃ b : Bool, Ending.returned (.bool (decide (0<=r))) = .returned (.bool b)/\(b = true->∃ j, j < l.length/\R j w2)/\(b = false->I l.length w2)) := ⟨_, rfl, fun h => hyes (of_decide_eq_true h), fun h => hno (by have := of_decide_eq_false h; omega)⟩
 clear hyes hno H
 go_wp2_with fail
 go_ret
 exact HR.out
theorem indexK_any (g : Nat) (lb : Array Value) (eg : ∀ args w, (callFunc g args).run Tryz.prog w = .ok (.enter g args) w) (P : Nat->Prop) (lv : Value) (l : List KindD) (I R : Nat->World->Prop) (w : World)
 (h0 : I 0 w) (hK : ∀ j V, I j V->Kept P w V) (hs : ∀ j V, j < l.length->I j V->Calls Tryz.prog g (#[kindV (l.getD j default)] ++ lb) V fun e V' => ∃ b : Bool, e = .returned (.bool b)/\(b = true->R j V')/\(b = false->I (j + 1) V'))
 (hr : RowP P w lv l.length (kindCells l)) (hm : l.length<=9223372036854775807) (ha : ∀ y ∈ l, IsKind P w y) :
 Calls Tryz.prog 115 #[lv, .func (.func g) #[] lb] w fun e w' => ∃ r : Int, e = .returned (.int .i64 r)/\(0<=r->∃ j, j < l.length/\R j w')/\(r < 0->I l.length w') := by
 obtain ⟨a, c, rfl, hlc⟩ := rSQ hr
 have HR := hJQ hr
 have HKK := hJQ hK
 have HS := hJQ hs
 have H0 := hJQ h0
 have HA := hJQ ha
 clear hr hK hs h0 ha
 go_enter Tryz.func115, Tryz.ntmps115
 go_wp2_with fail
 go_loopw [8] (fun i wr => ∃ j : Nat, j<=l.length/\i = .int .i64 j/\Hid (I j wr)) (fun i _ => l.length - (intOf i).toNat)
 case atStart => exact ⟨0, Nat.zero_le _, rfl, H0⟩
 case round =>
  rename World => V
  obtain ⟨j, hj, rfl, HI⟩ := hrel
  by_cases hjl : j < l.length
  ·have HK := hJQ (HKK.out j V HI.out)
   obtain ⟨b, off, m, l', ka, kc, fd, hbl, hq, hy, hm', _, e0⟩ := kind_at (HK.out.row HR.out) (fun y hy => HK.out.kind (HA.out y hy)) j hjl
   subst fd
   have HC := hJQ (HS.out j V hjl HI.out)
   rw [hq, show kindV (.mk (.slice ka m kc) l') = .agg #[.slice ka m kc] from rfl] at HC
   clear hq hy hm'
   go_wp2_with (go_at_fn g; refine HC.out.mono ?_; rintro e w2 ⟨b, rfl, hyes, hno⟩)
   ·rename_i hbb
    subst hbb
    go_ret
    exact ⟨j, rfl, fun _ => ⟨j, hjl, hyes rfl⟩, fun h => by omega⟩
   ·rename_i hbb
    subst hbb
    have HN := hJQ (hno rfl)
    go_roundw
    case rel => exact ⟨j + 1, by omega, by go_num, HN⟩
    case measure => simp [intOf]; omega
  ·obtain rfl : j = l.length := by omega
   go_wp2_with fail
   go_ret
   exact ⟨-1, rfl, fun h => by omega, fun _ => HI.out⟩
theorem containsK_any (g : Nat) (lb : Array Value) (eg : ∀ args w, (callFunc g args).run Tryz.prog w = .ok (.enter g args) w) (P : Nat->Prop) (lv : Value) (l : List KindD) (I R : Nat->World->Prop) (w : World)
 (h0 : I 0 w) (hK : ∀ j V, I j V->Kept P w V) (hs : ∀ j V, j < l.length->I j V->Calls Tryz.prog g (#[kindV (l.getD j default)] ++ lb) V fun e V' => ∃ b : Bool, e = .returned (.bool b)/\(b = true->R j V')/\(b = false->I (j + 1) V'))
 (hr : RowP P w lv l.length (kindCells l)) (hm : l.length<=9223372036854775807) (ha : ∀ y ∈ l, IsKind P w y) :
 Calls Tryz.prog 84 #[lv, .func (.func g) #[] lb] w fun e w' => ∃ b : Bool, e = .returned (.bool b)/\(b = true->∃ j, j < l.length/\R j w')/\(b = false->I l.length w') := by
 have H := hJQ (indexK_any g lb eg P lv l I R w h0 hK hs hr hm ha)
 obtain ⟨a, c, rfl, hlc⟩ := rSQ hr
 clear hr hK hs h0 ha
 go_enter Tryz.func84, Tryz.ntmps84
 go_wp2_with fail
 refine H.out.mono ?_
 rintro e w2 ⟨r, rfl, hyes, hno⟩
 have HR : Hid (∃ b : Bool, Ending.returned (.bool (decide (0<=r))) = .returned (.bool b)/\(b = true->∃ j, j < l.length/\R j w2)/\(b = false->I l.length w2)) := ⟨_, rfl, fun h => hyes (of_decide_eq_true h), fun h => hno (by have := of_decide_eq_false h; omega)⟩
 clear hyes hno H
 go_wp2_with fail
 go_ret
 exact HR.out
theorem indexS_any (g : Nat) (lb : Array Value) (eg : ∀ args w, (callFunc g args).run Tryz.prog w = .ok (.enter g args) w) (P : Nat->Prop) (lv : Value) (l : List ByteArray) (I R : Nat->World->Prop) (w : World)
 (h0 : I 0 w) (hK : ∀ j V, I j V->Kept P w V) (hs : ∀ j V, j < l.length->I j V->Calls Tryz.prog g (#[Value.string (l.getD j default)] ++ lb) V fun e V' => ∃ b : Bool, e = .returned (.bool b)/\(b = true->R j V')/\(b = false->I (j + 1) V'))
 (hr : RowP P w lv l.length (strCells l)) (hm : l.length<=9223372036854775807)  :
 Calls Tryz.prog 83 #[lv, .func (.func g) #[] lb] w fun e w' => ∃ r : Int, e = .returned (.int .i64 r)/\(0<=r->∃ j, j < l.length/\R j w')/\(r < 0->I l.length w') := by
 obtain ⟨a, c, rfl, hlc⟩ := rSQ hr
 have HR := hJQ hr
 have HKK := hJQ hK
 have HS := hJQ hs
 have H0 := hJQ h0
 skip
 clear hr hK hs h0
 go_enter Tryz.func83, Tryz.ntmps83
 go_wp2_with fail
 go_loopw [8] (fun i wr => ∃ j : Nat, j<=l.length/\i = .int .i64 j/\Hid (I j wr)) (fun i _ => l.length - (intOf i).toNat)
 case atStart => exact ⟨0, Nat.zero_le _, rfl, H0⟩
 case round =>
  rename World => V
  obtain ⟨j, hj, rfl, HI⟩ := hrel
  by_cases hjl : j < l.length
  ·have HK := hJQ (HKK.out j V HI.out)
   obtain ⟨b, off, fd, hbl, hm', e0⟩ := str_at (HK.out.row HR.out) j hjl
   subst fd
   have HC := hJQ (HS.out j V hjl HI.out)
   clear hm'
   generalize l.getD j default = y at *
   go_wp2_with (go_at_fn g; refine HC.out.mono ?_; rintro e w2 ⟨b, rfl, hyes, hno⟩)
   ·rename_i hbb
    subst hbb
    go_ret
    exact ⟨j, rfl, fun _ => ⟨j, hjl, hyes rfl⟩, fun h => by omega⟩
   ·rename_i hbb
    subst hbb
    have HN := hJQ (hno rfl)
    go_roundw
    case rel => exact ⟨j + 1, by omega, by go_num, HN⟩
    case measure => simp [intOf]; omega
  ·obtain rfl : j = l.length := by omega
   go_wp2_with fail
   go_ret
   exact ⟨-1, rfl, fun h => by omega, fun _ => HI.out⟩
theorem containsS_any (g : Nat) (lb : Array Value) (eg : ∀ args w, (callFunc g args).run Tryz.prog w = .ok (.enter g args) w) (P : Nat->Prop) (lv : Value) (l : List ByteArray) (I R : Nat->World->Prop) (w : World)
 (h0 : I 0 w) (hK : ∀ j V, I j V->Kept P w V) (hs : ∀ j V, j < l.length->I j V->Calls Tryz.prog g (#[Value.string (l.getD j default)] ++ lb) V fun e V' => ∃ b : Bool, e = .returned (.bool b)/\(b = true->R j V')/\(b = false->I (j + 1) V'))
 (hr : RowP P w lv l.length (strCells l)) (hm : l.length<=9223372036854775807)  :
 Calls Tryz.prog 47 #[lv, .func (.func g) #[] lb] w fun e w' => ∃ b : Bool, e = .returned (.bool b)/\(b = true->∃ j, j < l.length/\R j w')/\(b = false->I l.length w') := by
 have H := hJQ (indexS_any g lb eg P lv l I R w h0 hK hs hr hm)
 obtain ⟨a, c, rfl, hlc⟩ := rSQ hr
 clear hr hK hs h0
 go_enter Tryz.func47, Tryz.ntmps47
 go_wp2_with fail
 refine H.out.mono ?_
 rintro e w2 ⟨r, rfl, hyes, hno⟩
 have HR : Hid (∃ b : Bool, Ending.returned (.bool (decide (0<=r))) = .returned (.bool b)/\(b = true->∃ j, j < l.length/\R j w2)/\(b = false->I l.length w2)) := ⟨_, rfl, fun h => hyes (of_decide_eq_true h), fun h => hno (by have := of_decide_eq_false h; omega)⟩
 clear hyes hno H
 go_wp2_with fail
 go_ret
 exact HR.out
end Go.Proofs.YtkiffgdinmpljaaGreatDoor

/- Encode of the reference. -/
import Derived.Test.YtbcbjefonkbjnaaDoorBc33
import Derived.Lib.ConvBytes
import Derived.Deep.AppendLies
namespace Go.Proofs.YtbcbjefonkbjnaaDoor
open Go Go.RowKit

theorem below_bytes {B : Nat} {a w : World} (e : TypeId) (s : ByteArray) (h : Below B a w) (hB : B ≤ w.heap.size) : Below B a (Lib.bytesWorld w e s) :=
  h.trans ⟨rfl, rfl, rfl, by rw [Lib.bytesWorld_size]; omega, fun k hk => Lib.bytesWorld_at_old w e s k (by omega)⟩
theorem ownsRow_below {w w' : World} {base : Nat} {e : TypeId} {size : Nat} {v : Value} {n : Nat} {xs : List Value} (h : w.ownsRow base e size v n xs) (hb : Below w.heap.size w w') : w'.ownsRow base e size v n xs := by
  refine ⟨h.1, ?_⟩
  rcases h.2 with h0 | ⟨g, cap, cur, hv, hg, hh, hr⟩
  · exact .inl h0
  · exact .inr ⟨g, cap, cur, hv, hg, by rw [hb.block g (heap_lt hh)]; exact hh, hr⟩
theorem ownsRow_mono {w : World} {base base' : Nat} {e : TypeId} {size : Nat} {v : Value} {n : Nat} {xs : List Value} (h : w.ownsRow base e size v n xs) (hb : base' ≤ base) : w.ownsRow base' e size v n xs :=
  ⟨h.1, h.2.imp id fun ⟨g, cap, cur, hv, hg, hr⟩ => ⟨g, cap, cur, hv, Nat.le_trans hb hg, hr⟩⟩
theorem putL_pos (n : Int) : 0 < (putL n).length := by
  unfold putL putF; split <;> simp
theorem own_form {w : World} {base : Nat} {v : Value} {l : List Int} (h : w.ownsRow base 5 1 v l.length (u8s l)) (hl : 0 < l.length) :
    ∃ g c, v = .slice (some ⟨g, 0, none⟩) l.length c ∧ (∀ j u, (u8s l)[j]? = some u → w.cell? ((⟨g, 0, none⟩ : Addr).add j) = some u) := by
  obtain ⟨a, c, hv, hc, hx⟩ := isRow_owns h
  obtain ⟨g', hg', cur, e1, _⟩ : ∃ g' c' cur, v = .slice (some ⟨g', 0, none⟩) l.length c' ∧ w.heap[g']? = some (.cells cur 5 (0, 0)) := by
    rcases h.2 with ⟨_, h0⟩ | ⟨g, cap, cur, hv, _, hh, _⟩
    · omega
    · exact ⟨g, cap, cur, hv, hh⟩
  obtain ⟨b, off, e2, _, h3⟩ := hx hl
  rw [hv, e2] at e1
  obtain ⟨e4, _⟩ := Value.slice.inj e1
  cases e4
  refine ⟨g', c, by rw [hv, e2], fun j u hj => ?_⟩
  have hjl : j < (u8s l).length := (List.getElem?_eq_some_iff.1 hj).1
  rw [Go.WideShapes.add_plain, h3 j hjl]
  simp only [List.getD, hj, Option.getD_some]
theorem bytes_at (l : List UInt8) (j : Nat) (h : j < l.length) : (u8s (l.map fun b => (b.toNat : Int)))[j]? = some (.int .u8 ((l.getD j 0).toNat : Int)) := by
  unfold u8s
  rw [List.getElem?_map, List.getElem?_map, List.getElem?_eq_getElem h]
  simp [List.getD, h]
theorem u8s_one (l : List Int) : ∀ u ∈ u8s l, u.oneCell' = true := fun u hu => by
  obtain ⟨z, _, rfl⟩ := List.mem_map.1 hu
  rfl
theorem u8s_app (a b : List Int) : u8s (a ++ b) = u8s a ++ u8s b := by unfold u8s; rw [List.map_append]
def REncOk (p : ProgD) (w : World) (e : Ending) (w' : World) : Prop := ∃ v, e = .returned v ∧ IsRow w' v (encL p).length (u8s (encL p)) ∧ Below w.heap.size w w'
set_option maxHeartbeats 4000000 in
set_option maxRecDepth 100000 in
theorem rencode_any (fv tv : Value) (p : ProgD) (w : World) (h : IsProg w fv tv p) (h0 : validB p = true) (hlen : (bodyL p).length ≤ 1000000) :
    Calls Tryd.prog 20 #[.agg #[fv, tv, .int .i64 p.main]] w (REncOk p w) := by
  have Hp := Lib.hid h
  have hb01 : Below w.heap.size w (w.alloc (.cells #[fv, tv, .int .i64 p.main] 25)) := (Below.refl _ _).alloc (Nat.le_refl _) _
  obtain ⟨⟨⟨fa, fc, rfl, hfc, _⟩, _⟩, ⟨ta, tc, rfl, htc, _⟩⟩ := h
  have hz1 : (w.alloc (.cells #[.slice fa p.funs.length fc, .slice ta p.texts.length tc, .int .i64 p.main] 25)).heap.size = w.heap.size + 1 := by simp
  have g1 : ∀ o v, (#[Value.slice fa p.funs.length fc, .slice ta p.texts.length tc, .int .i64 p.main] : Array Value)[o]? = some v → (w.alloc (.cells #[.slice fa p.funs.length fc, .slice ta p.texts.length tc, .int .i64 p.main] 25)).cell? ⟨w.heap.size, o, none⟩ = some v := fun o v hv => by rw [cell_new]; exact hv
  have hcv : ∀ (u : World) (s : ByteArray), (convert 9 47 (.string s)).run Tryd.prog u = .ok (.slice (some ⟨u.heap.size, 0, none⟩) s.size (grownCap u s.size 0 5)) (Lib.bytesWorld u 5 s) := fun u s => Lib.run_convert_string_bytes u _ _ _ s Tryd.underlying9 Tryd.underlying47 Tryd.underlying5
  obtain ⟨i0, hi, hz0, hz1', hz2⟩ := info_parts info_u8
  obtain ⟨v1, v2, v3, v4, v5, v6, v7⟩ := valid_parts p h0
  have HV4 := Lib.hid v4
  have HV5 := Lib.hid v5
  clear v4 v5 h0
  go_enter Tryd.func20, Tryd.ntmps20
  go_upto_region 1 with fail
  generalize w.alloc (.cells #[.slice fa p.funs.length fc, .slice ta p.texts.length tc, .int .i64 p.main] 25) = w1 at *
  have g2 : ∀ (wx : World) o v, Below (w.heap.size + 1) w1 wx → (#[Value.slice fa p.funs.length fc, .slice ta p.texts.length tc, .int .i64 p.main] : Array Value)[o]? = some v → wx.cell? ⟨w.heap.size, o, none⟩ = some v := fun wx o v hb hv => (hb.cell (p := ⟨w.heap.size, o, none⟩) (Nat.lt_succ_self _)).trans (g1 o v hv)
  have G2 := Lib.hid g2
  have q1 : w1.cell? ⟨w.heap.size, 1, none⟩ = some (.slice ta p.texts.length tc) := g1 1 _ rfl
  have q2 : w1.cell? ⟨w.heap.size, 2, none⟩ = some (.int .i64 p.main) := g1 2 _ rfl
  clear g1 g2
  go_cut [3] from 11 to 18 (fun v wx => ∃ pre, wx.ownsRow (w.heap.size + 1) 5 1 v pre.length (u8s pre) ∧ pre = putL p.main ++ putL p.texts.length ∧ Below (w.heap.size + 1) w1 wx)
  case first =>
    go_region_held3 (fun w' => w'.cell? ⟨w.heap.size, 2, none⟩ = some (.int .i64 p.main) ∧ w'.cell? ⟨w.heap.size, 1, none⟩ = some (.slice ta p.texts.length tc)) (first | exact ⟨x2, x1⟩ | exact ⟨y2, y1⟩ | exact ⟨z2, z1⟩ | exact ⟨q2, q1⟩)
      (first
        | (have guard9 := ownB; clear guard9; refine step_append_lies _ (by rfl) _ _ _ (by rfl) (w.heap.size + 1) 5 i0 (.int .u8 0) 1 1 Tryd.underlying47 hi hz0 hz1' hz2 rfl (by decide) _ (putL p.main).length (u8s (putL p.main)) (by rfl) ownA ⟨gB, 0, none⟩ (putL p.texts.length).length cB (u8s (putL p.texts.length)) (by rfl) (by rw [u8s_length, Nat.mul_one]) cellsB (u8s_one _) (putL_pos _) (by have := putL_length p.main; have := putL_length p.texts.length; unfold maxLen; omega) (by have := putL_length p.main; have := putL_length p.texts.length; omega) (by have := hbB.size; have := hbA.size; omega) w3.heap.size rfl ?_; intro gN cN w4 hown4 hgrow4 _ _; have hb4 := (hbA.trans (hbB.mono (by have := hbA.size; omega))).grown hgrow4 (by have := hbB.size; have := hbA.size; omega) (fun g hg => (ownA.lt g hg).1); have x1 := (hb4.cell (p := ⟨w.heap.size, 1, none⟩) (Nat.lt_succ_self _)).trans q1; have x2 := (hb4.cell (p := ⟨w.heap.size, 2, none⟩) (Nat.lt_succ_self _)).trans q2)
        | (have guard9 := ownA'; clear guard9; go_at_call 46; refine (rput_any p.texts.length _ (by omega) (by omega)).mono ?_; rintro e w3 ⟨uB, rfl, ownB', hbB⟩; have ownA := ownsRow_below ownA' hbB; obtain ⟨gB, cB, rfl, cellsB⟩ := own_form ownB' (putL_pos _); have ownB := ownB'; have z1 := (hbB.cell (p := ⟨w.heap.size, 1, none⟩) (by have := hbA.size; simp only; omega)).trans y1; have z2 := (hbB.cell (p := ⟨w.heap.size, 2, none⟩) (by have := hbA.size; simp only; omega)).trans y2)
        | (go_at_call 46; refine (rput_any p.main _ (by omega) (by omega)).mono ?_; rintro e w2 ⟨uA, rfl, ownA0, hbA0⟩; have hbA := (Below.refl (w.heap.size + 1) w1).drew.trans (hbA0.mono (by show _ ≤ w1.heap.size; omega)); have ownA' := ownsRow_mono (base' := w.heap.size + 1) ownA0 (by show _ ≤ w1.heap.size; omega); have y1 := (hbA.cell (p := ⟨w.heap.size, 1, none⟩) (Nat.lt_succ_self _)).trans q1; have y2 := (hbA.cell (p := ⟨w.heap.size, 2, none⟩) (Nat.lt_succ_self _)).trans q2))
    all_goals (go_wp2_with fail; go_meet; exact ⟨putL p.main ++ putL p.texts.length, by rw [List.length_append, u8s_app]; exact hown4, rfl, hb4⟩)
  case rest =>
    obtain ⟨pre0, hown0, hpre0, hbc⟩ := hcut
    have Hown0 := Lib.hid hown0
    have Hpre0 : Hid (pre0 ++ ((p.texts.drop 0).flatMap textL ++ (putL p.funs.length ++ p.funs.flatMap funL)) = bodyL p) := by show _ = _; rw [hpre0, List.append_assoc]; rfl
    clear hown0 hpre0 q1 q2
    go_wp2_with fail
    go_loopw [3, 4] (fun u i wr => (∃ (k : Nat) (pre : List Int), k ≤ p.texts.length ∧ i = .int .i64 k ∧ Hid (wr.ownsRow (w.heap.size + 1) 5 1 u (pre).length (u8s (pre))) ∧ Hid (pre ++ ((p.texts.drop k).flatMap textL ++ (putL p.funs.length ++ p.funs.flatMap funL)) = bodyL p)) ∧ Below (w.heap.size + 1) w1 wr) (fun _ i _ => p.texts.length - (intOf i).toNat)
    case atStart => exact ⟨⟨0, pre0, Nat.zero_le _, rfl, Hown0, Hpre0⟩, hbc⟩
    case round =>
      rename World => V1
      obtain ⟨⟨k, pre, hk, rfl, Hr, Hpre⟩, hbr⟩ := hrel
      have hbw : Below w.heap.size w V1 := hb01.trans (hbr.mono (by omega))
      have hwz : w.heap.size + 1 ≤ V1.heap.size := by have := hbr.size; omega
      have c1 : V1.cell? ⟨w.heap.size, 1, none⟩ = some (.slice ta p.texts.length tc) := G2.out V1 1 _ hbr rfl
      by_cases hkl : k < p.texts.length
      · obtain ⟨b, off, tc', fd, _, hbl, c0⟩ := texts_at Hp.out.2 k hkl
        obtain rfl := (Value.slice.inj fd).1
        have d0 := (hbw.cell (p := ⟨b, off + k, none⟩) hbl).trans c0
        have Hst := Lib.hid (drop_step default p.texts textL k hkl)
        have Hc0 := Lib.hid c0
        clear c0 fd
        generalize p.texts.getD k default = s at *
        have hL := len_of (Hpre.out)
        rw [Hst.out] at hL
        simp only [textL, List.length_append, bytesL_length] at hL
        have hL0 : pre.length ≤ 1000000 := by omega
        have hL1 : pre.length + (putL s.size).length + s.size ≤ 1000000 := by omega
        have hL2 : s.size ≤ 1000000 := by omega
        clear hL
        go_wp2_with fail
        refine (rput_any (s.size : Int) _ (by omega) (by omega)).mono ?_
        rintro e wA1 ⟨uA1, rfl, oA1, bA1⟩
        have HA1 : Hid (wA1.ownsRow (w.heap.size + 1) 5 1 u3 (pre).length (u8s (pre))) := ownsRow_below Hr.out bA1
        obtain ⟨gA1, cA1, rfl, cellsA1⟩ := own_form oA1 (putL_pos _)
        have hbA1 : Below (w.heap.size + 1) w1 wA1 := hbr.trans (bA1.mono (by have := hbr.size; omega))
        go_wp2_with (at_builtin; refine wpList_append_own _ rfl _ _ 47 rfl (w.heap.size + 1) 5 i0 (.int .u8 0) 1 1 Tryd.underlying47 hi hz0 hz1' hz2 rfl (by decide) _ (pre).length (u8s (pre)) rfl HA1.out ⟨gA1, 0, none⟩ (putL (s.size : Int)).length cA1 (u8s (putL (s.size : Int))) rfl (by rw [u8s_length, Nat.mul_one]) cellsA1 (u8s_one _) ?m1 ?m2 ?m3 ?_)
        case m1 => unfold maxLen; have := putL_length (s.size : Int); omega
        case m2 => have := putL_length (s.size : Int); omega
        case m3 => have := hbA1.size; omega
        intro v'1 wB1 hownB1 hgrowB1 _
        have HrB1 : Hid (wB1.ownsRow (w.heap.size + 1) 5 1 v'1 (pre ++ putL (s.size : Int)).length (u8s (pre ++ putL (s.size : Int)))) := by
          show World.ownsRow _ _ _ _ _ _ _
          simp only [List.length_append, u8s_app, List.append_assoc, Nat.add_assoc] at hownB1 ⊢; exact hownB1
        have hbB1 : Below (w.heap.size + 1) w1 wB1 := hbA1.grown hgrowB1 (by have := hbA1.size; omega) (fun g hg => (HA1.out.lt g hg).1)
        have hO1 : Others V1 wB1 := (Others.below bA1).trans (Others.grown hgrowB1 HA1.out)
        clear hownB1 hgrowB1 oA1 cellsA1 bA1 HA1 hbA1
        have hbwB : Below w.heap.size w wB1 := hb01.trans (hbB1.mono (by omega))
        have cB1 : wB1.cell? ⟨w.heap.size, 1, none⟩ = _ := G2.out wB1 1 _ hbB1 rfl
        have dB1 := (hbwB.cell (p := ⟨b, off + k, none⟩) hbl).trans Hc0.out
        have hbC := below_bytes 5 s (Below.refl wB1.heap.size wB1) (Nat.le_refl _)
        have HC := Lib.hid (ownsRow_below HrB1.out hbC)
        have hzC : (Lib.bytesWorld wB1 5 s).heap.size = wB1.heap.size + 1 := Lib.bytesWorld_size _ _ _
        go_wp2_with (at_builtin; refine wpList_append_own _ rfl _ _ 47 rfl (w.heap.size + 1) 5 i0 (.int .u8 0) 1 1 Tryd.underlying47 hi hz0 hz1' hz2 rfl (by decide) _ (pre ++ putL s.size).length (u8s (pre ++ putL s.size)) rfl HC.out ⟨wB1.heap.size, 0, none⟩ s.size _ (u8s (bytesL s)) rfl (by rw [u8s_length, bytesL_length, Nat.mul_one]) ?n1 (u8s_one _) ?n2 ?n3 ?n4 ?_)
        case n1 =>
          intro j u hj
          have hjl : j < (u8s (bytesL s)).length := (List.getElem?_eq_some_iff.1 hj).1
          rw [u8s_length, bytesL_length] at hjl
          rw [Go.WideShapes.add_plain, Nat.zero_add, Lib.bytesWorld_cell wB1 _ s j hjl, ← hj]
          exact (bytes_at s.data.toList j (by simpa using hjl)).symm
        case n2 => rw [List.length_append]; unfold maxLen; omega
        case n3 => rw [List.length_append]; omega
        case n4 => have := hbB1.size; omega
        intro v3 w6 hown6 hgrow6 _
        have hb6 : Below (w.heap.size + 1) w1 w6 := (below_bytes _ s hbB1 (by have := hbB1.size; omega)).grown hgrow6 (by have := hbB1.size; omega) (fun g hg => (HC.out.lt g hg).1)
        have Hown6 : Hid (w6.ownsRow (w.heap.size + 1) 5 1 v3 (pre ++ textL s).length (u8s (pre ++ textL s))) := by
          show World.ownsRow _ _ _ _ _ _ _
          have e1 : (pre ++ textL s).length = (pre ++ putL s.size).length + s.size := by simp only [textL, List.length_append, bytesL_length]; omega
          have e2 : u8s (pre ++ textL s) = u8s (pre ++ putL s.size) ++ u8s (bytesL s) := by rw [textL, ← List.append_assoc, u8s_app]
          rw [e1, e2, List.length_append]; exact hown6
        have Hpre3 : Hid ((pre ++ textL s) ++ ((p.texts.drop (k + 1)).flatMap textL ++ (putL p.funs.length ++ p.funs.flatMap funL)) = bodyL p) := by
          show _ = _
          rw [← Hpre.out, Hst.out]; simp only [List.append_assoc]
        clear hown6 hgrow6 HC hbC hzC cB1 dB1
        go_wp2_with fail
        go_roundw
        case rel => exact ⟨⟨k + 1, _, by omega, by go_num, Hown6, Hpre3⟩, hb6⟩
        case measure => simp [intOf]; omega
      · have Hpre1 : Hid (pre ++ (putL p.funs.length ++ p.funs.flatMap funL) = bodyL p) := by
          show _ = _
          have := Hpre.out
          rw [List.drop_of_length_le (by omega)] at this
          exact this
        have d0 : V1.cell? ⟨w.heap.size, 0, none⟩ = some (.slice fa p.funs.length fc) := G2.out V1 0 _ hbr rfl
        have hL0 : pre.length ≤ 1000000 := by have := len_of Hpre1.out; omega
        clear Hpre hbw
        go_wp2_with fail
        refine (rput_any (p.funs.length : Int) _ (by omega) (by omega)).mono ?_
        rintro e wA2 ⟨uA2, rfl, oA2, bA2⟩
        have HA2 : Hid (wA2.ownsRow (w.heap.size + 1) 5 1 u3 (pre).length (u8s (pre))) := ownsRow_below Hr.out bA2
        obtain ⟨gA2, cA2, rfl, cellsA2⟩ := own_form oA2 (putL_pos _)
        have hbA2 : Below (w.heap.size + 1) w1 wA2 := hbr.trans (bA2.mono (by have := hbr.size; omega))
        go_wp2_with (at_builtin; refine wpList_append_own _ rfl _ _ 47 rfl (w.heap.size + 1) 5 i0 (.int .u8 0) 1 1 Tryd.underlying47 hi hz0 hz1' hz2 rfl (by decide) _ (pre).length (u8s (pre)) rfl HA2.out ⟨gA2, 0, none⟩ (putL (p.funs.length : Int)).length cA2 (u8s (putL (p.funs.length : Int))) rfl (by rw [u8s_length, Nat.mul_one]) cellsA2 (u8s_one _) ?m1 ?m2 ?m3 ?_)
        case m1 => unfold maxLen; have := putL_length (p.funs.length : Int); omega
        case m2 => have := putL_length (p.funs.length : Int); omega
        case m3 => have := hbA2.size; omega
        intro v'2 wB2 hownB2 hgrowB2 _
        have HrB2 : Hid (wB2.ownsRow (w.heap.size + 1) 5 1 v'2 (pre ++ putL (p.funs.length : Int)).length (u8s (pre ++ putL (p.funs.length : Int)))) := by
          show World.ownsRow _ _ _ _ _ _ _
          simp only [List.length_append, u8s_app, List.append_assoc, Nat.add_assoc] at hownB2 ⊢; exact hownB2
        have hbB2 : Below (w.heap.size + 1) w1 wB2 := hbA2.grown hgrowB2 (by have := hbA2.size; omega) (fun g hg => (HA2.out.lt g hg).1)
        have hO2 : Others V1 wB2 := (Others.below bA2).trans (Others.grown hgrowB2 HA2.out)
        clear hownB2 hgrowB2 oA2 cellsA2 bA2 HA2 hbA2
        have Hpre4 : Hid ((pre ++ putL p.funs.length) ++ (p.funs.drop 0).flatMap funL = bodyL p) := by
          show _ = _
          rw [← Hpre1.out, List.append_assoc]; rfl
        have c0 : wB2.cell? ⟨w.heap.size, 0, none⟩ = some (.slice fa p.funs.length fc) := G2.out wB2 0 _ hbB2 rfl
        clear Hpre1 d0
        go_wp2_with fail
        go_loopw [3, 5] (fun u i wr => (∃ (k : Nat) (pre : List Int), k ≤ p.funs.length ∧ i = .int .i64 k ∧ Hid (wr.ownsRow (w.heap.size + 1) 5 1 u (pre).length (u8s (pre))) ∧ Hid (pre ++ (p.funs.drop k).flatMap funL = bodyL p)) ∧ Below (w.heap.size + 1) w1 wr) (fun _ i _ => p.funs.length - (intOf i).toNat)
        case atStart => exact ⟨⟨0, _, Nat.zero_le _, rfl, HrB2, Hpre4⟩, hbB2⟩
        case round =>
          rename World => V2
          clear c0
          obtain ⟨⟨k, pre, hk, rfl, Hr, Hpre⟩, hbr⟩ := hrel
          have hbw : Below w.heap.size w V2 := hb01.trans (hbr.mono (by omega))
          have hwz : w.heap.size + 1 ≤ V2.heap.size := by have := hbr.size; omega
          have c0 : V2.cell? ⟨w.heap.size, 0, none⟩ = some (.slice fa p.funs.length fc) := G2.out V2 0 _ hbr rfl
          by_cases hkl : k < p.funs.length
          · obtain ⟨b, off, fc', fd, _, hbl, a0, a1, a2, a3⟩ := Hp.out.1.at' k hkl
            obtain rfl := (Value.slice.inj fd).1
            have d0 := (hbw.cell (p := ⟨b, off + k * 4, none⟩) hbl).trans a0
            have d1 := (hbw.cell (p := ⟨b, off + k * 4 + 1, none⟩) hbl).trans a1
            have d2 := (hbw.cell (p := ⟨b, off + k * 4 + 2, none⟩) hbl).trans a2
            have d3 := (hbw.cell (p := ⟨b, off + k * 4 + 3, none⟩) hbl).trans a3
            have hcode := Hp.out.1.2 _ (getD_mem default p.funs k hkl)
            have hhead := HV4.out _ (getD_mem default p.funs k hkl)
            have hrights := HV5.out _ (getD_mem default p.funs k hkl)
            clear a0 a1 a2 a3 fd
            have Hst := Lib.hid (drop_step default p.funs funL k hkl)
            generalize p.funs.getD k default = f at *
            obtain ⟨c, l, d, v, code⟩ := f
            have Hcode : Hid (IsCode w v code) := hcode
            obtain ⟨ca, cc, hv, hcc, _⟩ := hcode
            simp only at hv d0 d1 d2 d3 hcc
            subst hv
            simp only [headB, inB, Bool.and_eq_true, decide_eq_true_eq] at hhead
            obtain ⟨⟨hh0, hh1⟩, ⟨hh2, hh3⟩, ⟨hh4, hh5⟩, ⟨hh6, hh7⟩⟩ := hhead
            have hcl : code.length ≤ 16384 := by omega
            have Hfit : Hid (∀ j, j < code.length → Fit (code.getD j default).op ∧ Fit (code.getD j default).a ∧ Fit (code.getD j default).b ∧ knownB (code.getD j default).op = true) := fun j hj =>
              right_fit p.texts.length p.funs c l code j hj hh0 hh1 hh3 (by omega) (by omega) (by omega) HV4.out (by
                rw [rightsB_eq, List.all_eq_true] at hrights
                exact hrights j (by simpa using hj))
            clear hrights
            have Hst' : Hid ((p.funs.drop k).flatMap funL = ([c, l, d, (code.length : Int)].flatMap putL ++ code.flatMap insL) ++ (p.funs.drop (k + 1)).flatMap funL) := Hst.out
            clear Hst
            have gF : ((V2.alloc (.cells #[.int .i64 c, .int .i64 l, .int .i64 d, .slice ca code.length cc] 30)).alloc (.cells #[.int .i64 c, .int .i64 l, .int .i64 d, .int .i64 code.length] 3)).heap[V2.heap.size]? = some (.cells #[.int .i64 c, .int .i64 l, .int .i64 d, .slice ca code.length cc] 30 (0, 0)) := (Below.heap_alloc _ _ _ (by simp)).trans (new_heap V2 _)
            have gN : ((V2.alloc (.cells #[.int .i64 c, .int .i64 l, .int .i64 d, .slice ca code.length cc] 30)).alloc (.cells #[.int .i64 c, .int .i64 l, .int .i64 d, .int .i64 code.length] 3)).heap[V2.heap.size + 1]? = some (.cells #[.int .i64 c, .int .i64 l, .int .i64 d, .int .i64 code.length] 3 (0, 0)) := (congrArg _ (by simp)).trans (new_heap (V2.alloc (.cells #[.int .i64 c, .int .i64 l, .int .i64 d, .slice ca code.length cc] 30)) _)
            have HrW : Hid (((V2.alloc (.cells #[.int .i64 c, .int .i64 l, .int .i64 d, .slice ca code.length cc] 30)).alloc (.cells #[.int .i64 c, .int .i64 l, .int .i64 d, .int .i64 code.length] 3)).ownsRow (w.heap.size + 1) 5 1 u3 (pre).length (u8s (pre))) := (Hr.out.alloc _).alloc _
            have hbW : Below (w.heap.size + 1) w1 ((V2.alloc (.cells #[.int .i64 c, .int .i64 l, .int .i64 d, .slice ca code.length cc] 30)).alloc (.cells #[.int .i64 c, .int .i64 l, .int .i64 d, .int .i64 code.length] 3)) := (hbr.alloc (by omega) _).alloc (by simp; omega) _
            go_wp2_with fail
            generalize ((V2.alloc (.cells #[.int .i64 c, .int .i64 l, .int .i64 d, .slice ca code.length cc] 30)).alloc (.cells #[.int .i64 c, .int .i64 l, .int .i64 d, .int .i64 code.length] 3)) = W2 at *
            have Hpre0' : Hid (pre ++ (([c, l, d, (code.length : Int)].drop 0).flatMap putL ++ (code.flatMap insL ++ (p.funs.drop (k + 1)).flatMap funL)) = bodyL p) := by
              show _ = _
              rw [← Hpre.out, Hst'.out, List.append_assoc]; rfl
            clear d0 d1 d2 d3 c0
            go_loopw [3, 8] (fun u i wr => (∃ (j : Nat) (pre : List Int), j ≤ 4 ∧ i = .int .i64 j ∧ Hid (wr.ownsRow (w.heap.size + 1) 5 1 u (pre).length (u8s (pre))) ∧ Hid (pre ++ (([c, l, d, (code.length : Int)].drop j).flatMap putL ++ (code.flatMap insL ++ (p.funs.drop (k + 1)).flatMap funL)) = bodyL p) ∧ Hid (wr.heap[V2.heap.size]? = some (.cells #[.int .i64 c, .int .i64 l, .int .i64 d, .slice ca code.length cc] 30 (0, 0))) ∧ Hid (wr.heap[V2.heap.size + 1]? = some (.cells #[.int .i64 c, .int .i64 l, .int .i64 d, .int .i64 code.length] 3 (0, 0)))) ∧ Below (w.heap.size + 1) w1 wr) (fun _ i _ => 4 - (intOf i).toNat)
            case atStart => exact ⟨⟨0, pre, Nat.zero_le _, rfl, HrW, Hpre0', gF, gN⟩, hbW⟩
            case round =>
              clear gF gN HrW hbW Hpre0'
              rename World => V3
              obtain ⟨⟨j, pre3, hj, rfl, Hr3, Hpre3, HF3, HN3⟩, hbr3⟩ := hrel
              have hwz3 : w.heap.size + 1 ≤ V3.heap.size := by have := hbr3.size; omega
              by_cases hjl : j < 4
              · have Hst3 := Lib.hid (drop_step 0 [c, l, d, (code.length : Int)] putL j hjl)
                have hx : V3.cell? ⟨V2.heap.size + 1, j, none⟩ = some (.int .i64 ([c, l, d, (code.length : Int)].getD j 0)) := by
                  have := HN3.out
                  rcases (by omega : j = 0 ∨ j = 1 ∨ j = 2 ∨ j = 3) with rfl | rfl | rfl | rfl <;> simp [World.cell?, this]
                have hxf : -4503599627370497 ≤ [c, l, d, (code.length : Int)].getD j 0 ∧ [c, l, d, (code.length : Int)].getD j 0 ≤ 4503599627370497 := by
                  rcases (by omega : j = 0 ∨ j = 1 ∨ j = 2 ∨ j = 3) with rfl | rfl | rfl | rfl <;> simp <;> omega
                generalize [c, l, d, (code.length : Int)].getD j 0 = x at *
                have hL0 : pre3.length ≤ 1000000 := by have := len_of Hpre3.out; omega
                go_wp2_with fail
                refine (rput_any x _ (hxf.1) (hxf.2)).mono ?_
                rintro e wA3 ⟨uA3, rfl, oA3, bA3⟩
                have HA3 : Hid (wA3.ownsRow (w.heap.size + 1) 5 1 u3 (pre3).length (u8s (pre3))) := ownsRow_below Hr3.out bA3
                obtain ⟨gA3, cA3, rfl, cellsA3⟩ := own_form oA3 (putL_pos _)
                have hbA3 : Below (w.heap.size + 1) w1 wA3 := hbr3.trans (bA3.mono (by have := hbr3.size; omega))
                go_wp2_with (at_builtin; refine wpList_append_own _ rfl _ _ 47 rfl (w.heap.size + 1) 5 i0 (.int .u8 0) 1 1 Tryd.underlying47 hi hz0 hz1' hz2 rfl (by decide) _ (pre3).length (u8s (pre3)) rfl HA3.out ⟨gA3, 0, none⟩ (putL x).length cA3 (u8s (putL x)) rfl (by rw [u8s_length, Nat.mul_one]) cellsA3 (u8s_one _) ?m1 ?m2 ?m3 ?_)
                case m1 => unfold maxLen; have := putL_length x; omega
                case m2 => have := putL_length x; omega
                case m3 => have := hbA3.size; omega
                intro v'3 wB3 hownB3 hgrowB3 _
                have HrB3 : Hid (wB3.ownsRow (w.heap.size + 1) 5 1 v'3 (pre3 ++ putL x).length (u8s (pre3 ++ putL x))) := by
                  show World.ownsRow _ _ _ _ _ _ _
                  simp only [List.length_append, u8s_app, List.append_assoc, Nat.add_assoc] at hownB3 ⊢; exact hownB3
                have hbB3 : Below (w.heap.size + 1) w1 wB3 := hbA3.grown hgrowB3 (by have := hbA3.size; omega) (fun g hg => (HA3.out.lt g hg).1)
                have hO3 : Others V3 wB3 := (Others.below bA3).trans (Others.grown hgrowB3 HA3.out)
                clear hownB3 hgrowB3 oA3 cellsA3 bA3 HA3 hbA3
                have A3 : Hid (wB3.heap[V2.heap.size]? = some (.cells #[.int .i64 c, .int .i64 l, .int .i64 d, .slice ca code.length cc] 30 (0, 0))) := hO3 _ _ _ _ HF3.out (by decide) (by decide)
                have A4 : Hid (wB3.heap[V2.heap.size + 1]? = some (.cells #[.int .i64 c, .int .i64 l, .int .i64 d, .int .i64 code.length] 3 (0, 0))) := hO3 _ _ _ _ HN3.out (by decide) (by decide)
                have Hpre5 : Hid ((pre3 ++ putL x) ++ (([c, l, d, (code.length : Int)].drop (j + 1)).flatMap putL ++ (code.flatMap insL ++ (p.funs.drop (k + 1)).flatMap funL)) = bodyL p) := by
                  show _ = _
                  rw [← Hpre3.out, Hst3.out]; simp only [List.append_assoc]
                clear hx hO3
                go_wp2_with fail
                go_roundw
                case rel => exact ⟨⟨j + 1, _, by omega, by go_num, HrB3, Hpre5, A3, A4⟩, hbB3⟩
                case measure => simp [intOf]; omega
              · have Hpre4 : Hid (pre3 ++ ((code.drop 0).flatMap insL ++ (p.funs.drop (k + 1)).flatMap funL) = bodyL p) := by
                  show _ = _
                  have := Hpre3.out
                  rw [List.drop_of_length_le (by simp; omega)] at this
                  exact this
                clear Hpre3
                go_wp2_with fail
                go_loopw [3, 9] (fun u i wr => (∃ (j : Nat) (pre : List Int), j ≤ code.length ∧ i = .int .i64 j ∧ Hid (wr.ownsRow (w.heap.size + 1) 5 1 u (pre).length (u8s (pre))) ∧ Hid (pre ++ ((code.drop j).flatMap insL ++ (p.funs.drop (k + 1)).flatMap funL) = bodyL p) ∧ Hid (wr.heap[V2.heap.size]? = some (.cells #[.int .i64 c, .int .i64 l, .int .i64 d, .slice ca code.length cc] 30 (0, 0)))) ∧ Below (w.heap.size + 1) w1 wr) (fun _ i _ => code.length - (intOf i).toNat)
                case atStart => exact ⟨⟨0, _, Nat.zero_le _, rfl, Hr3, Hpre4, HF3⟩, hbr3⟩
                case round =>
                  rename World => V4
                  obtain ⟨⟨j, pre4, hj, rfl, Hr4, Hpre4, HF4⟩, hbr4⟩ := hrel
                  have hbw4 : Below w.heap.size w V4 := hb01.trans (hbr4.mono (by omega))
                  have f3 := (fun_cells HF4.out).2.2.2
                  by_cases hjl : j < code.length
                  · obtain ⟨b', off', cc', fd', _, hbl', a0, a1, a2⟩ := code_at Hcode.out j hjl
                    obtain rfl := (Value.slice.inj fd').1
                    have d0 := (hbw4.cell (p := ⟨b', off' + j * 3, none⟩) hbl').trans a0
                    have hft := Hfit.out j hjl
                    have Hst4 := Lib.hid (drop_step default code insL j hjl)
                    have Ha1 := Lib.hid a1
                    have Ha2 := Lib.hid a2
                    clear a0 a1 a2 fd'
                    generalize code.getD j default = i at *
                    obtain ⟨op, a, b⟩ := i
                    obtain ⟨⟨o1, o2⟩, ⟨a1, a2⟩, ⟨b1, b2⟩, _⟩ := hft
                    simp only at d0 o1 o2 a1 a2 b1 b2
                    have hL := len_of (Hpre4.out)
                    rw [Hst4.out] at hL
                    simp only [insL, List.length_append] at hL
                    have hL0 : pre4.length ≤ 1000000 := by omega
                    have hL1 : (pre4 ++ putL op).length ≤ 1000000 := by rw [List.length_append]; omega
                    have hL2 : ((pre4 ++ putL op) ++ putL a).length ≤ 1000000 := by simp only [List.length_append]; omega
                    clear hL
                    go_wp2_with fail
                    refine (rput_any op _ (o1) (o2)).mono ?_
                    rintro e wA4 ⟨uA4, rfl, oA4, bA4⟩
                    have HA4 : Hid (wA4.ownsRow (w.heap.size + 1) 5 1 u3 (pre4).length (u8s (pre4))) := ownsRow_below Hr4.out bA4
                    obtain ⟨gA4, cA4, rfl, cellsA4⟩ := own_form oA4 (putL_pos _)
                    have hbA4 : Below (w.heap.size + 1) w1 wA4 := hbr4.trans (bA4.mono (by have := hbr4.size; omega))
                    go_wp2_with (at_builtin; refine wpList_append_own _ rfl _ _ 47 rfl (w.heap.size + 1) 5 i0 (.int .u8 0) 1 1 Tryd.underlying47 hi hz0 hz1' hz2 rfl (by decide) _ (pre4).length (u8s (pre4)) rfl HA4.out ⟨gA4, 0, none⟩ (putL op).length cA4 (u8s (putL op)) rfl (by rw [u8s_length, Nat.mul_one]) cellsA4 (u8s_one _) ?m1 ?m2 ?m3 ?_)
                    case m1 => unfold maxLen; have := putL_length op; omega
                    case m2 => have := putL_length op; omega
                    case m3 => have := hbA4.size; omega
                    intro v'4 wB4 hownB4 hgrowB4 _
                    have HrB4 : Hid (wB4.ownsRow (w.heap.size + 1) 5 1 v'4 (pre4 ++ putL op).length (u8s (pre4 ++ putL op))) := by
                      show World.ownsRow _ _ _ _ _ _ _
                      simp only [List.length_append, u8s_app, List.append_assoc, Nat.add_assoc] at hownB4 ⊢; exact hownB4
                    have hbB4 : Below (w.heap.size + 1) w1 wB4 := hbA4.grown hgrowB4 (by have := hbA4.size; omega) (fun g hg => (HA4.out.lt g hg).1)
                    have hO4 : Others V4 wB4 := (Others.below bA4).trans (Others.grown hgrowB4 HA4.out)
                    clear hownB4 hgrowB4 oA4 cellsA4 bA4 HA4 hbA4
                    have hF4' := hO4 _ _ _ _ HF4.out (by decide) (by decide)
                    have f34 := (fun_cells hF4').2.2.2
                    have hbwB4 : Below w.heap.size w wB4 := hb01.trans (hbB4.mono (by omega))
                    have d14 := (hbwB4.cell (p := ⟨b', off' + j * 3 + 1, none⟩) hbl').trans Ha1.out
                    go_wp2_with fail
                    refine (rput_any a _ (a1) (a2)).mono ?_
                    rintro e wA5 ⟨uA5, rfl, oA5, bA5⟩
                    have HA5 : Hid (wA5.ownsRow (w.heap.size + 1) 5 1 v'4 ((pre4 ++ putL op)).length (u8s ((pre4 ++ putL op)))) := ownsRow_below HrB4.out bA5
                    obtain ⟨gA5, cA5, rfl, cellsA5⟩ := own_form oA5 (putL_pos _)
                    have hbA5 : Below (w.heap.size + 1) w1 wA5 := hbB4.trans (bA5.mono (by have := hbB4.size; omega))
                    go_wp2_with (at_builtin; refine wpList_append_own _ rfl _ _ 47 rfl (w.heap.size + 1) 5 i0 (.int .u8 0) 1 1 Tryd.underlying47 hi hz0 hz1' hz2 rfl (by decide) _ ((pre4 ++ putL op)).length (u8s ((pre4 ++ putL op))) rfl HA5.out ⟨gA5, 0, none⟩ (putL a).length cA5 (u8s (putL a)) rfl (by rw [u8s_length, Nat.mul_one]) cellsA5 (u8s_one _) ?m1 ?m2 ?m3 ?_)
                    case m1 => unfold maxLen; have := putL_length a; omega
                    case m2 => have := putL_length a; omega
                    case m3 => have := hbA5.size; omega
                    intro v'5 wB5 hownB5 hgrowB5 _
                    have HrB5 : Hid (wB5.ownsRow (w.heap.size + 1) 5 1 v'5 ((pre4 ++ putL op) ++ putL a).length (u8s ((pre4 ++ putL op) ++ putL a))) := by
                      show World.ownsRow _ _ _ _ _ _ _
                      simp only [List.length_append, u8s_app, List.append_assoc, Nat.add_assoc] at hownB5 ⊢; exact hownB5
                    have hbB5 : Below (w.heap.size + 1) w1 wB5 := hbA5.grown hgrowB5 (by have := hbA5.size; omega) (fun g hg => (HA5.out.lt g hg).1)
                    have hO5 : Others wB4 wB5 := (Others.below bA5).trans (Others.grown hgrowB5 HA5.out)
                    clear hownB5 hgrowB5 oA5 cellsA5 bA5 HA5 hbA5
                    have hF5' := hO5 _ _ _ _ hF4' (by decide) (by decide)
                    have f35 := (fun_cells hF5').2.2.2
                    have hbwB5 : Below w.heap.size w wB5 := hb01.trans (hbB5.mono (by omega))
                    have d25 := (hbwB5.cell (p := ⟨b', off' + j * 3 + 2, none⟩) hbl').trans Ha2.out
                    go_wp2_with fail
                    refine (rput_any b _ (b1) (b2)).mono ?_
                    rintro e wA6 ⟨uA6, rfl, oA6, bA6⟩
                    have HA6 : Hid (wA6.ownsRow (w.heap.size + 1) 5 1 v'5 (((pre4 ++ putL op) ++ putL a)).length (u8s (((pre4 ++ putL op) ++ putL a)))) := ownsRow_below HrB5.out bA6
                    obtain ⟨gA6, cA6, rfl, cellsA6⟩ := own_form oA6 (putL_pos _)
                    have hbA6 : Below (w.heap.size + 1) w1 wA6 := hbB5.trans (bA6.mono (by have := hbB5.size; omega))
                    go_wp2_with (at_builtin; refine wpList_append_own _ rfl _ _ 47 rfl (w.heap.size + 1) 5 i0 (.int .u8 0) 1 1 Tryd.underlying47 hi hz0 hz1' hz2 rfl (by decide) _ (((pre4 ++ putL op) ++ putL a)).length (u8s (((pre4 ++ putL op) ++ putL a))) rfl HA6.out ⟨gA6, 0, none⟩ (putL b).length cA6 (u8s (putL b)) rfl (by rw [u8s_length, Nat.mul_one]) cellsA6 (u8s_one _) ?m1 ?m2 ?m3 ?_)
                    case m1 => unfold maxLen; have := putL_length b; omega
                    case m2 => have := putL_length b; omega
                    case m3 => have := hbA6.size; omega
                    intro v'6 wB6 hownB6 hgrowB6 _
                    have HrB6 : Hid (wB6.ownsRow (w.heap.size + 1) 5 1 v'6 (((pre4 ++ putL op) ++ putL a) ++ putL b).length (u8s (((pre4 ++ putL op) ++ putL a) ++ putL b))) := by
                      show World.ownsRow _ _ _ _ _ _ _
                      simp only [List.length_append, u8s_app, List.append_assoc, Nat.add_assoc] at hownB6 ⊢; exact hownB6
                    have hbB6 : Below (w.heap.size + 1) w1 wB6 := hbA6.grown hgrowB6 (by have := hbA6.size; omega) (fun g hg => (HA6.out.lt g hg).1)
                    have hO6 : Others wB5 wB6 := (Others.below bA6).trans (Others.grown hgrowB6 HA6.out)
                    clear hownB6 hgrowB6 oA6 cellsA6 bA6 HA6 hbA6
                    have hF6' : Hid (wB6.heap[V2.heap.size]? = some (.cells #[.int .i64 c, .int .i64 l, .int .i64 d, .slice (some ⟨b', off', none⟩) code.length cc] 30 (0, 0))) := hO6 _ _ _ _ hF5' (by decide) (by decide)
                    have Hpre6 : Hid ((((pre4 ++ putL op) ++ putL a) ++ putL b) ++ ((code.drop (j + 1)).flatMap insL ++ (p.funs.drop (k + 1)).flatMap funL) = bodyL p) := by
                      show _ = _
                      rw [← Hpre4.out, Hst4.out]; simp only [insL, List.append_assoc]
                    clear hF4' hF5' f34 f35 d14 d25 d0 f3 hO4 hO5 hO6
                    go_wp2_with fail
                    go_roundw
                    case rel => exact ⟨⟨j + 1, _, by omega, by go_num, HrB6, Hpre6, hF6'⟩, hbB6⟩
                    case measure => simp [intOf]; omega
                  · have Hpre7 : Hid (pre4 ++ (p.funs.drop (k + 1)).flatMap funL = bodyL p) := by
                      show _ = _
                      have := Hpre4.out
                      rw [List.drop_of_length_le (by omega)] at this
                      exact this
                    go_wp2_with fail
                    go_roundw
                    case rel => exact ⟨⟨k + 1, _, by omega, by go_num, Hr4, Hpre7⟩, hbr4⟩
                    case measure => simp [intOf]; omega
          · obtain rfl : pre = bodyL p := by
              have := Hpre.out
              rw [List.drop_of_length_le (by omega)] at this
              simpa using this
            go_wp2_with fail
            refine (rsum_any _ (bodyL p) _ (by omega) (bodyL_bytes p) (own_isRow Hr.out)).mono ?_
            rintro e w6 ⟨rfl, rfl⟩
            obtain ⟨s0, s1⟩ := sumK_lt (bodyL p) (bodyL p).length
            have He : Hid (encL p = bodyL p ++ [sumK (bodyL p) (bodyL p).length / 256, sumK (bodyL p) (bodyL p).length % 256]) := rfl
            generalize sumK (bodyL p) (bodyL p).length = s at *
            have m0 : 0 ≤ s / 256 ∧ s / 256 < 256 := by omega
            have m1 : 0 ≤ s % 256 ∧ s % 256 < 256 := by omega
            go_wp2_with (at_builtin; refine wpList_append_own _ rfl _ _ 47 rfl (w.heap.size + 1) 5 i0 (.int .u8 0) 1 1 Tryd.underlying47 hi hz0 hz1' hz2 rfl (by decide) _ (bodyL p).length (u8s (bodyL p)) rfl (Hr.out.alloc _) ⟨V2.heap.size, 0, none⟩ 2 2 [.int .u8 (s / 256), .int .u8 (s % 256)] rfl rfl ?c1 ?c2 ?c3 ?c4 ?c5 ?_)
            case c1 => exact cells_two V2 _ _ _
            case c2 => intro u hu; simp at hu; rcases hu with rfl | rfl <;> rfl
            case c3 => unfold maxLen; omega
            case c4 => omega
            case c5 => simp; omega
            intro v' w7 hown7 hgrow7 _
            have hb7 : Below (w.heap.size + 1) w1 w7 := (hbr.alloc (by omega) _).grown hgrow7 (by simp; omega) (fun g hg => (Hr.out.lt g hg).1)
            have hown8 : Hid (IsRow w7 v' ((bodyL p) ++ [s / 256, s % 256]).length (u8s ((bodyL p) ++ [s / 256, s % 256]))) := by
              show IsRow _ _ _ _
              have := isRow_owns hown7
              unfold u8s at this ⊢
              rw [List.map_append, List.length_append]; exact this
            have hbz : Below w.heap.size w w7 := hb01.trans (hb7.mono (by omega))
            clear hown7 hgrow7
            go_wp2_with fail
            go_ret
            exact ⟨_, rfl, by rw [He.out]; exact hown8.out, hbz⟩
end Go.Proofs.YtbcbjefonkbjnaaDoor


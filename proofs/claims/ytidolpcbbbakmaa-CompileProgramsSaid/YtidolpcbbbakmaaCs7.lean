/- Valid of flat functions. -/
import Derived.Test.YtidolpcbbbakmaaCs6
namespace Go.Proofs.Ytidolpcbbbakmaa
open Go Go.RowKit

def funB (clo : Int → Int → Bool) (f : FlatD) : Bool := inB f.caps 0 1000 && flatX f.caps clo 1 f.body
set_option maxHeartbeats 2000000 in
set_option maxRecDepth 100000 in
theorem cfun_all (B : Nat) {F : FuncId} {p : Value} {J : World → Prop} {r : Option Nat} {clo : Int → Int → Bool} {ok : Int → Int → Prop} (H : Clo F p J r clo ok) (f : FlatD) (H24 : ∀ cb, F24 F p J r clo ok cb f.caps) (hrB : ∀ k, r = some k → B ≤ k) (w : World) (hBw : B ≤ w.heap.size) (hx : IsExp B w f.body) (hcl : cloX ok f.body) (hJ : J w) (hs : sizeX f.body ≤ 600) (hh : heightX f.body ≤ 211) :
    Calls Try.prog 39 #[flatDV f, .func (.func F) #[] #[p]] w (F24Ok J r (funB clo f) w) := by
  obtain ⟨caps, ⟨op, n, s, lv, l⟩⟩ := f
  show Calls Try.prog _ #[.agg #[.int .i64 caps, .int .i64 op, .int .i64 n, .string s, lv], _] _ _
  have HX := Lib.hid hx
  have hlow := H.low w hJ
  have hb : w.grownBy ((w.alloc (.cells #[.int .i64 caps, .int .i64 op, .int .i64 n, .string s, lv] 38)).alloc (.cells #[.int .i64 caps, .func (.func F) #[] #[p]] 105)) none := both (grown_alloc _ _) (grown_alloc _ _)
  have gP : ((w.alloc (.cells #[.int .i64 caps, .int .i64 op, .int .i64 n, .string s, lv] 38)).alloc (.cells #[.int .i64 caps, .func (.func F) #[] #[p]] 105)).heap[w.heap.size]? = some (.cells #[.int .i64 caps, .int .i64 op, .int .i64 n, .string s, lv] 38 (0, 0)) := (Below.heap_alloc _ _ _ (by simp)).trans (new_heap w _)
  have gC : ((w.alloc (.cells #[.int .i64 caps, .int .i64 op, .int .i64 n, .string s, lv] 38)).alloc (.cells #[.int .i64 caps, .func (.func F) #[] #[p]] 105)).heap[w.heap.size + 1]? = some (.cells #[.int .i64 caps, .func (.func F) #[] #[p]] 105 (0, 0)) := (congrArg _ (by simp)).trans (new_heap (w.alloc _) _)
  have hJ1 := H.kept _ _ hJ hb
  obtain ⟨q0, q1, q2, q3, q4⟩ := five_cells (new_heap w (.cells #[.int .i64 caps, .int .i64 op, .int .i64 n, .string s, lv] 38))
  clear hx
  go_enter Try.func39, Try.ntmps39
  go_upto_region 2 with fail
  clear q0 q1 q2 q3 q4
  generalize ((w.alloc (.cells #[.int .i64 caps, .int .i64 op, .int .i64 n, .string s, lv] 38)).alloc (.cells #[.int .i64 caps, .func (.func F) #[] #[p]] 105)) = W at *
  have HGP := Lib.hid gP
  have HGC := Lib.hid gC
  have HJ1 := Lib.hid hJ1
  obtain ⟨p0, p1, p2, p3, p4⟩ := five_cells gP
  have hxW := HX.out.grown hb hBw (by nofun)
  have HL := Lib.hid (large_any B (.mk op n s lv l) W (by have := hb.size; omega) hxW hs hh)
  rw [expV_mk] at HL
  have HB := Lib.hid hb
  clear gP gC hJ1 hJ
  obtain ⟨bb, hbb⟩ : ∃ bb, inB caps 0 1000 = bb := ⟨_, rfl⟩
  have Hbb := Lib.hid hbb
  go_wp2_with fail
  refine (cwithin_any _ _ _ _).mono ?_
  rintro e w' ⟨rfl, rfl⟩
  rw [hbb]
  clear hbb
  cases bb
  · go_wp2_with fail
    go_ret
    exact ⟨by unfold funB; rw [Hbb.out]; rfl, HJ1.out, free_of HB.out r⟩
  · go_wp2_with fail
    refine HL.out.mono ?_
    rintro e w2 ⟨rfl, hb2⟩
    have hg2 := grown_below hb2
    have hgg := both HB.out hg2
    have gP2 := (hb2.block _ (heap_lt HGP.out)).trans HGP.out
    have gC2 := (hb2.block _ (heap_lt HGC.out)).trans HGC.out
    clear p0 p1 p2 p3 p4
    obtain ⟨p0, p1, p2, p3, p4⟩ := five_cells gP2
    have hin := Hbb.out
    have hcaps : 0 ≤ caps ∧ caps ≤ 1000 := by unfold inB at hin; simpa using hin
    have HM := Lib.hid (flat_any B H (H24 (w.heap.size + 1)) (fun e => by have := hlow _ e; omega) hrB hcaps.1 hcaps.2 (.mk op n s lv l) 1 w2 (by have := hgg.size; omega) (hxW.grown hg2 (by have := HB.out.size; omega) (by nofun)) hcl gC2 (H.kept _ _ HJ1.out hg2) (by omega) (by omega))
    rw [expV_mk] at HM
    have HG2 := Lib.hid hgg
    clear hin hcaps gP2 gC2 hg2 hgg hb2 hxW HL
    go_wp2_with fail
    refine HM.out.mono ?_
    rintro e w3 ⟨rfl, hJ3, hg3⟩
    have HR := Lib.hid (both (free_of HG2.out r) hg3)
    have HJ3 := Lib.hid hJ3
    clear hg3 hJ3 HM
    go_wp2_with fail
    go_ret
    exact ⟨by unfold funB; rw [Hbb.out]; rfl, HJ3.out, HR.out⟩
/-- A closure that the functions hold. -/
def cloV (fl : List FlatD) (n parts : Int) : Bool := inB n 0 ((fl.length : Int) - 1) && decide ((fl.getD n.toNat default).caps = parts)
def JV (B vb : Nat) (fv : Value) (fl : List FlatD) (w : World) : Prop := w.heap[vb]? = some (.cells #[fv] 22 (0, 0)) ∧ IsFlats B w fv fl ∧ B ≤ vb
set_option maxHeartbeats 1000000 in
set_option maxRecDepth 100000 in
theorem valid11_any (B vb : Nat) (fv : Value) (fl : List FlatD) (n parts : Int) (w : World) (h : JV B vb fv fl w) : Calls Try.prog 40 #[.int .i64 n, .int .i64 parts, .pointer (some ⟨vb, 0, none⟩)] w fun e w' => e = .returned (.bool (cloV fl n parts)) ∧ w = w' := by
  obtain ⟨hv, hF, hB⟩ := h
  have HF := Lib.hid hF
  have hm' : fl.length ≤ 9223372036854775807 := by have := hF.2.1; unfold maxLen at this; omega
  obtain ⟨⟨a, c, rfl, hlc, _⟩, _⟩ := hF
  have q0 := (one_cell hv).1
  clear hv
  have hw1 : IntKind.i64.wrap ((fl.length : Int) - 1) = (fl.length : Int) - 1 := wrap_ok _ (by omega) (by omega)
  obtain ⟨bb, hbb⟩ : ∃ bb, inB n 0 ((fl.length : Int) - 1) = bb := ⟨_, rfl⟩
  have Hbb := Lib.hid hbb
  cases bb
  · go_enter Try.func40, Try.ntmps40
    go_wp2_with fail
    refine (cwithin_any _ _ _ _).mono ?_
    rintro e w' ⟨rfl, rfl⟩
    rw [hbb]
    clear hbb
    go_wp2_with fail
    go_ret
    exact ⟨by unfold cloV; rw [Hbb.out]; rfl, rfl⟩
  · obtain ⟨m, rfl⟩ : ∃ m : Nat, n = m := ⟨n.toNat, by unfold inB at hbb; simp at hbb; omega⟩
    have hml : m < fl.length := by unfold inB at hbb; simp at hbb; omega
    obtain ⟨b, off, c', ha, _, _, c0, _⟩ := flats_at HF.out.1 m hml
    obtain rfl := (Value.slice.inj ha).1
    have Hm : Hid ((fl.getD (m : Int).toNat default).caps = (fl.getD m default).caps) := rfl
    clear ha
    generalize (fl.getD m default).caps = x at *
    go_enter Try.func40, Try.ntmps40
    go_wp2_with fail
    refine (cwithin_any _ _ _ _).mono ?_
    rintro e w' ⟨rfl, rfl⟩
    rw [hbb]
    clear hbb
    go_wp2_with fail
    go_ret
    exact ⟨ret_bool (by unfold cloV; rw [Hbb.out, Hm.out, Bool.true_and]; by_cases h : x = parts <;> simp [h]), rfl⟩
theorem cloV_ok (B vb : Nat) (fv : Value) (fl : List FlatD) : Clo 40 (.pointer (some ⟨vb, 0, none⟩)) (JV B vb fv fl) none (cloV fl) (fun _ _ => True) where
  call w n parts h _ := (valid11_any B vb fv fl n parts w h).mono fun e w' hh => ⟨hh.1, hh.2 ▸ h, hh.2 ▸ ⟨rfl, rfl, rfl, Nat.le_refl _, fun _ _ _ => rfl⟩⟩
  kept w w' h hg := by
    obtain ⟨hv, hF, hB⟩ := h
    exact ⟨(hg.block _ (heap_lt hv) (by nofun)).trans hv, hF.under (grown_under hg (by have := heap_lt hv; omega) (by nofun)), hB⟩
  low w h k hk := by cases hk
theorem clo_true : ∀ x : ExpD, cloX (fun _ _ => True) x := by
  intro x
  induction x using ExpD.induct with
  | h op n s lv l ih =>
    unfold cloX
    refine ⟨fun _ => trivial, ?_⟩
    have : ∀ l : List ExpD, (∀ y ∈ l, cloX (fun _ _ => True) y) → cloL (fun _ _ => True) l := fun l => by
      induction l with
      | nil => intro _; unfold cloL; trivial
      | cons x r ih2 => intro h; unfold cloL; exact ⟨h x (List.mem_cons_self ..), ih2 fun y hy => h y (List.mem_cons_of_mem _ hy)⟩
    exact this l ih
theorem f24V (B vb : Nat) (fv : Value) (fl : List FlatD) (cb : Nat) (caps : Int) : F24 40 (.pointer (some ⟨vb, 0, none⟩)) (JV B vb fv fl) none (cloV fl) (fun _ _ => True) cb caps :=
  fun n loc s a k c w hs hC hJ hok hr => form_24V _ _ none (cloV fl) _ (cloV_ok B vb fv fl) cb caps n loc s a k c w hs hC hJ hok hr
set_option maxHeartbeats 1000000 in
set_option maxRecDepth 100000 in
theorem valid1_any (B vb : Nat) (fv : Value) (fl : List FlatD) (f : FlatD) (w : World) (h : JV B vb fv fl w) (hBw : B ≤ w.heap.size) (hx : IsExp B w f.body) (hs : sizeX f.body ≤ 600) (hh : heightX f.body ≤ 211) :
    Calls Try.prog 38 #[flatDV f, .pointer (some ⟨vb, 0, none⟩)] w (F24Ok (JV B vb fv fl) none (!funB (cloV fl) f) w) := by
  obtain ⟨caps, ⟨op, n, s, lv, l⟩⟩ := f
  show Calls Try.prog _ #[.agg #[.int .i64 caps, .int .i64 op, .int .i64 n, .string s, lv], _] _ _
  have hg := grown_alloc w (.cells #[.int .i64 caps, .int .i64 op, .int .i64 n, .string s, lv] 38)
  obtain ⟨q0, q1, q2, q3, q4⟩ := five_cells (new_heap w (.cells #[.int .i64 caps, .int .i64 op, .int .i64 n, .string s, lv] 38))
  have HM := Lib.hid (cfun_all B (cloV_ok B vb fv fl) ⟨caps, .mk op n s lv l⟩ (fun cb => f24V B vb fv fl cb caps) (by nofun) _ (by have := hg.size; omega) (hx.grown hg hBw (by nofun)) (clo_true _) ((cloV_ok B vb fv fl).kept _ _ h hg) hs hh)
  have HG := Lib.hid hg
  rw [show flatDV ⟨caps, .mk op n s lv l⟩ = .agg #[.int .i64 caps, .int .i64 op, .int .i64 n, .string s, lv] from rfl] at HM
  clear h hx hg
  go_enter Try.func38, Try.ntmps38
  go_wp2_with fail
  refine HM.out.mono ?_
  rintro e w2 ⟨rfl, hJ2, hg2⟩
  have HR := Lib.hid (both HG.out hg2)
  have HJ := Lib.hid hJ2
  clear hg2 hJ2
  go_wp2_with fail
  go_ret
  exact ⟨rfl, HJ.out, HR.out⟩
def IdxV (b : Bool) (w : World) (e : Ending) (w' : World) : Prop := ∃ r : Int, e = .returned (.int .i64 r) ∧ decide (0 ≤ r) = b ∧ w.grownBy w' none
set_option maxHeartbeats 2000000 in
set_option maxRecDepth 100000 in
theorem indexV_any (B vb : Nat) (fv : Value) (fl : List FlatD) (w : World) (h : JV B vb fv fl w) (hBw : B ≤ w.heap.size) (hs : ∀ f ∈ fl, sizeX f.body ≤ 600 ∧ heightX f.body ≤ 211) :
    Calls Try.prog 23 #[fv, .func (.func 38) #[] #[.pointer (some ⟨vb, 0, none⟩)]] w (IdxV (fl.any fun f => !funB (cloV fl) f) w) := by
  have HJ0 := Lib.hid h
  have HS := Lib.hid hs
  have hm' : fl.length ≤ 9223372036854775807 := by have := h.2.1.2.1; unfold maxLen at this; omega
  obtain ⟨_, ⟨⟨a, c, rfl, hlc, _⟩, _⟩, _⟩ := h
  clear hs
  go_enter Try.func23, Try.ntmps23
  go_wp2_with fail
  go_loopw [8] (fun i wr => ∃ (k : Nat), k ≤ fl.length ∧ i = .int .i64 k ∧ Hid ((fl.take k).any (fun f => !funB (cloV fl) f) = false) ∧ Hid (w.grownBy wr none)) (fun i _ => fl.length - (intOf i).toNat)
  case atStart => exact ⟨0, Nat.zero_le _, rfl, rfl, ⟨rfl, rfl, rfl, Nat.le_refl _, fun _ _ _ => rfl⟩⟩
  case round =>
    obtain ⟨k, hk, rfl, hno, HG⟩ := hrel
    by_cases hkl : k < fl.length
    · have hJr := (cloV_ok B vb (.slice a fl.length c) fl).kept _ _ HJ0.out HG.out
      obtain ⟨b, off, c', ha, _, hbB, c0, c1, c2, c3, c4⟩ := flats_at hJr.2.1.1 k hkl
      obtain rfl := (Value.slice.inj ha).1
      have hmem := getD_mem default fl k hkl
      have HF := Lib.hid (valid1_any B vb _ fl (fl.getD k default) wr hJr (by have := HG.out.size; omega) (hJr.2.1.2.2 _ hmem) (HS.out _ hmem).1 (HS.out _ hmem).2)
      have Hn := Lib.hid (any_next default fl (fun f => !funB (cloV fl) f) k hkl hno.out)
      have Hy := Lib.hid (any_hit default fl (fun f => !funB (cloV fl) f) k hkl)
      have HJr := Lib.hid hJr
      clear ha hmem hJr
      generalize fl.getD k default = x at *
      obtain ⟨caps, ⟨op, m, s, xv, xl⟩⟩ := x
      simp only [ExpD.op, ExpD.n, ExpD.s, ExpD.lv] at c0 c1 c2 c3 c4
      rw [show flatDV ⟨caps, .mk op m s xv xl⟩ = .agg #[.int .i64 caps, .int .i64 op, .int .i64 m, .string s, xv] from rfl] at HF
      go_wp2_with fail
      refine HF.out.mono ?_
      rintro e w2 ⟨rfl, hJ2, hg2⟩
      have HG2 := Lib.hid (both HG.out hg2)
      obtain ⟨bb, hbb⟩ : ∃ bb, (!funB (cloV fl) ⟨caps, .mk op m s xv xl⟩) = bb := ⟨_, rfl⟩
      have Hbb := Lib.hid hbb
      rw [hbb]
      clear hbb hJ2 hg2 c0 c1 c2 c3 c4
      cases bb
      · have hN := Lib.hid (Hn.out Hbb.out)
        go_wp2_with fail
        go_round
        case rel => exact ⟨k + 1, by omega, by go_num, hN, HG2⟩
        case measure => simp [intOf]; omega
      · go_wp2_with fail
        go_ret
        exact ⟨k, rfl, by rw [Hy.out Hbb.out]; simp, HG2.out⟩
    · go_wp2_with fail
      go_ret
      refine ⟨-1, rfl, ?_, HG.out⟩
      have := hno.out
      rw [List.take_of_length_le (by omega)] at this
      rw [this]; rfl
theorem containsV_any (B vb : Nat) (fv : Value) (fl : List FlatD) (w : World) (h : JV B vb fv fl w) (hBw : B ≤ w.heap.size) (hs : ∀ f ∈ fl, sizeX f.body ≤ 600 ∧ heightX f.body ≤ 211) :
    Calls Try.prog 8 #[fv, .func (.func 38) #[] #[.pointer (some ⟨vb, 0, none⟩)]] w fun e w' => e = .returned (.bool (fl.any fun f => !funB (cloV fl) f)) ∧ w.grownBy w' none := by
  have H := Lib.hid (indexV_any B vb fv fl w h hBw hs)
  obtain ⟨_, ⟨⟨a, c, rfl, hlc, _⟩, _⟩, _⟩ := h
  clear hs
  go_enter Try.func8, Try.ntmps8
  go_wp2_with fail
  refine H.out.mono ?_
  rintro e w' ⟨r, rfl, hr, hb⟩
  have Hr := Lib.hid hr
  clear hr
  go_wp2_with fail
  go_ret
  exact ⟨ret_bool Hr.out, hb⟩
def validF (fl : List FlatD) (main : Int) : Bool := inB (fl.length : Int) 1 4096 && (inB main 0 ((fl.length : Int) - 1) && (decide ((fl.getD main.toNat default).caps = 0) && fl.all fun f => funB (cloV fl) f))
end Go.Proofs.Ytidolpcbbbakmaa

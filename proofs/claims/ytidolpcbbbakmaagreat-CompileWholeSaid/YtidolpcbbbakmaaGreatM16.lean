/- Valid of flat functions. Valid of flat functions, whole. locals: the number of local variables. -/
import Derived.Test.YtidolpcbbbakmaaGreatM15
namespace Go.Proofs.YtidolpcbbbakmaaGreat
open Go Go.RowKit

def funB (clo : Int → Int → Bool) (f : FlatD) : Bool := inB f.caps 0 1000 && flatX f.caps clo 1 f.body
set_option maxHeartbeats 2000000 in
set_option maxRecDepth 100000 in
theorem cfun_all (B : Nat) {F : FuncId} {p : Value} {J : World → Prop} {r : Option Nat} {clo : Int → Int → Bool} {ok : Int → Int → Prop} (H : Clo F p J r clo ok) (f : FlatD) (H24 : ∀ cb, F24 F p J r clo ok cb f.caps) (hrB : ∀ k, r = some k → B ≤ k) (w : World) (hBw : B ≤ w.heap.size) (hx : IsExp B w f.body) (hcl : cloX ok f.body) (hJ : J w) (hs : sizeX f.body ≤ 600) (hh : heightX f.body ≤ 211) :
    Calls Tryz.prog 44 #[flatDV f, .func (.func F) #[] #[p]] w (F24Ok J r (funB clo f) w) := by
  obtain ⟨caps, ⟨op, n, s, lv, l⟩⟩ := f
  show Calls Tryz.prog _ #[.agg #[.int .i64 caps, .int .i64 op, .int .i64 n, .string s, lv], _] _ _
  have HX := Lib.hid hx
  have hlow := H.low w hJ
  have hb : w.grownBy ((w.alloc (.cells #[.int .i64 caps, .int .i64 op, .int .i64 n, .string s, lv] 31)).alloc (.cells #[.int .i64 caps, .func (.func F) #[] #[p]] 122)) none := both (grown_alloc _ _) (grown_alloc _ _)
  have gP : ((w.alloc (.cells #[.int .i64 caps, .int .i64 op, .int .i64 n, .string s, lv] 31)).alloc (.cells #[.int .i64 caps, .func (.func F) #[] #[p]] 122)).heap[w.heap.size]? = some (.cells #[.int .i64 caps, .int .i64 op, .int .i64 n, .string s, lv] 31 (0, 0)) := (Below.heap_alloc _ _ _ (by simp)).trans (new_heap w _)
  have gC : ((w.alloc (.cells #[.int .i64 caps, .int .i64 op, .int .i64 n, .string s, lv] 31)).alloc (.cells #[.int .i64 caps, .func (.func F) #[] #[p]] 122)).heap[w.heap.size + 1]? = some (.cells #[.int .i64 caps, .func (.func F) #[] #[p]] 122 (0, 0)) := (congrArg _ (by simp)).trans (new_heap (w.alloc _) _)
  have hJ1 := H.kept _ _ hJ hb
  obtain ⟨q0, q1, q2, q3, q4⟩ := five_cells (new_heap w (.cells #[.int .i64 caps, .int .i64 op, .int .i64 n, .string s, lv] 31))
  clear hx
  go_enter Tryz.func44, Tryz.ntmps44
  go_upto_region 2 with fail
  clear q0 q1 q2 q3 q4
  generalize ((w.alloc (.cells #[.int .i64 caps, .int .i64 op, .int .i64 n, .string s, lv] 31)).alloc (.cells #[.int .i64 caps, .func (.func F) #[] #[p]] 122)) = W at *
  have HGP := Lib.hid gP
  have HGC := Lib.hid gC
  have HJ1 := Lib.hid hJ1
  obtain ⟨p0, p1, p2, p3, p4⟩ := five_cells gP
  have hxW := HX.out.grown hb hBw (by nofun)
  have HL := Lib.hid (large_any B (.mk op n s lv l) W (by have := hb.size; omega) hxW hs hh)
  rw [expV_mk] at HL
  have HB := Lib.hid hb
  clear gP gC hJ1 hJ
  obtain ⟨bb, hbb⟩ : ∃ bb, inB caps 0 1000 = bb := ⟨_, rfl⟩
  have Hbb := Lib.hid hbb
  go_wp2_with fail
  refine (cwithin_any _ _ _ _).mono ?_
  rintro e w' ⟨rfl, rfl⟩
  rw [hbb]
  clear hbb
  cases bb
  · go_wp2_with fail
    go_ret
    exact ⟨by unfold funB; rw [Hbb.out]; rfl, HJ1.out, free_of HB.out r⟩
  · go_wp2_with fail
    refine HL.out.mono ?_
    rintro e w2 ⟨rfl, hb2⟩
    have hg2 := grown_below hb2
    have hgg := both HB.out hg2
    have gP2 := (hb2.block _ (heap_lt HGP.out)).trans HGP.out
    have gC2 := (hb2.block _ (heap_lt HGC.out)).trans HGC.out
    clear p0 p1 p2 p3 p4
    obtain ⟨p0, p1, p2, p3, p4⟩ := five_cells gP2
    have hin := Hbb.out
    have hcaps : 0 ≤ caps ∧ caps ≤ 1000 := by unfold inB at hin; simpa using hin
    have HM := Lib.hid (flat_any B H (H24 (w.heap.size + 1)) (fun e => by have := hlow _ e; omega) hrB hcaps.1 hcaps.2 (.mk op n s lv l) 1 w2 (by have := hgg.size; omega) (hxW.grown hg2 (by have := HB.out.size; omega) (by nofun)) hcl gC2 (H.kept _ _ HJ1.out hg2) (by omega) (by omega))
    rw [expV_mk] at HM
    have HG2 := Lib.hid hgg
    clear hin hcaps gP2 gC2 hg2 hgg hb2 hxW HL
    go_wp2_with fail
    refine HM.out.mono ?_
    rintro e w3 ⟨rfl, hJ3, hg3⟩
    have HR := Lib.hid (both (free_of HG2.out r) hg3)
    have HJ3 := Lib.hid hJ3
    clear hg3 hJ3 HM
    go_wp2_with fail
    go_ret
    exact ⟨by unfold funB; rw [Hbb.out]; rfl, HJ3.out, HR.out⟩
/-- A closure that the functions hold. -/
def cloV (fl : List FlatD) (n parts : Int) : Bool := inB n 0 ((fl.length : Int) - 1) && decide ((fl.getD n.toNat default).caps = parts)
def JV (B vb : Nat) (fv : Value) (fl : List FlatD) (w : World) : Prop := w.heap[vb]? = some (.cells #[fv] 22 (0, 0)) ∧ IsFlats B w fv fl ∧ B ≤ vb
set_option maxHeartbeats 1000000 in
set_option maxRecDepth 100000 in
theorem valid11_any (B vb : Nat) (fv : Value) (fl : List FlatD) (n parts : Int) (w : World) (h : JV B vb fv fl w) : Calls Tryz.prog 45 #[.int .i64 n, .int .i64 parts, .pointer (some ⟨vb, 0, none⟩)] w fun e w' => e = .returned (.bool (cloV fl n parts)) ∧ w = w' := by
  obtain ⟨hv, hF, hB⟩ := h
  have HF := Lib.hid hF
  have hm' : fl.length ≤ 9223372036854775807 := by have := hF.2.1; unfold maxLen at this; omega
  obtain ⟨⟨a, c, rfl, hlc, _⟩, _⟩ := hF
  have q0 := (one_cell hv).1
  clear hv
  have hw1 : IntKind.i64.wrap ((fl.length : Int) - 1) = (fl.length : Int) - 1 := wrap_ok _ (by omega) (by omega)
  obtain ⟨bb, hbb⟩ : ∃ bb, inB n 0 ((fl.length : Int) - 1) = bb := ⟨_, rfl⟩
  have Hbb := Lib.hid hbb
  cases bb
  · go_enter Tryz.func45, Tryz.ntmps45
    go_wp2_with fail
    refine (cwithin_any _ _ _ _).mono ?_
    rintro e w' ⟨rfl, rfl⟩
    rw [hbb]
    clear hbb
    go_wp2_with fail
    go_ret
    exact ⟨by unfold cloV; rw [Hbb.out]; rfl, rfl⟩
  · obtain ⟨m, rfl⟩ : ∃ m : Nat, n = m := ⟨n.toNat, by unfold inB at hbb; simp at hbb; omega⟩
    have hml : m < fl.length := by unfold inB at hbb; simp at hbb; omega
    obtain ⟨b, off, c', ha, _, _, c0, _⟩ := flats_at HF.out.1 m hml
    obtain rfl := (Value.slice.inj ha).1
    have Hm : Hid ((fl.getD (m : Int).toNat default).caps = (fl.getD m default).caps) := rfl
    clear ha
    generalize (fl.getD m default).caps = x at *
    go_enter Tryz.func45, Tryz.ntmps45
    go_wp2_with fail
    refine (cwithin_any _ _ _ _).mono ?_
    rintro e w' ⟨rfl, rfl⟩
    rw [hbb]
    clear hbb
    go_wp2_with fail
    go_ret
    exact ⟨ret_bool (by unfold cloV; rw [Hbb.out, Hm.out, Bool.true_and]; by_cases h : x = parts <;> simp [h]), rfl⟩
theorem cloV_ok (B vb : Nat) (fv : Value) (fl : List FlatD) : Clo 45 (.pointer (some ⟨vb, 0, none⟩)) (JV B vb fv fl) none (cloV fl) (fun _ _ => True) where
  call w n parts h _ := (valid11_any B vb fv fl n parts w h).mono fun e w' hh => ⟨hh.1, hh.2 ▸ h, hh.2 ▸ ⟨rfl, rfl, rfl, Nat.le_refl _, fun _ _ _ => rfl⟩⟩
  kept w w' h hg := by
    obtain ⟨hv, hF, hB⟩ := h
    exact ⟨(hg.block _ (heap_lt hv) (by nofun)).trans hv, hF.under (grown_under hg (by have := heap_lt hv; omega) (by nofun)), hB⟩
  low w h k hk := by cases hk
theorem clo_true : ∀ x : ExpD, cloX (fun _ _ => True) x := by
  intro x
  induction x using ExpD.induct with
  | h op n s lv l ih =>
    unfold cloX
    refine ⟨fun _ => trivial, ?_⟩
    have : ∀ l : List ExpD, (∀ y ∈ l, cloX (fun _ _ => True) y) → cloL (fun _ _ => True) l := fun l => by
      induction l with
      | nil => intro _; unfold cloL; trivial
      | cons x r ih2 => intro h; unfold cloL; exact ⟨h x (List.mem_cons_self ..), ih2 fun y hy => h y (List.mem_cons_of_mem _ hy)⟩
    exact this l ih
theorem f24V (B vb : Nat) (fv : Value) (fl : List FlatD) (cb : Nat) (caps : Int) : F24 45 (.pointer (some ⟨vb, 0, none⟩)) (JV B vb fv fl) none (cloV fl) (fun _ _ => True) cb caps :=
  fun n loc s a k c w hs hC hJ hok hr => form_24V _ _ none (cloV fl) _ (cloV_ok B vb fv fl) cb caps n loc s a k c w hs hC hJ hok hr
set_option maxHeartbeats 1000000 in
set_option maxRecDepth 100000 in
theorem valid1_any (B vb : Nat) (fv : Value) (fl : List FlatD) (f : FlatD) (w : World) (h : JV B vb fv fl w) (hBw : B ≤ w.heap.size) (hx : IsExp B w f.body) (hs : sizeX f.body ≤ 600) (hh : heightX f.body ≤ 211) :
    Calls Tryz.prog 43 #[flatDV f, .pointer (some ⟨vb, 0, none⟩)] w (F24Ok (JV B vb fv fl) none (!funB (cloV fl) f) w) := by
  obtain ⟨caps, ⟨op, n, s, lv, l⟩⟩ := f
  show Calls Tryz.prog _ #[.agg #[.int .i64 caps, .int .i64 op, .int .i64 n, .string s, lv], _] _ _
  have hg := grown_alloc w (.cells #[.int .i64 caps, .int .i64 op, .int .i64 n, .string s, lv] 31)
  obtain ⟨q0, q1, q2, q3, q4⟩ := five_cells (new_heap w (.cells #[.int .i64 caps, .int .i64 op, .int .i64 n, .string s, lv] 31))
  have HM := Lib.hid (cfun_all B (cloV_ok B vb fv fl) ⟨caps, .mk op n s lv l⟩ (fun cb => f24V B vb fv fl cb caps) (by nofun) _ (by have := hg.size; omega) (hx.grown hg hBw (by nofun)) (clo_true _) ((cloV_ok B vb fv fl).kept _ _ h hg) hs hh)
  have HG := Lib.hid hg
  rw [show flatDV ⟨caps, .mk op n s lv l⟩ = .agg #[.int .i64 caps, .int .i64 op, .int .i64 n, .string s, lv] from rfl] at HM
  clear h hx hg
  go_enter Tryz.func43, Tryz.ntmps43
  go_wp2_with fail
  refine HM.out.mono ?_
  rintro e w2 ⟨rfl, hJ2, hg2⟩
  have HR := Lib.hid (both HG.out hg2)
  have HJ := Lib.hid hJ2
  clear hg2 hJ2
  go_wp2_with fail
  go_ret
  exact ⟨rfl, HJ.out, HR.out⟩
def IdxV (b : Bool) (w : World) (e : Ending) (w' : World) : Prop := ∃ r : Int, e = .returned (.int .i64 r) ∧ decide (0 ≤ r) = b ∧ w.grownBy w' none
set_option maxHeartbeats 2000000 in
set_option maxRecDepth 100000 in
theorem indexV_any (B vb : Nat) (fv : Value) (fl : List FlatD) (w : World) (h : JV B vb fv fl w) (hBw : B ≤ w.heap.size) (hs : ∀ f ∈ fl, sizeX f.body ≤ 600 ∧ heightX f.body ≤ 211) :
    Calls Tryz.prog 20 #[fv, .func (.func 43) #[] #[.pointer (some ⟨vb, 0, none⟩)]] w (IdxV (fl.any fun f => !funB (cloV fl) f) w) := by
  have HJ0 := Lib.hid h
  have HS := Lib.hid hs
  have hm' : fl.length ≤ 9223372036854775807 := by have := h.2.1.2.1; unfold maxLen at this; omega
  obtain ⟨_, ⟨⟨a, c, rfl, hlc, _⟩, _⟩, _⟩ := h
  clear hs
  go_enter Tryz.func20, Tryz.ntmps20
  go_wp2_with fail
  go_loopw [8] (fun i wr => ∃ (k : Nat), k ≤ fl.length ∧ i = .int .i64 k ∧ Hid ((fl.take k).any (fun f => !funB (cloV fl) f) = false) ∧ Hid (w.grownBy wr none)) (fun i _ => fl.length - (intOf i).toNat)
  case atStart => exact ⟨0, Nat.zero_le _, rfl, rfl, ⟨rfl, rfl, rfl, Nat.le_refl _, fun _ _ _ => rfl⟩⟩
  case round =>
    obtain ⟨k, hk, rfl, hno, HG⟩ := hrel
    by_cases hkl : k < fl.length
    · have hJr := (cloV_ok B vb (.slice a fl.length c) fl).kept _ _ HJ0.out HG.out
      obtain ⟨b, off, c', ha, _, hbB, c0, c1, c2, c3, c4⟩ := flats_at hJr.2.1.1 k hkl
      obtain rfl := (Value.slice.inj ha).1
      have hmem := getD_mem default fl k hkl
      have HF := Lib.hid (valid1_any B vb _ fl (fl.getD k default) wr hJr (by have := HG.out.size; omega) (hJr.2.1.2.2 _ hmem) (HS.out _ hmem).1 (HS.out _ hmem).2)
      have Hn := Lib.hid (any_next default fl (fun f => !funB (cloV fl) f) k hkl hno.out)
      have Hy := Lib.hid (any_hit default fl (fun f => !funB (cloV fl) f) k hkl)
      have HJr := Lib.hid hJr
      clear ha hmem hJr
      generalize fl.getD k default = x at *
      obtain ⟨caps, ⟨op, m, s, xv, xl⟩⟩ := x
      simp only [ExpD.op, ExpD.n, ExpD.s, ExpD.lv] at c0 c1 c2 c3 c4
      rw [show flatDV ⟨caps, .mk op m s xv xl⟩ = .agg #[.int .i64 caps, .int .i64 op, .int .i64 m, .string s, xv] from rfl] at HF
      go_wp2_with fail
      refine HF.out.mono ?_
      rintro e w2 ⟨rfl, hJ2, hg2⟩
      have HG2 := Lib.hid (both HG.out hg2)
      obtain ⟨bb, hbb⟩ : ∃ bb, (!funB (cloV fl) ⟨caps, .mk op m s xv xl⟩) = bb := ⟨_, rfl⟩
      have Hbb := Lib.hid hbb
      rw [hbb]
      clear hbb hJ2 hg2 c0 c1 c2 c3 c4
      cases bb
      · have hN := Lib.hid (Hn.out Hbb.out)
        go_wp2_with fail
        go_round
        case rel => exact ⟨k + 1, by omega, by go_num, hN, HG2⟩
        case measure => simp [intOf]; omega
      · go_wp2_with fail
        go_ret
        exact ⟨k, rfl, by rw [Hy.out Hbb.out]; simp, HG2.out⟩
    · go_wp2_with fail
      go_ret
      refine ⟨-1, rfl, ?_, HG.out⟩
      have := hno.out
      rw [List.take_of_length_le (by omega)] at this
      rw [this]; rfl
theorem containsV_any (B vb : Nat) (fv : Value) (fl : List FlatD) (w : World) (h : JV B vb fv fl w) (hBw : B ≤ w.heap.size) (hs : ∀ f ∈ fl, sizeX f.body ≤ 600 ∧ heightX f.body ≤ 211) :
    Calls Tryz.prog 7 #[fv, .func (.func 43) #[] #[.pointer (some ⟨vb, 0, none⟩)]] w fun e w' => e = .returned (.bool (fl.any fun f => !funB (cloV fl) f)) ∧ w.grownBy w' none := by
  have H := Lib.hid (indexV_any B vb fv fl w h hBw hs)
  obtain ⟨_, ⟨⟨a, c, rfl, hlc, _⟩, _⟩, _⟩ := h
  clear hs
  go_enter Tryz.func7, Tryz.ntmps7
  go_wp2_with fail
  refine H.out.mono ?_
  rintro e w' ⟨r, rfl, hr, hb⟩
  have Hr := Lib.hid hr
  clear hr
  go_wp2_with fail
  go_ret
  exact ⟨ret_bool Hr.out, hb⟩
def validF (fl : List FlatD) (main : Int) : Bool := inB (fl.length : Int) 1 4096 && (inB main 0 ((fl.length : Int) - 1) && (decide ((fl.getD main.toNat default).caps = 0) && fl.all fun f => funB (cloV fl) f))

theorem vf_0 {fl : List FlatD} {main : Int} (h : inB (fl.length : Int) 1 4096 = false) : validF fl main = false := by unfold validF; rw [h]; rfl
theorem vf_1 {fl : List FlatD} {main : Int} (h : inB main 0 ((fl.length : Int) - 1) = false) : validF fl main = false := by unfold validF; rw [h]; simp
theorem vf_2 {fl : List FlatD} {main : Int} (h : ¬ (fl.getD main.toNat default).caps = 0) : validF fl main = false := by unfold validF; rw [decide_eq_false h]; simp
theorem vf_3 {fl : List FlatD} {main : Int} (h0 : inB (fl.length : Int) 1 4096 = true) (h1 : inB main 0 ((fl.length : Int) - 1) = true) (h2 : (fl.getD main.toNat default).caps = 0) : validF fl main = !(fl.any fun f => !funB (cloV fl) f) := by
  unfold validF; rw [h0, h1, decide_eq_true h2, all_of]; rfl
def ValidFOk (b : Bool) (w : World) (e : Ending) (w' : World) : Prop := e = .returned (.bool b) ∧ Below w.heap.size w w'
set_option maxHeartbeats 2000000 in
set_option maxRecDepth 100000 in
theorem validF_any (B : Nat) (fv : Value) (fl : List FlatD) (main : Int) (w : World) (hF : IsFlats B w fv fl) (hBw : B ≤ w.heap.size) (hs : ∀ f ∈ fl, sizeX f.body ≤ 600 ∧ heightX f.body ≤ 211) :
    Calls Tryz.prog 22 #[fv, .int .i64 main] w (ValidFOk (validF fl main) w) := by
  have hm' : fl.length ≤ 9223372036854775807 := by have := hF.2.1; unfold maxLen at this; omega
  have hw1 : IntKind.i64.wrap ((fl.length : Int) - 1) = (fl.length : Int) - 1 := wrap_ok _ (by omega) (by omega)
  have hg := grown_alloc w (.cells #[fv] 22)
  have gV := new_heap w (.cells #[fv] 22)
  have hJ : JV B w.heap.size fv fl (w.alloc (.cells #[fv] 22)) := ⟨gV, hF.under (grown_under hg hBw (by nofun)), hBw⟩
  have HC := Lib.hid (containsV_any B w.heap.size fv fl _ hJ (by have := hg.size; omega) hs)
  have HG := Lib.hid hg
  have HF := Lib.hid hJ.2.1
  obtain ⟨⟨a, c, rfl, hlc, _⟩, _⟩ := hF
  have q0 := (one_cell gV).1
  clear hJ hg gV hs
  obtain ⟨b0, hb0⟩ : ∃ bb, inB (fl.length : Int) 1 4096 = bb := ⟨_, rfl⟩
  have Hb0 := Lib.hid hb0
  obtain ⟨b1, hb1⟩ : ∃ bb, inB main 0 ((fl.length : Int) - 1) = bb := ⟨_, rfl⟩
  have Hb1 := Lib.hid hb1
  clear hb0 hb1
  cases b0
  · go_enter Tryz.func22, Tryz.ntmps22
    go_wp2_with fail
    refine (cwithin_any _ _ _ _).mono ?_
    rintro e w' ⟨rfl, rfl⟩
    rw [Hb0.out]
    go_wp2_with fail
    go_ret
    exact ⟨by rw [vf_0 Hb0.out]; rfl, grown_under HG.out (Nat.le_refl _) (by nofun)⟩
  · cases b1
    · go_enter Tryz.func22, Tryz.ntmps22
      go_wp2_with fail
      refine (cwithin_any _ _ _ _).mono ?_
      rintro e w' ⟨rfl, rfl⟩
      rw [Hb0.out]
      go_wp2_with fail
      refine (cwithin_any _ _ _ _).mono ?_
      rintro e w' ⟨rfl, rfl⟩
      rw [Hb1.out]
      go_wp2_with fail
      go_ret
      exact ⟨by rw [vf_1 Hb1.out]; rfl, grown_under HG.out (Nat.le_refl _) (by nofun)⟩
    · obtain ⟨m, rfl⟩ : ∃ m : Nat, main = m := ⟨main.toNat, by have := Hb1.out; unfold inB at this; simp at this; omega⟩
      have hml : m < fl.length := by have := Hb1.out; unfold inB at this; simp at this; omega
      obtain ⟨b, off, c', ha, _, _, c0, _⟩ := flats_at HF.out.1 m hml
      obtain rfl := (Value.slice.inj ha).1
      have H2 := Lib.hid (vf_2 (fl := fl) (main := (m : Int)))
      have H3 := Lib.hid (vf_3 (fl := fl) (main := (m : Int)) Hb0.out Hb1.out)
      rw [Int.toNat_natCast] at H2 H3
      clear ha
      generalize (fl.getD m default).caps = x at *
      by_cases hx : x = 0
      · subst hx
        have H3' := Lib.hid (H3.out rfl)
        go_enter Tryz.func22, Tryz.ntmps22
        go_wp2_with fail
        refine (cwithin_any _ _ _ _).mono ?_
        rintro e w' ⟨rfl, rfl⟩
        rw [Hb0.out]
        go_wp2_with fail
        refine (cwithin_any _ _ _ _).mono ?_
        rintro e w' ⟨rfl, rfl⟩
        rw [Hb1.out]
        go_wp2_with fail
        refine HC.out.mono ?_
        rintro e w2 ⟨rfl, hg2⟩
        have HR := Lib.hid (both HG.out hg2)
        clear hg2
        go_wp2_with fail
        go_ret
        exact ⟨by rw [H3'.out]; rfl, grown_under HR.out (Nat.le_refl _) (by nofun)⟩
      · have hx2 : (x == 0) = false := beq_eq_false_iff_ne.2 hx
        have H2' := Lib.hid (H2.out hx)
        go_enter Tryz.func22, Tryz.ntmps22
        go_wp2_with fail
        refine (cwithin_any _ _ _ _).mono ?_
        rintro e w' ⟨rfl, rfl⟩
        rw [Hb0.out]
        go_wp2_with fail
        refine (cwithin_any _ _ _ _).mono ?_
        rintro e w' ⟨rfl, rfl⟩
        rw [Hb1.out]
        go_wp2_with fail
        go_ret
        exact ⟨by rw [H2'.out]; rfl, grown_under HG.out (Nat.le_refl _) (by nofun)⟩

theorem locX_mk (loc op n : Int) (s : ByteArray) (v : Value) (l : List ExpD) : locX loc (.mk op n s v l) = locL loc loc (loc + bump op) l := by rw [locX]
theorem locL_cons (m a b : Int) (x : ExpD) (r : List ExpD) : locL m a b (x :: r) = locL (max m (locX a x)) b b r := by rw [locL]
theorem locL_nil (m a b : Int) : locL m a b [] = m := by rw [locL]
theorem locL_snoc (x : ExpD) : ∀ (l : List ExpD) (m a b : Int), locL m a b (l ++ [x]) = max (locL m a b l) (locX (if l.length = 0 then a else b) x)
  | [], m, a, b => by rw [List.nil_append, locL_cons, locL_nil, locL_nil]; rfl
  | y :: r, m, a, b => by
    rw [List.cons_append, locL_cons, locL_cons, locL_snoc x r]
    congr 2
    rw [if_neg (show ¬ (y :: r).length = 0 by simp)]
    split <;> rfl
theorem loc_take (op loc : Int) (l : List ExpD) (k : Nat) (hk : k < l.length) : locL loc loc (loc + bump op) (l.take (k + 1)) = max (locL loc loc (loc + bump op) (l.take k)) (locX (lo op loc k) (l.getD k default)) := by
  rw [take_one default l k hk, locL_snoc]
  congr 2
  unfold lo
  rw [List.length_take]
  by_cases h : 0 < k
  · rw [if_neg (by omega), if_pos h]
  · rw [if_pos (by omega), if_neg h]
theorem locL_le {M : Int} : ∀ (l : List ExpD) (m a b : Int), m ≤ M → (∀ y ∈ l, locX a y ≤ M ∧ locX b y ≤ M) → locL m a b l ≤ M
  | [], m, a, b, h, _ => by rw [locL_nil]; exact h
  | x :: r, m, a, b, h, hy => by
    rw [locL_cons]
    refine locL_le r _ _ _ (by have := (hy x (List.mem_cons_self ..)).1; omega) fun y h2 => ?_
    have := (hy y (List.mem_cons_of_mem _ h2)).2
    exact ⟨this, this⟩
theorem locL_ge : ∀ (l : List ExpD) (m a b : Int), m ≤ locL m a b l
  | [], m, a, b => by rw [locL_nil]; omega
  | x :: r, m, a, b => by rw [locL_cons]; have := locL_ge r (max m (locX a x)) b b; omega
theorem bump_le (op : Int) : 0 ≤ bump op ∧ bump op ≤ 1 := by unfold bump; split <;> omega
theorem loc_le (x : ExpD) : ∀ loc, locX loc x ≤ loc + heightX x := by
  induction x using ExpD.induct with
  | h op n s lv l ih =>
    intro loc
    rw [locX_mk, heightX_mk]
    have hb := bump_le op
    refine locL_le l _ _ _ (by omega) fun y hy => ?_
    have h1 := ih y hy loc
    have h2 := ih y hy (loc + bump op)
    have h3 := heightL_mem hy
    omega
theorem loc_ge (x : ExpD) (loc : Int) : loc ≤ locX loc x := by
  obtain ⟨op, n, s, lv, l⟩ := x
  rw [locX_mk]; exact locL_ge _ _ _ _
def LocOk (loc : Int) (x : ExpD) (w : World) (e : Ending) (w' : World) : Prop := e = .returned (.int .i64 (locX loc x)) ∧ Below w.heap.size w w'
set_option maxHeartbeats 4000000 in
set_option maxRecDepth 100000 in
theorem clocals_any (B : Nat) (x : ExpD) : ∀ (loc : Int) (w : World), B ≤ w.heap.size → IsExp B w x → 0 ≤ loc → loc + heightX x ≤ 1000000 →
    Calls Tryz.prog 57 #[expV x, .int .i64 loc] w (LocOk loc x w) := by
  induction x using ExpD.induct with
  | h op n s lv l ih =>
    intro loc w hBw hx hl0 hl1
    rw [expV_mk]
    have HIH := Lib.hid ih
    obtain ⟨hr, hm, hy⟩ := hx.parts
    have HY := Lib.hid hy
    have HR := Lib.hid hr
    have hm' : l.length ≤ 9223372036854775807 := by unfold maxLen at hm; omega
    have HLE := Lib.hid (fun (k : Nat) => show loc ≤ locL loc loc (loc + bump op) (l.take k) ∧ locL loc loc (loc + bump op) (l.take k) ≤ 1000000 from ⟨locL_ge _ _ _ _, locL_le _ _ _ _ (by omega) fun y hy => by
      have hy2 := List.mem_of_mem_take hy
      have h1 := loc_le y loc
      have h2 := loc_le y (loc + bump op)
      have h3 := heightL_mem hy2
      have hb := bump_le op
      rw [heightX_mk] at hl1
      omega⟩)
    rw [heightX_mk] at hl1
    obtain ⟨a, c, rfl, hlc, _⟩ := hr
    have hb1 := box_exp op n s (.slice a l.length c) w
    have gP := new_heap w (.cells #[.int .i64 op, .int .i64 n, .string s, .slice a l.length c] 29)
    obtain ⟨p0, p1, p2, p3⟩ := exp_box gP
    have HGP := Lib.hid gP
    clear ih hx hy gP hm
    go_enter Tryz.func57, Tryz.ntmps57
    go_wp2_with fail
    generalize w.alloc (.cells #[.int .i64 op, .int .i64 n, .string s, .slice a l.length c] 29) = W at *
    go_loopw [5, 12] (fun m i wr => ∃ (k : Nat) (ms : Int), k ≤ l.length ∧ i = .int .i64 k ∧ m = .int .i64 ms ∧ Hid (ms = locL loc loc (loc + bump op) (l.take k)) ∧ Below w.heap.size w wr ∧ Below W.heap.size W wr) (fun _ i _ => l.length - (intOf i).toNat)
    case atStart => exact ⟨0, loc, Nat.zero_le _, rfl, rfl, show loc = locL loc loc (loc + bump op) (l.take 0) from by rw [List.take_zero, locL_nil], hb1, Below.refl _ _⟩
    case round =>
      obtain ⟨k, ms, hk, rfl, rfl, HS, hbr, hbW⟩ := hrel
      have hms : loc ≤ ms ∧ ms ≤ 1000000 := by have := HLE.out k; have := HS.out; omega
      have gPr := (hbW.block _ (heap_lt HGP.out)).trans HGP.out
      obtain ⟨p0, p1, p2, p3⟩ := exp_box gPr
      by_cases hkl : k < l.length
      · obtain ⟨b, off, rfl, hbB, c0, c1, c2, c3⟩ := parts_at HR.out (hbr.mono hBw) k hkl
        have hmem := getD_mem default l k hkl
        have hhm := heightL_mem hmem
        have HT := Lib.hid (loc_take op loc l k hkl)
        have hyk := HY.out _ hmem
        have hih := HIH.out _ hmem
        clear hmem p0 p1 p2 p3
        generalize l.getD k default = x at *
        obtain ⟨xo, xn, xs, xv, xl⟩ := x
        obtain ⟨xa, xc, rfl, _⟩ := hyk.parts.1
        simp only [ExpD.op, ExpD.n, ExpD.s, ExpD.lv] at c0 c1 c2 c3
        have hb3 := box_exp xo xn xs (.slice xa xl.length xc) wr
        have gX := new_heap wr (.cells #[.int .i64 xo, .int .i64 xn, .string xs, .slice xa xl.length xc] 29)
        have gP3 := (hb3.block _ (heap_lt gPr)).trans gPr
        obtain ⟨e0, e1, e2, e3⟩ := exp_box gX
        obtain ⟨p0, p1, p2, p3⟩ := exp_box gP3
        have hbx := hbr.trans (hb3.mono hbr.size)
        have hbx2 := hbW.trans (hb3.mono hbW.size)
        have HM := Lib.hid (fun (lc : Int) (h0 : 0 ≤ lc) (h1 : lc + heightX (.mk xo xn xs (.slice xa xl.length xc) xl) ≤ 1000000) => hih lc _ (by have := hbx.size; omega) (hyk.under (hbx.mono hBw)) h0 h1)
        rw [expV_mk] at HM
        have hlw : lo op loc k = loc ∨ lo op loc k = loc + 1 := by unfold lo bump; split <;> (try split) <;> omega
        have hxge := loc_ge (.mk xo xn xs (.slice xa xl.length xc) xl) (lo op loc k)
        have hxle := loc_le (.mk xo xn xs (.slice xa xl.length xc) xl) (lo op loc k)
        clear hih hyk gX hb3 gPr gP3
        go_wp2_with fail
        refine (cbinds_any _ _ _).mono ?_
        rintro e w' ⟨rfl, rfl⟩
        obtain ⟨bk, hbk⟩ : ∃ bk, bindB op k = bk := ⟨_, rfl⟩
        have Hbk := Lib.hid hbk
        rw [hbk]
        clear hbk
        cases bk
        · have HM2 := Lib.hid (HM.out loc hl0 (by omega))
          have hlo := lo_f (loc := loc) Hbk.out
          rw [hlo] at HT hxge hxle
          clear hlo HM
          go_wp2_with fail
          refine HM2.out.mono ?_
          rintro e w3 ⟨rfl, hb4⟩
          have hbe := hbx.trans (hb4.mono hbx.size)
          have hbe2 := hbx2.trans (hb4.mono hbx2.size)
          generalize locX loc (.mk xo xn xs (.slice xa xl.length xc) xl) = lx at *
          have HS2 : Hid (max ms lx = locL loc loc (loc + bump op) (l.take (k + 1))) := by rw [HT.out, HS.out]; rfl
          clear hb4 e0 e1 e2 e3 c0 c1 c2 c3 p0 p1 p2 p3 HM2 hbx hbx2
          by_cases hmx : ms < lx
          · have hmm : max ms lx = lx := by omega
            go_wp2_with fail
            go_round
            case rel => exact ⟨k + 1, lx, by omega, by go_num, rfl, by rw [← hmm]; exact HS2.out, hbe, hbe2⟩
            case measure => simp [intOf]; omega
          · have hmm : max ms lx = ms := by omega
            go_wp2_with fail
            go_round
            case rel => exact ⟨k + 1, ms, by omega, by go_num, rfl, by rw [← hmm]; exact HS2.out, hbe, hbe2⟩
            case measure => simp [intOf]; omega
        · have HM2 := Lib.hid (HM.out (loc + 1) (by omega) (by omega))
          have hlo := lo_t (loc := loc) Hbk.out
          rw [hlo] at HT hxge hxle
          clear hlo HM
          go_wp2_with fail
          refine HM2.out.mono ?_
          rintro e w3 ⟨rfl, hb4⟩
          have hbe := hbx.trans (hb4.mono hbx.size)
          have hbe2 := hbx2.trans (hb4.mono hbx2.size)
          generalize locX (loc + 1) (.mk xo xn xs (.slice xa xl.length xc) xl) = lx at *
          have HS2 : Hid (max ms lx = locL loc loc (loc + bump op) (l.take (k + 1))) := by rw [HT.out, HS.out]; rfl
          clear hb4 e0 e1 e2 e3 c0 c1 c2 c3 p0 p1 p2 p3 HM2 hbx hbx2
          by_cases hmx : ms < lx
          · have hmm : max ms lx = lx := by omega
            go_wp2_with fail
            go_round
            case rel => exact ⟨k + 1, lx, by omega, by go_num, rfl, by rw [← hmm]; exact HS2.out, hbe, hbe2⟩
            case measure => simp [intOf]; omega
          · have hmm : max ms lx = ms := by omega
            go_wp2_with fail
            go_round
            case rel => exact ⟨k + 1, ms, by omega, by go_num, rfl, by rw [← hmm]; exact HS2.out, hbe, hbe2⟩
            case measure => simp [intOf]; omega
      · have HE : Hid (ms = locL loc loc (loc + bump op) l) := by have := HS.out; rw [List.take_of_length_le (by omega)] at this; exact this
        go_wp2_with fail
        go_ret
        exact ⟨by rw [locX_mk, ← HE.out]; rfl, hbr⟩
end Go.Proofs.YtidolpcbbbakmaaGreat

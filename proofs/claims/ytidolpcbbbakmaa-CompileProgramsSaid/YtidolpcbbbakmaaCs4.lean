/- measure, large: how great an expression is. -/
import Derived.Test.YtidolpcbbbakmaaCs3
namespace Go.Proofs.Ytidolpcbbbakmaa
open Go Go.RowKit

theorem exp_box {op n : Int} {s : ByteArray} {v : Value} {w : World} {q : Nat} (h : w.heap[q]? = some (.cells #[.int .i64 op, .int .i64 n, .string s, v] 36 (0, 0))) : w.cell? ⟨q, 0, none⟩ = some (.int .i64 op) ∧ w.cell? ⟨q, 1, none⟩ = some (.int .i64 n) ∧ w.cell? ⟨q, 2, none⟩ = some (.string s) ∧ w.cell? ⟨q, 3, none⟩ = some v := box_cells h
/-- The parts at hand in a later world. -/
theorem parts_at {B : Nat} {w wr : World} {a : Option Addr} {c : Nat} {l : List ExpD} (hR : RowB B w (.slice a l.length c) l.length (expCells l)) (hb : Below B w wr) (k : Nat) (hk : k < l.length) :
    ∃ b off, a = some ⟨b, off, none⟩ ∧ b < B ∧ wr.cell? ⟨b, off + k * 4, none⟩ = some (.int .i64 (l.getD k default).op) ∧ wr.cell? ⟨b, off + k * 4 + 1, none⟩ = some (.int .i64 (l.getD k default).n) ∧ wr.cell? ⟨b, off + k * 4 + 2, none⟩ = some (.string (l.getD k default).s) ∧ wr.cell? ⟨b, off + k * 4 + 3, none⟩ = some (l.getD k default).lv := by
  obtain ⟨b, off, c', ha, _, hbB, c0, c1, c2, c3⟩ := exps_at (hR.kept hb.block) k hk
  exact ⟨b, off, (Value.slice.inj ha).1, hbB, c0, c1, c2, c3⟩
def MeasOk (x : ExpD) (w : World) (e : Ending) (w' : World) : Prop := e = .returned (.tuple #[.int .i64 (sizeX x), .int .i64 (heightX x)]) ∧ Below w.heap.size w w'
def MeasAll (B : Nat) (x : ExpD) : Prop := ∀ w, B ≤ w.heap.size → IsExp B w x → sizeX x ≤ 1000000 → Calls Try.prog 76 #[expV x] w (MeasOk x w)
theorem sizeL_mem {l : List ExpD} {y : ExpD} (h : y ∈ l) : sizeX y ≤ sizeL l := by
  induction l with
  | nil => cases h
  | cons x r ih =>
    rw [sizeL_cons]
    rcases List.mem_cons.1 h with rfl | h
    · omega
    · have := ih h; omega
theorem height_le (x : ExpD) : heightX x ≤ sizeX x := by
  induction x using ExpD.induct with
  | h op n s lv l ih =>
    rw [heightX_mk, sizeX_mk]
    have : ∀ l : List ExpD, (∀ y ∈ l, heightX y ≤ sizeX y) → heightL l ≤ sizeL l := fun l => by
      induction l with
      | nil => intro _; rw [heightL_nil, sizeL_nil]; omega
      | cons x r ih2 => intro h; rw [heightL_cons, sizeL_cons]; have := h x (List.mem_cons_self ..); have := ih2 fun y hy => h y (List.mem_cons_of_mem _ hy); omega
    have := this l ih; omega
theorem heightL_le (l : List ExpD) : heightL l ≤ sizeL l := by
  have := height_le (.mk 0 0 ⟨#[]⟩ undef l); rw [heightX_mk, sizeX_mk] at this; omega
theorem sizeL_take (l : List ExpD) (k : Nat) : sizeL (l.take k) ≤ sizeL l := by
  have : ∀ a b : List ExpD, sizeL (a ++ b) = sizeL a + sizeL b := fun a b => by
    induction a with
    | nil => rw [List.nil_append, sizeL_nil]; omega
    | cons x r ih => rw [List.cons_append, sizeL_cons, sizeL_cons, ih]; omega
  conv => rhs; rw [← List.take_append_drop k l, this]
  omega
theorem length_le (l : List ExpD) : l.length ≤ sizeL l := by
  induction l with
  | nil => simp
  | cons x r ih => rw [sizeL_cons, List.length_cons]; have := sizeX_pos x; omega
set_option maxHeartbeats 2000000 in
set_option maxRecDepth 100000 in
theorem measure_any (B : Nat) (x : ExpD) : MeasAll B x := by
  induction x using ExpD.induct with
  | h op n s lv l ih =>
    intro w hBw hx hsz
    rw [expV_mk]
    have HIH := Lib.hid ih
    obtain ⟨hr, _, hy⟩ := hx.parts
    rw [sizeX_mk] at hsz
    have hll := length_le l
    have HY := Lib.hid hy
    have HR := Lib.hid hr
    obtain ⟨a, c, rfl, hlc, _⟩ := hr
    have hb1 := box_exp op n s (.slice a l.length c) w
    have gP := new_heap w (.cells #[.int .i64 op, .int .i64 n, .string s, .slice a l.length c] 36)
    obtain ⟨p0, p1, p2, p3⟩ := exp_box gP
    clear ih hx hy gP
    go_enter Try.func76, Try.ntmps76
    go_wp2_with fail
    generalize w.alloc (.cells #[.int .i64 op, .int .i64 n, .string s, .slice a l.length c] 36) = W at *
    go_loopw [2, 3, 11] (fun m h i wr => ∃ (k : Nat) (ms hs : Nat), k ≤ l.length ∧ i = .int .i64 k ∧ m = .int .i64 ms ∧ h = .int .i64 hs ∧ Hid (ms = sizeL (l.take k) ∧ hs = heightL (l.take k)) ∧ Below w.heap.size w wr) (fun _ _ i _ => l.length - (intOf i).toNat)
    case atStart => exact ⟨0, 0, 0, Nat.zero_le _, rfl, rfl, rfl, ⟨by rw [List.take_zero, sizeL_nil], by rw [List.take_zero, heightL_nil]⟩, hb1⟩
    case round =>
      obtain ⟨k, ms, hs, hk, rfl, rfl, rfl, HS, hbr⟩ := hrel
      have hms : ms ≤ 1000000 := by have := HS.out.1; have := sizeL_take l k; omega
      have hhs : hs ≤ 1000000 := by have h1 := HS.out.2; have h2 := sizeL_take l k; have h3 := heightL_le (l.take k); omega
      by_cases hkl : k < l.length
      · obtain ⟨b, off, rfl, hbB, c0, c1, c2, c3⟩ := parts_at HR.out (hbr.mono hBw) k hkl
        have hmem := getD_mem default l k hkl
        have hsy := sizeL_mem hmem
        have hT := take_one default l k hkl
        have HT : Hid (sizeL (l.take (k + 1)) = sizeL (l.take k) + sizeX (l.getD k default) ∧ heightL (l.take (k + 1)) = max (heightL (l.take k)) (heightX (l.getD k default))) := ⟨by rw [hT, sizeL_snoc], by rw [hT, heightL_snoc]⟩
        have hyk := HY.out _ hmem
        have hih := HIH.out _ hmem
        have hT2 := sizeL_take l (k + 1)
        clear hT hmem
        generalize l.getD k default = x at *
        obtain ⟨xo, xn, xs, xv, xl⟩ := x
        obtain ⟨xa, xc, rfl, _⟩ := hyk.parts.1
        simp only [ExpD.op, ExpD.n, ExpD.s, ExpD.lv] at c0 c1 c2 c3
        have hb3 := box_exp xo xn xs (.slice xa xl.length xc) wr
        have gX := new_heap wr (.cells #[.int .i64 xo, .int .i64 xn, .string xs, .slice xa xl.length xc] 36)
        obtain ⟨e0, e1, e2, e3⟩ := exp_box gX
        have hbx := hbr.trans (hb3.mono hbr.size)
        have HM := Lib.hid (hih _ (by have := hbx.size; omega) (hyk.under (hbx.mono hBw)) (by omega))
        rw [expV_mk] at HM
        have hht := height_le (.mk xo xn xs (.slice xa xl.length xc) xl)
        have hms2 := HT.out.1
        have hms3 := HS.out.1
        clear hih hyk gX hb3
        go_wp2_with fail
        refine HM.out.mono ?_
        rintro e w2 ⟨rfl, hb4⟩
        have hbe := hbx.trans (hb4.mono hbx.size)
        generalize hsx : sizeX (.mk xo xn xs (.slice xa xl.length xc) xl) = sx at *
        generalize hhx : heightX (.mk xo xn xs (.slice xa xl.length xc) xl) = hx at *
        have HS2 : Hid (ms + sx = sizeL (l.take (k + 1)) ∧ max hs hx = heightL (l.take (k + 1))) := ⟨by omega, by rw [HT.out.2, HS.out.2]⟩
        clear hb4 e0 e1 e2 e3 c0 c1 c2 c3 HM
        by_cases hmx : (hs : Int) < (hx : Int)
        · have hmm : max hs hx = hx := by omega
          go_wp2_with fail
          go_round
          case rel => exact ⟨k + 1, ms + sx, hx, by omega, by go_num, by go_num, rfl, ⟨HS2.out.1, by rw [← hmm]; exact HS2.out.2⟩, hbe⟩
          case measure => simp [intOf]; omega
        · have hmm : max hs hx = hs := by omega
          go_wp2_with fail
          go_round
          case rel => exact ⟨k + 1, ms + sx, hs, by omega, by go_num, by go_num, rfl, ⟨HS2.out.1, by rw [← hmm]; exact HS2.out.2⟩, hbe⟩
          case measure => simp [intOf]; omega
      · go_wp2_with fail
        go_ret2
        obtain ⟨s1, s2⟩ := HS.out
        rw [List.take_of_length_le (by omega)] at s1 s2
        refine ⟨?_, hbr⟩
        rw [sizeX_mk, heightX_mk, ← s1, ← s2]
        push_cast
        rfl
set_option maxHeartbeats 1000000 in
set_option maxRecDepth 100000 in
theorem large_any (B : Nat) (x : ExpD) (w : World) (hBw : B ≤ w.heap.size) (hx : IsExp B w x) (hs : sizeX x ≤ 600) (hh : heightX x ≤ 211) : Calls Try.prog 63 #[expV x] w (FormOk false w) := by
  obtain ⟨op, n, s, lv, l⟩ := x
  rw [expV_mk]
  have hb1 := box_exp op n s lv w
  have gP := new_heap w (.cells #[.int .i64 op, .int .i64 n, .string s, lv] 36)
  obtain ⟨p0, p1, p2, p3⟩ := exp_box gP
  have HM := Lib.hid (measure_any B _ _ (by have := hb1.size; omega) (hx.under (hb1.mono hBw)) (by omega))
  rw [expV_mk] at HM
  clear gP hx
  go_enter Try.func63, Try.ntmps63
  go_wp2_with fail
  refine HM.out.mono ?_
  rintro e w2 ⟨rfl, hb2⟩
  generalize sizeX (.mk op n s lv l) = sx at *
  generalize heightX (.mk op n s lv l) = hx at *
  have hs' : ¬ (20000 : Int) < (sx : Int) := by omega
  have hh' : ¬ (400 : Int) < (hx : Int) := by omega
  have hbe := hb1.trans (hb2.mono hb1.size)
  clear hb1 hb2 HM
  go_wp2_with fail
  go_ret
  refine ⟨ret_bool (a := decide ((20000 : Int) < (sx : Int)) || decide ((400 : Int) < (hx : Int))) ?_, hbe⟩
  rw [decide_eq_false (by omega), decide_eq_false (by omega)]; rfl
end Go.Proofs.Ytidolpcbbbakmaa

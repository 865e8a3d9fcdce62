/- measure, large: how great an expression is. form at a closure: with the look of Valid, and with that of Locals (printed by gen_f24.py). flat: the look at all nodes. -/
import Derived.Test.YtidolpcbbbakmaaGreatM14
namespace Go.Proofs.YtidolpcbbbakmaaGreat
open Go Go.RowKit

theorem exp_box {op n : Int} {s : ByteArray} {v : Value} {w : World} {q : Nat} (h : w.heap[q]? = some (.cells #[.int .i64 op, .int .i64 n, .string s, v] 29 (0, 0))) : w.cell? ⟨q, 0, none⟩ = some (.int .i64 op) ∧ w.cell? ⟨q, 1, none⟩ = some (.int .i64 n) ∧ w.cell? ⟨q, 2, none⟩ = some (.string s) ∧ w.cell? ⟨q, 3, none⟩ = some v := box_cells h
/-- The parts at hand in a later world. -/
theorem parts_at {B : Nat} {w wr : World} {a : Option Addr} {c : Nat} {l : List ExpD} (hR : RowB B w (.slice a l.length c) l.length (expCells l)) (hb : Below B w wr) (k : Nat) (hk : k < l.length) :
    ∃ b off, a = some ⟨b, off, none⟩ ∧ b < B ∧ wr.cell? ⟨b, off + k * 4, none⟩ = some (.int .i64 (l.getD k default).op) ∧ wr.cell? ⟨b, off + k * 4 + 1, none⟩ = some (.int .i64 (l.getD k default).n) ∧ wr.cell? ⟨b, off + k * 4 + 2, none⟩ = some (.string (l.getD k default).s) ∧ wr.cell? ⟨b, off + k * 4 + 3, none⟩ = some (l.getD k default).lv := by
  obtain ⟨b, off, c', ha, _, hbB, c0, c1, c2, c3⟩ := exps_at (hR.kept hb.block) k hk
  exact ⟨b, off, (Value.slice.inj ha).1, hbB, c0, c1, c2, c3⟩
def MeasOk (x : ExpD) (w : World) (e : Ending) (w' : World) : Prop := e = .returned (.tuple #[.int .i64 (sizeX x), .int .i64 (heightX x)]) ∧ Below w.heap.size w w'
def MeasAll (B : Nat) (x : ExpD) : Prop := ∀ w, B ≤ w.heap.size → IsExp B w x → sizeX x ≤ 1000000 → Calls Tryz.prog 86 #[expV x] w (MeasOk x w)
theorem sizeL_mem {l : List ExpD} {y : ExpD} (h : y ∈ l) : sizeX y ≤ sizeL l := by
  induction l with
  | nil => cases h
  | cons x r ih =>
    rw [sizeL_cons]
    rcases List.mem_cons.1 h with rfl | h
    · omega
    · have := ih h; omega
theorem height_le (x : ExpD) : heightX x ≤ sizeX x := by
  induction x using ExpD.induct with
  | h op n s lv l ih =>
    rw [heightX_mk, sizeX_mk]
    have : ∀ l : List ExpD, (∀ y ∈ l, heightX y ≤ sizeX y) → heightL l ≤ sizeL l := fun l => by
      induction l with
      | nil => intro _; rw [heightL_nil, sizeL_nil]; omega
      | cons x r ih2 => intro h; rw [heightL_cons, sizeL_cons]; have := h x (List.mem_cons_self ..); have := ih2 fun y hy => h y (List.mem_cons_of_mem _ hy); omega
    have := this l ih; omega
theorem heightL_le (l : List ExpD) : heightL l ≤ sizeL l := by
  have := height_le (.mk 0 0 ⟨#[]⟩ undef l); rw [heightX_mk, sizeX_mk] at this; omega
theorem sizeL_take (l : List ExpD) (k : Nat) : sizeL (l.take k) ≤ sizeL l := by
  have : ∀ a b : List ExpD, sizeL (a ++ b) = sizeL a + sizeL b := fun a b => by
    induction a with
    | nil => rw [List.nil_append, sizeL_nil]; omega
    | cons x r ih => rw [List.cons_append, sizeL_cons, sizeL_cons, ih]; omega
  conv => rhs; rw [← List.take_append_drop k l, this]
  omega
theorem length_le (l : List ExpD) : l.length ≤ sizeL l := by
  induction l with
  | nil => simp
  | cons x r ih => rw [sizeL_cons, List.length_cons]; have := sizeX_pos x; omega
set_option maxHeartbeats 2000000 in
set_option maxRecDepth 100000 in
theorem measure_any (B : Nat) (x : ExpD) : MeasAll B x := by
  induction x using ExpD.induct with
  | h op n s lv l ih =>
    intro w hBw hx hsz
    rw [expV_mk]
    have HIH := Lib.hid ih
    obtain ⟨hr, _, hy⟩ := hx.parts
    rw [sizeX_mk] at hsz
    have hll := length_le l
    have HY := Lib.hid hy
    have HR := Lib.hid hr
    obtain ⟨a, c, rfl, hlc, _⟩ := hr
    have hb1 := box_exp op n s (.slice a l.length c) w
    have gP := new_heap w (.cells #[.int .i64 op, .int .i64 n, .string s, .slice a l.length c] 29)
    obtain ⟨p0, p1, p2, p3⟩ := exp_box gP
    clear ih hx hy gP
    go_enter Tryz.func86, Tryz.ntmps86
    go_wp2_with fail
    generalize w.alloc (.cells #[.int .i64 op, .int .i64 n, .string s, .slice a l.length c] 29) = W at *
    go_loopw [2, 3, 11] (fun m h i wr => ∃ (k : Nat) (ms hs : Nat), k ≤ l.length ∧ i = .int .i64 k ∧ m = .int .i64 ms ∧ h = .int .i64 hs ∧ Hid (ms = sizeL (l.take k) ∧ hs = heightL (l.take k)) ∧ Below w.heap.size w wr) (fun _ _ i _ => l.length - (intOf i).toNat)
    case atStart => exact ⟨0, 0, 0, Nat.zero_le _, rfl, rfl, rfl, ⟨by rw [List.take_zero, sizeL_nil], by rw [List.take_zero, heightL_nil]⟩, hb1⟩
    case round =>
      obtain ⟨k, ms, hs, hk, rfl, rfl, rfl, HS, hbr⟩ := hrel
      have hms : ms ≤ 1000000 := by have := HS.out.1; have := sizeL_take l k; omega
      have hhs : hs ≤ 1000000 := by have h1 := HS.out.2; have h2 := sizeL_take l k; have h3 := heightL_le (l.take k); omega
      by_cases hkl : k < l.length
      · obtain ⟨b, off, rfl, hbB, c0, c1, c2, c3⟩ := parts_at HR.out (hbr.mono hBw) k hkl
        have hmem := getD_mem default l k hkl
        have hsy := sizeL_mem hmem
        have hT := take_one default l k hkl
        have HT : Hid (sizeL (l.take (k + 1)) = sizeL (l.take k) + sizeX (l.getD k default) ∧ heightL (l.take (k + 1)) = max (heightL (l.take k)) (heightX (l.getD k default))) := ⟨by rw [hT, sizeL_snoc], by rw [hT, heightL_snoc]⟩
        have hyk := HY.out _ hmem
        have hih := HIH.out _ hmem
        have hT2 := sizeL_take l (k + 1)
        clear hT hmem
        generalize l.getD k default = x at *
        obtain ⟨xo, xn, xs, xv, xl⟩ := x
        obtain ⟨xa, xc, rfl, _⟩ := hyk.parts.1
        simp only [ExpD.op, ExpD.n, ExpD.s, ExpD.lv] at c0 c1 c2 c3
        have hb3 := box_exp xo xn xs (.slice xa xl.length xc) wr
        have gX := new_heap wr (.cells #[.int .i64 xo, .int .i64 xn, .string xs, .slice xa xl.length xc] 29)
        obtain ⟨e0, e1, e2, e3⟩ := exp_box gX
        have hbx := hbr.trans (hb3.mono hbr.size)
        have HM := Lib.hid (hih _ (by have := hbx.size; omega) (hyk.under (hbx.mono hBw)) (by omega))
        rw [expV_mk] at HM
        have hht := height_le (.mk xo xn xs (.slice xa xl.length xc) xl)
        have hms2 := HT.out.1
        have hms3 := HS.out.1
        clear hih hyk gX hb3
        go_wp2_with fail
        refine HM.out.mono ?_
        rintro e w2 ⟨rfl, hb4⟩
        have hbe := hbx.trans (hb4.mono hbx.size)
        generalize hsx : sizeX (.mk xo xn xs (.slice xa xl.length xc) xl) = sx at *
        generalize hhx : heightX (.mk xo xn xs (.slice xa xl.length xc) xl) = hx at *
        have HS2 : Hid (ms + sx = sizeL (l.take (k + 1)) ∧ max hs hx = heightL (l.take (k + 1))) := ⟨by omega, by rw [HT.out.2, HS.out.2]⟩
        clear hb4 e0 e1 e2 e3 c0 c1 c2 c3 HM
        by_cases hmx : (hs : Int) < (hx : Int)
        · have hmm : max hs hx = hx := by omega
          go_wp2_with fail
          go_round
          case rel => exact ⟨k + 1, ms + sx, hx, by omega, by go_num, by go_num, rfl, ⟨HS2.out.1, by rw [← hmm]; exact HS2.out.2⟩, hbe⟩
          case measure => simp [intOf]; omega
        · have hmm : max hs hx = hs := by omega
          go_wp2_with fail
          go_round
          case rel => exact ⟨k + 1, ms + sx, hs, by omega, by go_num, by go_num, rfl, ⟨HS2.out.1, by rw [← hmm]; exact HS2.out.2⟩, hbe⟩
          case measure => simp [intOf]; omega
      · go_wp2_with fail
        go_ret2
        obtain ⟨s1, s2⟩ := HS.out
        rw [List.take_of_length_le (by omega)] at s1 s2
        refine ⟨?_, hbr⟩
        rw [sizeX_mk, heightX_mk, ← s1, ← s2]
        push_cast
        rfl
set_option maxHeartbeats 1000000 in
set_option maxRecDepth 100000 in
theorem large_any (B : Nat) (x : ExpD) (w : World) (hBw : B ≤ w.heap.size) (hx : IsExp B w x) (hs : sizeX x ≤ 600) (hh : heightX x ≤ 211) : Calls Tryz.prog 70 #[expV x] w (FormOk false w) := by
  obtain ⟨op, n, s, lv, l⟩ := x
  rw [expV_mk]
  have hb1 := box_exp op n s lv w
  have gP := new_heap w (.cells #[.int .i64 op, .int .i64 n, .string s, lv] 29)
  obtain ⟨p0, p1, p2, p3⟩ := exp_box gP
  have HM := Lib.hid (measure_any B _ _ (by have := hb1.size; omega) (hx.under (hb1.mono hBw)) (by omega))
  rw [expV_mk] at HM
  clear gP hx
  go_enter Tryz.func70, Tryz.ntmps70
  go_wp2_with fail
  refine HM.out.mono ?_
  rintro e w2 ⟨rfl, hb2⟩
  generalize sizeX (.mk op n s lv l) = sx at *
  generalize heightX (.mk op n s lv l) = hx at *
  have hs' : ¬ (20000 : Int) < (sx : Int) := by omega
  have hh' : ¬ (400 : Int) < (hx : Int) := by omega
  have hbe := hb1.trans (hb2.mono hb1.size)
  clear hb1 hb2 HM
  go_wp2_with fail
  go_ret
  refine ⟨ret_bool (a := decide ((20000 : Int) < (sx : Int)) || decide ((400 : Int) < (hx : Int))) ?_, hbe⟩
  rw [decide_eq_false (by omega), decide_eq_false (by omega)]; rfl

/-- What is asked of the function that looks at closures: it keeps J, turns the block r at most, and answers clo. -/
structure Clo (F : FuncId) (p : Value) (J : World → Prop) (r : Option Nat) (clo : Int → Int → Bool) (ok : Int → Int → Prop) : Prop where
  call : ∀ (w : World) (n parts : Int), J w → ok n parts → Calls Tryz.prog F #[.int .i64 n, .int .i64 parts, p] w fun e w' => e = .returned (.bool (clo n parts)) ∧ J w' ∧ w.grownBy w' r
  kept : ∀ (w w' : World), J w → w.grownBy w' none → J w'
  low : ∀ (w : World), J w → ∀ k, r = some k → k < w.heap.size
theorem grown_drew (w : World) : w.grownBy w.drew none := grown_below (Below.refl _ _).drew
def F24Ok (J : World → Prop) (r : Option Nat) (b : Bool) (w : World) (e : Ending) (w' : World) : Prop := e = .returned (.bool b) ∧ J w' ∧ w.grownBy w' r
set_option maxHeartbeats 1000000 in
set_option maxRecDepth 100000 in
theorem form_24V (p : Value) (J : World → Prop) (r : Option Nat) (clo : Int → Int → Bool) (ok : Int → Int → Prop) (H : Clo 45 p J r clo ok) (cb : Nat) (caps : Int) (n loc : Int) (s : ByteArray) (a : Option Addr) (k c : Nat) (w : World) (hs : s.size = 0)
    (hC : w.heap[cb]? = some (.cells #[.int .i64 caps, .func (.func 45) #[] #[p]] 122 (0, 0))) (hJ : J w) (hok : ok n k) (hr : r ≠ some cb) :
    Calls Tryz.prog 87 #[.pointer (some ⟨cb, 0, none⟩), .agg #[.int .i64 24, .int .i64 n, .string s, .slice a k c], .int .i64 loc] w (F24Ok J r (formB caps clo loc 24 n s k) w) := by
  have hE : Hid (formB caps clo loc 24 n s k = _) := formE_24 (.inr hs)
  obtain rfl := size_zero hs
  clear hs
  have hg := grown_alloc w (.cells #[.int .i64 24, .int .i64 n, .string ⟨#[]⟩, .slice a k c] 29)
  have gP := new_heap w (.cells #[.int .i64 24, .int .i64 n, .string ⟨#[]⟩, .slice a k c] 29)
  obtain ⟨e0, e1, e2, e3⟩ := exp_box gP
  have hC2 := (hg.block _ (heap_lt hC) (by nofun)).trans hC
  have g1 : (w.alloc (.cells #[.int .i64 24, .int .i64 n, .string ⟨#[]⟩, .slice a k c] 29)).cell? ⟨cb, 1, none⟩ = some (.func (.func 45) #[] #[p]) := by simp only [World.cell?, hC2]; rfl
  have hJ2 := Lib.hid (H.kept _ _ hJ hg)
  have hr2 : r ≠ some w.heap.size := fun e => by have := H.low w hJ _ e; omega
  have HG := Lib.hid hg
  clear hC hC2 hg hJ gP
  by_cases hk : (k : Int) ≤ 1000
  · have hk2 := Lib.hid (decide_eq_true (show k ≤ 1000 by omega))
    go_enter Tryz.func87, Tryz.ntmps87
    go_upto_region 30 with fail
    generalize w.alloc (.cells #[.int .i64 24, .int .i64 n, .string ⟨#[]⟩, .slice a k c] 29) = W at *
    have hJd := H.kept _ _ hJ2.out (grown_drew W)
    go_region_held3 (fun w' => w'.cell? ⟨cb, 1, none⟩ = some (.func (.func 45) #[] #[p]) ∧ w'.cell? ⟨w.heap.size, 1, none⟩ = some (.int .i64 n)) (first | exact ⟨g1, e1⟩ | exact ⟨k1, k2⟩)
      ((go_at_call 45; refine (H.call _ n k hJd hok).mono ?_; rintro e w3 ⟨rfl, hJ3, hg3⟩; have k1 := World.grownBy.cell (a := ⟨cb, 1, none⟩) hg3 g1 (fun e => hr e.symm); have k2 := World.grownBy.cell (a := ⟨w.heap.size, 1, none⟩) hg3 e1 (fun e => hr2 e.symm)))
    all_goals
      have hgf := both (both (free_of HG.out r) (free_of (grown_drew W) r)) hg3
      go_wp2_with fail
      go_ret
      exact ⟨by rw [hE.out, hk2.out]; rfl, hJ3, hgf⟩
  · have hk2 := Lib.hid (decide_eq_false (show ¬ k ≤ 1000 by omega))
    go_enter Tryz.func87, Tryz.ntmps87
    go_upto_region 30 with fail
    generalize w.alloc (.cells #[.int .i64 24, .int .i64 n, .string ⟨#[]⟩, .slice a k c] 29) = W at *
    go_quiet (fail)
    go_wp2_with fail
    go_ret
    refine ⟨by rw [hE.out, hk2.out]; rfl, H.kept _ _ hJ2.out ?_, both (free_of HG.out r) (free_of ?_ r)⟩
    · exact grown_below (bdrewN (Below.refl _ _) _)
    · exact grown_below (bdrewN (Below.refl _ _) _)
set_option maxHeartbeats 1000000 in
set_option maxRecDepth 100000 in
theorem form_24L (p : Value) (J : World → Prop) (r : Option Nat) (clo : Int → Int → Bool) (ok : Int → Int → Prop) (H : Clo 56 p J r clo ok) (cb : Nat) (caps : Int) (n loc : Int) (s : ByteArray) (a : Option Addr) (k c : Nat) (w : World) (hs : s.size = 0)
    (hC : w.heap[cb]? = some (.cells #[.int .i64 caps, .func (.func 56) #[] #[p]] 122 (0, 0))) (hJ : J w) (hok : ok n k) (hr : r ≠ some cb) :
    Calls Tryz.prog 87 #[.pointer (some ⟨cb, 0, none⟩), .agg #[.int .i64 24, .int .i64 n, .string s, .slice a k c], .int .i64 loc] w (F24Ok J r (formB caps clo loc 24 n s k) w) := by
  have hE : Hid (formB caps clo loc 24 n s k = _) := formE_24 (.inr hs)
  obtain rfl := size_zero hs
  clear hs
  have hg := grown_alloc w (.cells #[.int .i64 24, .int .i64 n, .string ⟨#[]⟩, .slice a k c] 29)
  have gP := new_heap w (.cells #[.int .i64 24, .int .i64 n, .string ⟨#[]⟩, .slice a k c] 29)
  obtain ⟨e0, e1, e2, e3⟩ := exp_box gP
  have hC2 := (hg.block _ (heap_lt hC) (by nofun)).trans hC
  have g1 : (w.alloc (.cells #[.int .i64 24, .int .i64 n, .string ⟨#[]⟩, .slice a k c] 29)).cell? ⟨cb, 1, none⟩ = some (.func (.func 56) #[] #[p]) := by simp only [World.cell?, hC2]; rfl
  have hJ2 := Lib.hid (H.kept _ _ hJ hg)
  have hr2 : r ≠ some w.heap.size := fun e => by have := H.low w hJ _ e; omega
  have HG := Lib.hid hg
  clear hC hC2 hg hJ gP
  by_cases hk : (k : Int) ≤ 1000
  · have hk2 := Lib.hid (decide_eq_true (show k ≤ 1000 by omega))
    go_enter Tryz.func87, Tryz.ntmps87
    go_upto_region 30 with fail
    generalize w.alloc (.cells #[.int .i64 24, .int .i64 n, .string ⟨#[]⟩, .slice a k c] 29) = W at *
    have hJd := H.kept _ _ hJ2.out (grown_drew W)
    go_region_held3 (fun w' => w'.cell? ⟨cb, 1, none⟩ = some (.func (.func 56) #[] #[p]) ∧ w'.cell? ⟨w.heap.size, 1, none⟩ = some (.int .i64 n)) (first | exact ⟨g1, e1⟩ | exact ⟨k1, k2⟩)
      ((go_at_call 56; refine (H.call _ n k hJd hok).mono ?_; rintro e w3 ⟨rfl, hJ3, hg3⟩; have k1 := World.grownBy.cell (a := ⟨cb, 1, none⟩) hg3 g1 (fun e => hr e.symm); have k2 := World.grownBy.cell (a := ⟨w.heap.size, 1, none⟩) hg3 e1 (fun e => hr2 e.symm)))
    all_goals
      have hgf := both (both (free_of HG.out r) (free_of (grown_drew W) r)) hg3
      go_wp2_with fail
      go_ret
      exact ⟨by rw [hE.out, hk2.out]; rfl, hJ3, hgf⟩
  · have hk2 := Lib.hid (decide_eq_false (show ¬ k ≤ 1000 by omega))
    go_enter Tryz.func87, Tryz.ntmps87
    go_upto_region 30 with fail
    generalize w.alloc (.cells #[.int .i64 24, .int .i64 n, .string ⟨#[]⟩, .slice a k c] 29) = W at *
    go_quiet (fail)
    go_wp2_with fail
    go_ret
    refine ⟨by rw [hE.out, hk2.out]; rfl, H.kept _ _ hJ2.out ?_, both (free_of HG.out r) (free_of ?_ r)⟩
    · exact grown_below (bdrewN (Below.refl _ _) _)
    · exact grown_below (bdrewN (Below.refl _ _) _)

mutual
/-- Of each closure this is so. -/
def cloX (ok : Int → Int → Prop) : ExpD → Prop
  | .mk op n _ _ l => (op = 24 → ok n l.length) ∧ cloL ok l
def cloL (ok : Int → Int → Prop) : List ExpD → Prop
  | [] => True
  | x :: r => cloX ok x ∧ cloL ok r
end
theorem cloL_mem {ok : Int → Int → Prop} : ∀ {l : List ExpD}, cloL ok l → ∀ y ∈ l, cloX ok y
  | [], _, _, h => by cases h
  | x :: r, h, y, hy => by
    unfold cloL at h
    rcases List.mem_cons.1 hy with rfl | hy
    · exact h.1
    · exact cloL_mem h.2 y hy
theorem clo_mk {ok : Int → Int → Prop} {op n : Int} {s : ByteArray} {v : Value} {l : List ExpD} (h : cloX ok (.mk op n s v l)) : (op = 24 → ok n l.length) ∧ ∀ y ∈ l, cloX ok y := by
  unfold cloX at h; exact ⟨h.1, cloL_mem h.2⟩
def F24 (F : FuncId) (p : Value) (J : World → Prop) (r : Option Nat) (clo : Int → Int → Bool) (ok : Int → Int → Prop) (cb : Nat) (caps : Int) : Prop :=
  ∀ (n loc : Int) (s : ByteArray) (a : Option Addr) (k c : Nat) (w : World), s.size = 0 → w.heap[cb]? = some (.cells #[.int .i64 caps, .func (.func F) #[] #[p]] 122 (0, 0)) → J w → ok n k → r ≠ some cb →
    Calls Tryz.prog 87 #[.pointer (some ⟨cb, 0, none⟩), .agg #[.int .i64 24, .int .i64 n, .string s, .slice a k c], .int .i64 loc] w (F24Ok J r (formB caps clo loc 24 n s k) w)
theorem form_all {F : FuncId} {p : Value} {J : World → Prop} {r : Option Nat} {clo : Int → Int → Bool} {ok : Int → Int → Prop} (H : Clo F p J r clo ok) {cb : Nat} {caps : Int} (H24 : F24 F p J r clo ok cb caps) (op n loc : Int) (s : ByteArray) (a : Option Addr) (k c : Nat) (w : World)
    (hC : w.heap[cb]? = some (.cells #[.int .i64 caps, .func (.func F) #[] #[p]] 122 (0, 0))) (hJ : J w) (hok : op = 24 → ok n k) (hr : r ≠ some cb) (hl0 : 0 ≤ loc) (hl1 : loc ≤ 1000000) (hc0 : 0 ≤ caps) (hc1 : caps ≤ 1000) :
    Calls Tryz.prog 87 #[.pointer (some ⟨cb, 0, none⟩), .agg #[.int .i64 op, .int .i64 n, .string s, .slice a k c], .int .i64 loc] w (F24Ok J r (formB caps clo loc op n s k) w) := by
  have conv : ∀ {b : Bool} {e : Ending} {w' : World}, FormOk b w e w' → F24Ok J r b w e w' := fun h => ⟨h.1, H.kept _ _ hJ (grown_below h.2), free_of (grown_below h.2) r⟩
  by_cases hs : s.size = 0
  · by_cases h : op = 2 ∨ op = 3 ∨ op = 6 ∨ op = 7 ∨ op = 8 ∨ op = 9 ∨ op = 11 ∨ op = 12 ∨ op = 13 ∨ op = 21 ∨ op = 22 ∨ op = 23 ∨ op = 24 ∨ op = 25
    · rcases h with rfl | rfl | rfl | rfl | rfl | rfl | rfl | rfl | rfl | rfl | rfl | rfl | rfl | rfl
      · exact (form_2_any cb caps undef clo n loc s a k c w hs).mono fun _ _ => conv
      · exact (form_3_any cb caps undef clo n loc s a k c w).mono fun _ _ => conv
      · exact (form_6_any cb caps undef clo n loc s a k c w hs).mono fun _ _ => conv
      · exact (form_7_any cb caps undef clo n loc s a k c w hs).mono fun _ _ => conv
      · exact (form_8_any cb caps undef clo n loc s a k c w hs).mono fun _ _ => conv
      · exact (form_9_any cb caps undef clo n loc s a k c w hs).mono fun _ _ => conv
      · exact (form_11_any cb caps undef clo n loc s a k c w hs).mono fun _ _ => conv
      · exact (form_12_any cb caps undef clo n loc s a k c w hs).mono fun _ _ => conv
      · exact (form_13_any cb caps undef clo n loc s a k c w hs).mono fun _ _ => conv
      · exact (form_21_any cb caps undef clo n loc s a k c w hs hl0 hl1).mono fun _ _ => conv
      · exact (form_22_any cb caps undef clo n loc s a k c w hs).mono fun _ _ => conv
      · exact (form_23_any cb caps _ clo n loc s a k c w hs hC hc0 hc1).mono fun _ _ => conv
      · exact H24 n loc s a k c w hs hC hJ (hok rfl) hr
      · exact (form_25_any cb caps undef clo n loc s a k c w hs).mono fun _ _ => conv
    · exact (form_no_any cb caps undef clo n loc s a k c w op hs h).mono fun _ _ => conv
  · by_cases h3 : op = 3
    · subst h3; exact (form_3_any cb caps undef clo n loc s a k c w).mono fun _ _ => conv
    · exact (form_s_any cb caps undef clo n loc s a k c w op h3 hs).mono fun _ _ => conv
/-- The local variables around the part i. -/
def lo (op loc : Int) (i : Nat) : Int := if 0 < i then loc + bump op else loc
theorem lo_t {op loc : Int} {i : Nat} (h : bindB op i = true) : lo op loc i = loc + 1 := by
  unfold bindB at h
  simp only [Bool.and_eq_true, Bool.or_eq_true, beq_iff_eq, decide_eq_true_eq] at h
  unfold lo bump
  rw [if_pos (by omega), if_pos (by omega)]
theorem lo_f {op loc : Int} {i : Nat} (h : bindB op i = false) : lo op loc i = loc := by
  unfold lo
  split
  · rename_i hi
    unfold bindB at h
    rw [decide_eq_true (show (0 : Int) < (i : Int) by omega), Bool.and_true, Bool.or_eq_false_iff] at h
    rw [bump_0 (by simpa using h.2) (by simpa using h.1)]; omega
  · rfl
theorem flatL_all {caps : Int} {clo : Int → Int → Bool} (a b : Int) : ∀ (l : List ExpD), (∀ i, i < l.length → flatX caps clo (if 0 < i then b else a) (l.getD i default) = true) → flatL caps clo a b l = true
  | [], _ => by unfold flatL; rfl
  | x :: r, h => by
    unfold flatL
    rw [Bool.and_eq_true]
    refine ⟨by simpa using h 0 (by simp), flatL_all b b r fun i hi => ?_⟩
    have := h (i + 1) (by simpa using hi)
    simpa using this
theorem flatL_none {caps : Int} {clo : Int → Int → Bool} (a b : Int) : ∀ (l : List ExpD) (i : Nat), i < l.length → flatX caps clo (if 0 < i then b else a) (l.getD i default) = false → flatL caps clo a b l = false
  | [], i, h, _ => by simp at h
  | x :: r, 0, _, h => by unfold flatL; rw [Bool.and_eq_false_iff]; exact .inl (by simpa using h)
  | x :: r, i + 1, hi, h => by
    unfold flatL; rw [Bool.and_eq_false_iff]
    refine .inr (flatL_none b b r i (by simpa using hi) ?_)
    simpa using h
theorem flat_yes {caps : Int} {clo : Int → Int → Bool} {loc op n : Int} {s : ByteArray} {v : Value} {l : List ExpD} (h1 : formB caps clo loc op n s l.length = true) (h : ∀ i, i < l.length → flatX caps clo (lo op loc i) (l.getD i default) = true) : flatX caps clo loc (.mk op n s v l) = true := by
  unfold flatX; rw [h1, flatL_all _ _ l h]; rfl
theorem flat_no {caps : Int} {clo : Int → Int → Bool} {loc op n : Int} {s : ByteArray} {v : Value} {l : List ExpD} (i : Nat) (hi : i < l.length) (h : flatX caps clo (lo op loc i) (l.getD i default) = false) : flatX caps clo loc (.mk op n s v l) = false := by
  unfold flatX; rw [flatL_none _ _ l i hi h]; simp
theorem flat_no1 {caps : Int} {clo : Int → Int → Bool} {loc op n : Int} {s : ByteArray} {v : Value} {l : List ExpD} (h1 : formB caps clo loc op n s l.length = false) : flatX caps clo loc (.mk op n s v l) = false := by
  unfold flatX; rw [h1]; rfl
theorem heightL_mem {l : List ExpD} {y : ExpD} (h : y ∈ l) : heightX y ≤ heightL l := by
  induction l with
  | nil => cases h
  | cons x r ih =>
    rw [heightL_cons]
    rcases List.mem_cons.1 h with rfl | h
    · omega
    · have := ih h; omega
set_option maxHeartbeats 4000000 in
set_option maxRecDepth 100000 in
theorem flat_any (B : Nat) {F : FuncId} {p : Value} {J : World → Prop} {r : Option Nat} {clo : Int → Int → Bool} {ok : Int → Int → Prop} (H : Clo F p J r clo ok) {cb : Nat} {caps : Int} (H24 : F24 F p J r clo ok cb caps) (hr : r ≠ some cb) (hrB : ∀ k, r = some k → B ≤ k) (hc0 : 0 ≤ caps) (hc1 : caps ≤ 1000) (x : ExpD) :
    ∀ (loc : Int) (w : World), B ≤ w.heap.size → IsExp B w x → cloX ok x → w.heap[cb]? = some (.cells #[.int .i64 caps, .func (.func F) #[] #[p]] 122 (0, 0)) → J w → 0 ≤ loc → loc + heightX x ≤ 1000000 →
    Calls Tryz.prog 71 #[.pointer (some ⟨cb, 0, none⟩), expV x, .int .i64 loc] w (F24Ok J r (flatX caps clo loc x) w) := by
  induction x using ExpD.induct with
  | h op n s lv l ih =>
    intro loc w hBw hx hcl hC hJ hl0 hl1
    rw [expV_mk]
    have HIH := Lib.hid ih
    obtain ⟨hrow, hm, hy⟩ := hx.parts
    have HY := Lib.hid hy
    have HR := Lib.hid hrow
    have HCL := Lib.hid (clo_mk hcl)
    have hm' : l.length ≤ 9223372036854775807 := by unfold maxLen at hm; omega
    rw [heightX_mk] at hl1
    obtain ⟨a, c, rfl, hlc, _⟩ := hrow
    have hg1 := grown_alloc w (.cells #[.int .i64 op, .int .i64 n, .string s, .slice a l.length c] 29)
    have gP := new_heap w (.cells #[.int .i64 op, .int .i64 n, .string s, .slice a l.length c] 29)
    obtain ⟨p0, p1, p2, p3⟩ := exp_box gP
    have HF := Lib.hid (form_all H H24 op n loc s a l.length c (w.alloc (.cells #[.int .i64 op, .int .i64 n, .string s, .slice a l.length c] 29)) ((hg1.block _ (heap_lt hC) (by nofun)).trans hC) (H.kept _ _ hJ hg1) (clo_mk hcl).1 hr hl0 (by omega) hc0 hc1)
    have HGP := Lib.hid gP
    have HC := Lib.hid hC
    have HG1 := Lib.hid hg1
    have hlow := H.low w hJ
    clear ih hx hy gP hC hg1 hcl hm
    go_enter Tryz.func71, Tryz.ntmps71
    go_wp2_with fail
    generalize w.alloc (.cells #[.int .i64 op, .int .i64 n, .string s, .slice a l.length c] 29) = W at *
    refine HF.out.mono ?_
    rintro e w2 ⟨rfl, hJ2, hg2⟩
    have HJ2 := Lib.hid hJ2
    have HG2 := Lib.hid (both (free_of HG1.out r) hg2)
    have gP2 := (hg2.block _ (heap_lt HGP.out) (fun e => by have := hlow _ e.symm; omega)).trans HGP.out
    have HGP2 := Lib.hid gP2
    clear p0 p1 p2 p3 hg2 hJ2 HF
    obtain ⟨p0, p1, p2, p3⟩ := exp_box gP2
    obtain ⟨bb, hbb⟩ : ∃ bb, formB caps clo loc op n s l.length = bb := ⟨_, rfl⟩
    have Hbb := Lib.hid hbb
    rw [hbb]
    clear hbb gP2
    cases bb
    · go_wp2_with fail
      go_ret
      exact ⟨by rw [flat_no1 Hbb.out]; rfl, HJ2.out, HG2.out⟩
    · go_wp2_with fail
      clear p0 p1 p2 p3
      go_loopw [18] (fun i wr => ∃ k : Nat, k ≤ l.length ∧ i = .int .i64 k ∧ Hid (∀ i, i < k → flatX caps clo (lo op loc i) (l.getD i default) = true) ∧ Hid (J wr) ∧ Hid (w.grownBy wr r) ∧ Hid (w2.grownBy wr r)) (fun i _ => l.length - (intOf i).toNat)
      case atStart => exact ⟨0, Nat.zero_le _, rfl, fun i hi => by omega, HJ2, HG2, ⟨rfl, rfl, rfl, Nat.le_refl _, fun _ _ _ => rfl⟩⟩
      case round =>
        obtain ⟨k, hk, rfl, HS, HJ, HG, HG3⟩ := hrel
        have gPr := (HG3.out.block _ (heap_lt HGP2.out) (fun e => by have := hlow _ e.symm; omega)).trans HGP2.out
        by_cases hkl : k < l.length
        · have hbB : Below B w wr := grown_under HG.out hBw hrB
          obtain ⟨b, off, rfl, hbB2, c0, c1, c2, c3⟩ := parts_at HR.out hbB k hkl
          have hmem := getD_mem default l k hkl
          have hhm := heightL_mem hmem
          have hyk := (HY.out _ hmem).under hbB
          have hck := HCL.out.2 _ hmem
          have hih := HIH.out _ hmem
          have HN := Lib.hid (flat_no (caps := caps) (clo := clo) (loc := loc) (op := op) (n := n) (s := s) (v := .slice (some ⟨b, off, none⟩) l.length c) k hkl)
          have HS2 := Lib.hid (fun (hx : flatX caps clo (lo op loc k) (l.getD k default) = true) (i : Nat) (hi : i < k + 1) => show flatX caps clo (lo op loc i) (l.getD i default) = true from by
            by_cases e : i = k
            · subst e; exact hx
            · exact HS.out i (by omega))
          clear hmem
          generalize l.getD k default = x at *
          obtain ⟨xo, xn, xs, xv, xl⟩ := x
          obtain ⟨xa, xc, rfl, _⟩ := hyk.parts.1
          simp only [ExpD.op, ExpD.n, ExpD.s, ExpD.lv] at c0 c1 c2 c3
          have hg3 := grown_alloc wr (.cells #[.int .i64 xo, .int .i64 xn, .string xs, .slice xa xl.length xc] 29)
          have gX := new_heap wr (.cells #[.int .i64 xo, .int .i64 xn, .string xs, .slice xa xl.length xc] 29)
          have gP3 := (hg3.block _ (heap_lt gPr) (by nofun)).trans gPr
          obtain ⟨e0, e1, e2, e3⟩ := exp_box gX
          obtain ⟨p0, p1, p2, p3⟩ := exp_box gP3
          have hgx := both HG.out (free_of hg3 r)
          have HG4 := Lib.hid hgx
          have HG5 := Lib.hid (both HG3.out (free_of hg3 r))
          have HM := Lib.hid (fun (lc : Int) (h0 : 0 ≤ lc) (h1 : lc + heightX (.mk xo xn xs (.slice xa xl.length xc) xl) ≤ 1000000) => hih lc (wr.alloc (.cells #[.int .i64 xo, .int .i64 xn, .string xs, .slice xa xl.length xc] 29)) (by have := hgx.size; omega) (hyk.grown hg3 (by have := hbB.size; omega) (by nofun)) hck ((hgx.block _ (heap_lt HC.out) (fun e => hr e.symm)).trans HC.out) (H.kept _ _ HJ.out hg3) h0 h1)
          rw [expV_mk] at HM
          have hlw : lo op loc k = loc ∨ lo op loc k = loc + 1 := by unfold lo bump; split <;> (try split) <;> omega
          clear hih hyk gX hg3 gP3 gPr hgx hck
          go_wp2_with fail
          refine (cbinds_any _ _ _).mono ?_
          rintro e w' ⟨rfl, rfl⟩
          obtain ⟨bk, hbk⟩ : ∃ bk, bindB op k = bk := ⟨_, rfl⟩
          have Hbk := Lib.hid hbk
          rw [hbk]
          clear hbk
          cases bk
          · have HM2 := Lib.hid (HM.out loc hl0 (by omega))
            have hlo := lo_f (loc := loc) Hbk.out
            rw [hlo] at HN HS2
            clear hlo HM
            go_wp2_with fail
            refine HM2.out.mono ?_
            rintro e w3 ⟨rfl, hJ3, hg4⟩
            have HJ3 := Lib.hid hJ3
            have HG6 := Lib.hid (both HG4.out hg4)
            have HG7 := Lib.hid (both HG5.out hg4)
            obtain ⟨bx, hbx⟩ : ∃ bx, flatX caps clo loc (.mk xo xn xs (.slice xa xl.length xc) xl) = bx := ⟨_, rfl⟩
            have Hbx := Lib.hid hbx
            rw [hbx]
            clear hbx e0 e1 e2 e3 p0 p1 p2 p3 c0 c1 c2 c3 hJ3 hg4 HM2
            cases bx
            · go_wp2_with fail
              go_ret
              exact ⟨by rw [HN.out Hbx.out]; rfl, HJ3.out, HG6.out⟩
            · have HS3 := Lib.hid (HS2.out Hbx.out)
              go_wp2_with fail
              go_round
              case rel => exact ⟨k + 1, by omega, by go_num, HS3, HJ3, HG6, HG7⟩
              case measure => simp [intOf]; omega
          · have HM2 := Lib.hid (HM.out (loc + 1) (by omega) (by omega))
            have hlo := lo_t (loc := loc) Hbk.out
            rw [hlo] at HN HS2
            clear hlo HM
            go_wp2_with fail
            refine HM2.out.mono ?_
            rintro e w3 ⟨rfl, hJ3, hg4⟩
            have HJ3 := Lib.hid hJ3
            have HG6 := Lib.hid (both HG4.out hg4)
            have HG7 := Lib.hid (both HG5.out hg4)
            obtain ⟨bx, hbx⟩ : ∃ bx, flatX caps clo (loc + 1) (.mk xo xn xs (.slice xa xl.length xc) xl) = bx := ⟨_, rfl⟩
            have Hbx := Lib.hid hbx
            rw [hbx]
            clear hbx e0 e1 e2 e3 p0 p1 p2 p3 c0 c1 c2 c3 hJ3 hg4 HM2
            cases bx
            · go_wp2_with fail
              go_ret
              exact ⟨by rw [HN.out Hbx.out]; rfl, HJ3.out, HG6.out⟩
            · have HS3 := Lib.hid (HS2.out Hbx.out)
              go_wp2_with fail
              go_round
              case rel => exact ⟨k + 1, by omega, by go_num, HS3, HJ3, HG6, HG7⟩
              case measure => simp [intOf]; omega
        · have hall : ∀ i, i < l.length → flatX caps clo (lo op loc i) (l.getD i default) = true := fun i hi => HS.out i (by omega)
          have HA := Lib.hid (flat_yes (v := .slice a l.length c) Hbb.out hall)
          clear hall
          go_wp2_with fail
          go_ret
          exact ⟨by rw [HA.out]; rfl, HJ.out, HG.out⟩
end Go.Proofs.YtidolpcbbbakmaaGreat

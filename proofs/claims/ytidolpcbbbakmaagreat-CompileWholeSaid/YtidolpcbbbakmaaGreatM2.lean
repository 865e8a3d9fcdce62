/- (The texts of law 46, with where the new row lies.) Rows of cells as lists; Targets of an instruction: the program's and the reference's. The reference's Word and Targets. The reference's Targets. -/
import Derived.Test.YtidolpcbbbakmaaGreatM1
import Derived.StillTailTactics
namespace Go.Proofs.YtidolpcbbbakmaaGreat
open Go Go.RowKit

/-- A slice whose elements' cells, one behind the other, are xs. -/
def IsRow (w : World) (v : Value) (len : Nat) (xs : List Value) : Prop :=
  ∃ (a : Option Addr) (c : Nat), v = .slice a len c ∧ len ≤ c ∧ (0 < len → ∃ b off, a = some ⟨b, off, none⟩ ∧ b < w.heap.size ∧ ∀ j, j < xs.length → w.cell? ⟨b, off + j, none⟩ = some (xs.getD j undef))
theorem IsRow.below {w w' : World} {v : Value} {n : Nat} {xs : List Value} (h : IsRow w v n xs) (hb : Below w.heap.size w w') : IsRow w' v n xs := by
  obtain ⟨a, c, hv, hlc, hl⟩ := h
  refine ⟨a, c, hv, hlc, fun hne => ?_⟩
  obtain ⟨b, off, ha, hlt, hc⟩ := hl hne
  exact ⟨b, off, ha, by have := hb.size; omega, fun j hj => by rw [hb.cell (p := ⟨b, off + j, none⟩) hlt]; exact hc j hj⟩
theorem isRow_nil (w : World) : IsRow w (.slice none 0 0) 0 [] := ⟨none, 0, rfl, Nat.le_refl _, fun h => absurd h (Nat.not_lt_zero _)⟩
theorem cell_new (w : World) (cs : Array Value) (t : TypeId) (j : Nat) : (w.alloc (.cells cs t)).cell? ⟨w.heap.size, j, none⟩ = cs[j]? := by
  simp [World.cell?, World.alloc, -World.alloc_eq]
theorem isRow_alloc (w : World) (n : Nat) (xs : List Value) (t : TypeId) : IsRow (w.alloc (.cells xs.toArray t)) (.slice (some ⟨w.heap.size, 0, none⟩) n n) n xs := by
  refine ⟨_, _, rfl, Nat.le_refl _, fun _ => ⟨w.heap.size, 0, rfl, by simp, fun j hj => ?_⟩⟩
  rw [Nat.zero_add, cell_new]
  simp [List.getD, hj]
theorem isRow_owns {w : World} {base : Nat} {v : Value} {n : Nat} {xs : List Value} {e : TypeId} {size : Nat} (h : w.ownsRow base e size v n xs) : IsRow w v n xs := by
  obtain ⟨h1, h2⟩ := h
  rcases h2 with ⟨rfl, h0⟩ | ⟨g, cap, cur, rfl, hg, hh, hn, hm, hsz, htk⟩
  · subst h0
    exact ⟨none, 0, rfl, Nat.le_refl _, fun h => absurd h (Nat.not_lt_zero _)⟩
  · refine ⟨_, cap, rfl, hn, fun _ => ⟨g, 0, rfl, ?_, fun j hj => ?_⟩⟩
    · rcases Nat.lt_or_ge g w.heap.size with h' | h'
      · exact h'
      · rw [Array.getElem?_eq_none h'] at hh; cases hh
    · have e1 : cur.toList[j]? = some (xs.getD j undef) := by
        have : (cur.toList.take (n * size))[j]? = xs[j]? := by rw [htk]
        rw [List.getElem?_take, if_pos (by omega)] at this
        rw [this]; simp [List.getD, hj]
      simp only [World.cell?, hh, Nat.zero_add]
      simpa using e1
theorem isRow_owns' {w : World} {base : Nat} {v : Value} {n m : Nat} {xs : List Value} {e : TypeId} {size : Nat} (h : w.ownsRow base e size v n xs) (hn : n = m) : IsRow w v m xs := by
  subst hn; exact isRow_owns h
theorem own_ge {w : World} {base : Nat} {e : TypeId} {size : Nat} {v : Value} {n : Nat} {xs : List Value} (h : w.ownsRow base e size v n xs) {g : Nat} (hg : v.ownBlock = some g) : base ≤ g := by
  obtain ⟨_, h2⟩ := h
  rcases h2 with ⟨rfl, _⟩ | ⟨g', cap, cur, rfl, hb, _⟩
  · cases hg
  · cases hg; exact hb

def ints (l : List Int) : List Value := l.map (Value.int .i64)
structure Ins where
  op : Int
  a : Int
  b : Int
  deriving DecidableEq, Inhabited
def insCells (l : List Ins) : List Value := l.flatMap fun i => [.int .i64 i.op, .int .i64 i.a, .int .i64 i.b]
theorem insCells_length (l : List Ins) : (insCells l).length = l.length * 3 := by
  induction l with
  | nil => rfl
  | cons x l ih => simp [insCells] at ih ⊢; omega
theorem insCells_at : ∀ (l : List Ins) (k : Nat), k < l.length → (insCells l).getD (k * 3) undef = .int .i64 (l.getD k default).op ∧ (insCells l).getD (k * 3 + 1) undef = .int .i64 (l.getD k default).a ∧ (insCells l).getD (k * 3 + 2) undef = .int .i64 (l.getD k default).b
  | [], k, h => by simp at h
  | x :: l, 0, _ => by simp [insCells]
  | x :: l, k + 1, h => by
    have ih := insCells_at l k (by simpa using h)
    have e : insCells (x :: l) = [.int .i64 x.op, .int .i64 x.a, .int .i64 x.b] ++ insCells l := rfl
    have g : ∀ j, (insCells (x :: l)).getD (j + 3) undef = (insCells l).getD j undef := fun j => by
      rw [e]; simp [List.getD]
    have e1 : (k + 1) * 3 = k * 3 + 3 := by omega
    refine ⟨?_, ?_, ?_⟩
    · rw [e1, g]; exact ih.1
    · rw [show (k + 1) * 3 + 1 = k * 3 + 1 + 3 by omega, g]; exact ih.2.1
    · rw [show (k + 1) * 3 + 2 = k * 3 + 2 + 3 by omega, g]; exact ih.2.2

/-- The code of a function reads as instructions. -/
def IsCode (w : World) (v : Value) (l : List Ins) : Prop := IsRow w v l.length (insCells l)

def outB (n : Nat) (k : Int) : Bool := !inB k 0 ((n : Int) - 1)
/-- What Targets answers: where it goes, and the error. -/
def tgL (i : Ins) (k : Nat) : List Int :=
  if i.op = 9 ∨ i.op = 16 then [] else if i.op = 14 then [i.a] else if i.op = 13 then (List.range i.b.toNat).map (fun (j : Nat) => (k : Int) + 1 + j) else [(k : Int) + 1]
def tgT (code : List Ins) (at_ : Int) : List Int × Int :=
  if at_ < 0 ∨ (code.length : Int) ≤ at_ then ([], 2) else
  let i := code.getD at_.toNat default
  if knownB i.op = false then ([], 2) else
  if i.op = 13 ∧ inB i.b 1 1000 = false then ([], 24) else
  if (tgL i at_.toNat).any (outB code.length) then ([], 24) else (tgL i at_.toNat, 0)

theorem targets1_any (n cp lc dp : Int) (len : Nat) (p : Addr) (w : World) (hlen : len ≤ 1000000) (a : Option Addr) (c : Nat)
    (hp : w.heap[p.block]? = some (.cells #[.int .i64 cp, .int .i64 lc, .int .i64 dp, .slice a len c] 43 (0, 0))) (hp0 : p = ⟨p.block, 0, none⟩) :
    Calls Tryz.prog 65 #[.int .i64 n, .pointer (some p)] w fun e w' => e = .returned (.bool (outB len n)) ∧ w = w' := by
  obtain ⟨b, o, sp⟩ := p
  obtain ⟨rfl, rfl⟩ : o = 0 ∧ sp = none := by simpa using hp0
  have hc : w.cell? ⟨b, 3, none⟩ = some (.slice a len c) := by simp only at hp; simp [World.cell?, hp]
  clear hp hp0
  go_enter Tryz.func65, Tryz.ntmps65
  go_wp2_with fail
  refine (within_any _ _ _ _).mono ?_
  rintro e w' ⟨rfl, rfl⟩
  go_wp2_with fail
  go_ret
  exact ⟨rfl, rfl⟩

theorem any_next {α : Type} (d : α) (l : List α) (p : α → Bool) (k : Nat) (h : k < l.length) (hn : (l.take k).any p = false) (hf : p (l.getD k d) = false) : (l.take (k + 1)).any p = false := by
  rw [List.take_succ_eq_append_getElem h, List.any_append, hn]
  simp [List.getD, h] at hf
  simp [hf]
theorem any_hit {α : Type} (d : α) (l : List α) (p : α → Bool) (k : Nat) (h : k < l.length) (hp : p (l.getD k d) = true) : l.any p = true := by
  rw [List.any_eq_true]
  exact ⟨l.getD k d, by simp [List.getD, h], hp⟩
theorem ints_at (l : List Int) (k : Nat) (h : k < l.length) : (ints l).getD k undef = .int .i64 (l.getD k 0) := by simp [ints, List.getD, h]
theorem ints_length (l : List Int) : (ints l).length = l.length := by simp [ints]

def AnyOk (b : Bool) (w : World) (e : Ending) (w' : World) : Prop := ∃ r : Int, e = .returned (.int .i64 r) ∧ decide (0 ≤ r) = b ∧ w = w'
theorem indexOut_any (v : Value) (l : List Int) (cp lc dp : Int) (len : Nat) (B : Nat) (w : World) (hlen : len ≤ 1000000) (a : Option Addr) (c : Nat) (h : IsRow w v l.length (ints l)) (hl : l.length ≤ 1000000)
    (hp : w.heap[B]? = some (.cells #[.int .i64 cp, .int .i64 lc, .int .i64 dp, .slice a len c] 43 (0, 0))) :
    Calls Tryz.prog 83 #[v, .func (.func 65) #[] #[.pointer (some ⟨B, 0, none⟩)]] w (AnyOk (l.any (outB len)) w) := by
  have HT : Hid (∀ n : Int, Calls Tryz.prog 65 #[.int .i64 n, .pointer (some ⟨B, 0, none⟩)] w fun e w' => e = .returned (.bool (outB len n)) ∧ w = w') :=
    fun n => targets1_any n cp lc dp len ⟨B, 0, none⟩ w hlen a c hp rfl
  clear hp
  obtain ⟨a', c', rfl, hlc, hcell⟩ := h
  by_cases hne : l.length = 0
  · have hnil : l = [] := List.length_eq_zero_iff.1 hne
    subst hnil
    clear hcell
    go_enter Tryz.func83, Tryz.ntmps83
    go_wp2_with fail
    go_loop [8] (fun i => i = .int .i64 0) (fun i => 0)
    case atStart => rfl
    case round =>
      subst hrel
      go_wp2_with fail
      go_ret
      exact ⟨-1, rfl, rfl, rfl⟩
  · obtain ⟨b, off, rfl, hlt, hc⟩ := hcell (by omega)
    have Hc : Hid (∀ k, k < l.length → w.cell? ⟨b, off + k, none⟩ = some (.int .i64 (l.getD k 0))) := fun k hk => by rw [hc k (by rw [ints_length]; exact hk), ints_at l k hk]
    clear hcell hc
    go_enter Tryz.func83, Tryz.ntmps83
    go_wp2_with fail
    go_loop [8] (fun i => ∃ k : Nat, k ≤ l.length ∧ i = .int .i64 k ∧ Hid ((l.take k).any (outB len) = false)) (fun i => l.length - (intOf i).toNat)
    case atStart => exact ⟨0, Nat.zero_le _, rfl, rfl⟩
    case round =>
      obtain ⟨k, hk, rfl, hno⟩ := hrel
      by_cases hkl : k < l.length
      · have hc := Hc.out k hkl
        have Hn := Lib.hid (any_next 0 l (outB len) k hkl hno.out)
        have Hy := Lib.hid (any_hit 0 l (outB len) k hkl)
        generalize l.getD k 0 = x at *
        go_wp2_with fail
        refine (HT.out x).mono ?_
        rintro e w' ⟨rfl, rfl⟩
        obtain ⟨bb, hbb⟩ : ∃ bb, outB len x = bb := ⟨_, rfl⟩
        have Hbb := Lib.hid hbb
        rw [hbb]
        clear hbb
        cases bb
        · have hN : Hid ((l.take (k + 1)).any (outB len) = false) := Hn.out Hbb.out
          go_wp2_with fail
          go_round
          case rel => exact ⟨k + 1, by omega, by go_num, hN⟩
          case measure => simp [intOf]; omega
        · go_wp2_with fail
          go_ret
          exact ⟨k, rfl, by rw [Hy.out Hbb.out]; simp, rfl⟩
      · go_wp2_with fail
        go_ret
        refine ⟨-1, rfl, ?_, rfl⟩
        have := hno.out
        rw [List.take_of_length_le (by omega)] at this
        rw [this]; rfl
theorem containsOut_any (v : Value) (l : List Int) (cp lc dp : Int) (len : Nat) (B : Nat) (w : World) (hlen : len ≤ 1000000) (a : Option Addr) (c : Nat) (h : IsRow w v l.length (ints l)) (hl : l.length ≤ 1000000)
    (hp : w.heap[B]? = some (.cells #[.int .i64 cp, .int .i64 lc, .int .i64 dp, .slice a len c] 43 (0, 0))) :
    Calls Tryz.prog 64 #[v, .func (.func 65) #[] #[.pointer (some ⟨B, 0, none⟩)]] w fun e w' => e = .returned (.bool (l.any (outB len))) ∧ w = w' := by
  have H := Lib.hid (indexOut_any v l cp lc dp len B w hlen a c h hl hp)
  clear hp
  go_enter Tryz.func64, Tryz.ntmps64
  go_wp2_with fail
  refine H.out.mono ?_
  rintro e w' ⟨r, rfl, hr, rfl⟩
  have Hr := Lib.hid hr
  clear hr
  go_wp2_with fail
  go_ret
  exact ⟨ret_bool Hr.out, rfl⟩

theorem isRow_one (w : World) (z : Int) (t : TypeId) (n : Nat) (hn : w.heap.size = n) : IsRow (w.alloc (.cells #[.int .i64 z] t)) (.slice (some ⟨n, 0, none⟩) 1 1) [z].length (ints [z]) := by
  subst hn; exact isRow_alloc w 1 (ints [z]) t
theorem heap_two (w : World) (a b c : Obj) : (((w.alloc a).alloc b).alloc c).heap[w.heap.size]? = some a := by
  rw [Below.heap_alloc _ _ _ (by simp; omega), Below.heap_alloc _ _ _ (by simp)]
  simp [World.alloc, -World.alloc_eq]
theorem info_int : (Tryz.prog.info? 3).map (fun i => (i.zero, i.size, i.bytes)) = some (some (.int .i64 0), 1, 8) := by kernel_rfl
/-- The n places behind a switch. -/
def tgNext (k n : Nat) : List Int := (List.range n).map fun (j : Nat) => (k : Int) + 1 + j
theorem tgNext_length (k n : Nat) : (tgNext k n).length = n := by simp [tgNext]
theorem tgNext_succ (k n : Nat) : tgNext k (n + 1) = tgNext k n ++ [(k : Int) + 1 + n] := by simp [tgNext, List.range_succ]
def TgLoop (k n : Nat) (B : Nat) (W : World) (v iv : Value) (wr : World) : Prop :=
  ∃ j : Nat, iv = .int .i64 j ∧ j ≤ n ∧ wr.ownsRow B 3 1 v j (ints (tgNext k j)) ∧ Below B W wr
/-- A row that lies in the blocks from B on. -/
def RowF (B : Nat) (w : World) (v : Value) (n : Nat) (xs : List Value) : Prop := IsRow w v n xs ∧ ∀ b off sp m c, v = .slice (some ⟨b, off, sp⟩) m c → B ≤ b
theorem rowF_nil (B : Nat) (w : World) : RowF B w (.slice none 0 0) 0 [] := ⟨isRow_nil w, fun b off sp m c h => by cases h⟩
theorem owns_ge {V : World} {B : Nat} {e : TypeId} {s n : Nat} {v : Value} {xs : List Value} (h : V.ownsRow B e s v n xs) (b off : Nat) (sp) (m c : Nat) (hv : v = .slice (some ⟨b, off, sp⟩) m c) : B ≤ b := by
  obtain ⟨_, h2⟩ := h
  rcases h2 with ⟨rfl, _⟩ | ⟨g, cap, cur, rfl, hb, _⟩
  · cases hv
  · have e : g = b := by have := (Value.slice.inj hv).1; simp at this; exact this.1
    subst e; exact hb
def TgOk (code : List Ins) (at_ : Int) (w : World) (e : Ending) (w' : World) : Prop :=
  ∃ v, e = .returned (.tuple #[v, .int .i64 (tgT code at_).2]) ∧ RowF w.heap.size w' v (tgT code at_).1.length (ints (tgT code at_).1) ∧ Below w.heap.size w w'
set_option maxHeartbeats 2000000 in
set_option maxRecDepth 100000 in
theorem targets_any (cp lc dp at_ : Int) (v : Value) (code : List Ins) (w : World) (h : IsCode w v code) (hl : code.length ≤ 1000000) :
    Calls Tryz.prog 34 #[.agg #[.int .i64 cp, .int .i64 lc, .int .i64 dp, v], .int .i64 at_] w (TgOk code at_ w) := by
  obtain ⟨a, c, rfl, hlc, hcell⟩ := h
  by_cases hr : at_ < 0 ∨ (code.length : Int) ≤ at_
  · have ht : Hid (tgT code at_ = ([], 2)) := by show _ = _; unfold tgT; rw [if_pos hr]
    clear hcell
    rcases hr with hr | hr
    · go_enter Tryz.func34, Tryz.ntmps34
      go_wp2_with fail
      go_ret2
      exact ⟨_, by rw [ht.out]; rfl, by rw [ht.out]; exact rowF_nil _ _, (Below.refl _ _).alloc (Nat.le_refl _) _⟩
    · go_enter Tryz.func34, Tryz.ntmps34
      go_wp2_with fail
      go_ret2
      exact ⟨_, by rw [ht.out]; rfl, by rw [ht.out]; exact rowF_nil _ _, (Below.refl _ _).alloc (Nat.le_refl _) _⟩
  · obtain ⟨k, rfl⟩ := Int.eq_ofNat_of_zero_le (show 0 ≤ at_ by omega)
    have hk : k < code.length := by omega
    obtain ⟨b, off, rfl, hlt, hc⟩ := hcell (by omega)
    obtain ⟨c0, c1, c2⟩ := insCells_at code k hk
    have hlen := insCells_length code
    have e0 := hc (k * 3) (by omega)
    have e1 := hc (k * 3 + 1) (by omega)
    have e2 := hc (k * 3 + 2) (by omega)
    rw [c0] at e0; rw [c1, ← Nat.add_assoc] at e1; rw [c2, ← Nat.add_assoc] at e2
    obtain ⟨i, hi⟩ : ∃ i, i = code.getD k default := ⟨_, rfl⟩
    rw [← hi] at e0 e1 e2
    have Hi := Lib.hid hi
    obtain ⟨op, x, y⟩ := i
    simp only at e0 e1 e2
    clear hcell hc c0 c1 c2 hlen hi hr
    go_enter Tryz.func34, Tryz.ntmps34
    go_wp2_with fail
    refine (known_any _ _).mono ?_
    rintro e w' ⟨rfl, rfl⟩
    obtain ⟨bb, hbb⟩ : ∃ bb, knownB op = bb := ⟨_, rfl⟩
    have Hbb := Lib.hid hbb
    rw [hbb]
    clear hbb
    have ht0 : tgT code (k : Int) = if bb = false then ([], 2) else if op = 13 ∧ inB y 1 1000 = false then ([], 24) else if (tgL ⟨op, x, y⟩ k).any (outB code.length) then ([], 24) else (tgL ⟨op, x, y⟩ k, 0) := by
      unfold tgT
      rw [if_neg (by omega), Int.toNat_natCast, ← Hi.out, ← Hbb.out]
    have Ht := Lib.hid ht0
    clear ht0 Hi
    cases bb
    · have ht : Hid (tgT code (k : Int) = ([], 2)) := Ht.out
      go_wp2_with fail
      go_ret2
      exact ⟨_, by rw [ht.out]; rfl, by rw [ht.out]; exact rowF_nil _ _, (Below.refl _ _).alloc (Nat.le_refl _) _⟩
    · by_cases h9 : op = 9 ∨ op = 16
      · have ht : Hid (tgT code (k : Int) = ([], 0)) := by
          show _ = _
          rw [Ht.out, if_neg (by simp), if_neg (by omega)]
          unfold tgL; rw [if_pos h9]; rfl
        rcases h9 with rfl | rfl
        all_goals
          go_wp2_with fail
          go_ret2
          exact ⟨_, by rw [ht.out]; rfl, by rw [ht.out]; exact rowF_nil _ _, ((Below.refl _ _).alloc (Nat.le_refl _) _).alloc (by simp) _⟩
      · by_cases h14 : op = 14
        · subst h14
          have hL : Hid (tgL ⟨14, x, y⟩ k = [x]) := rfl
          go_wp2_with fail
          have hI := isRow_one ((w.alloc (.cells #[.int .i64 cp, .int .i64 lc, .int .i64 dp, .slice (some ⟨b, off, none⟩) code.length c] 43)).alloc (.cells #[.int .i64 14, .int .i64 x, .int .i64 y] 57)) (x) 3 (w.heap.size + 1 + 1) (by simp)
          have hp := heap_two w (.cells #[.int .i64 cp, .int .i64 lc, .int .i64 dp, .slice (some ⟨b, off, none⟩) code.length c] 43) (.cells #[.int .i64 14, .int .i64 x, .int .i64 y] 57) (.cells #[.int .i64 (x)] 3)
          have hB : Below w.heap.size w (((w.alloc (.cells #[.int .i64 cp, .int .i64 lc, .int .i64 dp, .slice (some ⟨b, off, none⟩) code.length c] 43)).alloc (.cells #[.int .i64 14, .int .i64 x, .int .i64 y] 57)).alloc (.cells #[.int .i64 (x)] 3)) := (((Below.refl _ _).alloc (Nat.le_refl _) _).alloc (by simp) _).alloc (by simp; omega) _
          refine (containsOut_any _ [x] cp lc dp code.length w.heap.size _ hl _ c hI (by simp) hp).mono ?_
          rintro e w' ⟨rfl, hw'⟩
          rw [← hw']
          clear hw' hp
          generalize ((w.alloc (.cells #[.int .i64 cp, .int .i64 lc, .int .i64 dp, .slice (some ⟨b, off, none⟩) code.length c] 43)).alloc (.cells #[.int .i64 14, .int .i64 x, .int .i64 y] 57)).alloc (.cells #[.int .i64 (x)] 3) = W at hI hB ⊢
          obtain ⟨bb, hbb⟩ : ∃ bb, [x].any (outB code.length) = bb := ⟨_, rfl⟩
          have Hb2 := Lib.hid hbb
          rw [hbb]
          clear hbb
          cases bb
          · have ht : Hid (tgT code (k : Int) = ([x], 0)) := by
              show _ = _
              rw [Ht.out, if_neg (by simp), if_neg (by omega), hL.out, Hb2.out]; rfl
            go_wp2_with fail
            go_ret2
            exact ⟨_, by rw [ht.out]; rfl, by rw [ht.out]; exact ⟨hI, fun b o sp m c hv => by have := (Value.slice.inj hv).1; simp at this; omega⟩, hB⟩
          · have ht : Hid (tgT code (k : Int) = ([], 24)) := by
              show _ = _
              rw [Ht.out, if_neg (by simp), if_neg (by omega), hL.out, Hb2.out]; rfl
            go_wp2_with fail
            go_ret2
            exact ⟨.slice none 0 0, by rw [ht.out]; rfl, by rw [ht.out]; exact rowF_nil _ _, hB⟩
        · by_cases h13 : op = 13
          · subst h13
            obtain ⟨bb, hbb⟩ : ∃ bb, inB y 1 1000 = bb := ⟨_, rfl⟩
            have Hy := Lib.hid hbb
            cases bb
            · have ht : Hid (tgT code (k : Int) = ([], 24)) := by
                show _ = _
                rw [Ht.out, if_neg (by simp), if_pos ⟨rfl, hbb⟩]
              clear hbb
              go_wp2_with fail
              refine (within_any _ _ _ _).mono ?_
              rintro e w' ⟨rfl, rfl⟩
              rw [Hy.out]
              go_wp2_with fail
              go_ret2
              exact ⟨_, by rw [ht.out]; rfl, by rw [ht.out]; exact rowF_nil _ _, ((Below.refl _ _).alloc (Nat.le_refl _) _).alloc (by simp) _⟩
            · obtain ⟨y1, y2⟩ : 1 ≤ y ∧ y ≤ 1000 := by
                unfold inB at hbb; simpa using hbb
              clear hbb
              obtain ⟨n, rfl⟩ := Int.eq_ofNat_of_zero_le (show 0 ≤ y by omega)
              have hL : Hid (tgL ⟨13, x, n⟩ k = tgNext k n) := rfl
              obtain ⟨i0, hi, hz0, hz1, hz2⟩ := info_parts info_int
              go_wp2_with fail
              refine (within_any _ _ _ _).mono ?_
              rintro e w' ⟨rfl, rfl⟩
              rw [Hy.out]
              go_wp2_with fail
              go_loopw [7, 54] (fun v iv wr => TgLoop k n (w.heap.size + 1 + 1) ((w.alloc (.cells #[.int .i64 cp, .int .i64 lc, .int .i64 dp, .slice (some ⟨b, off, none⟩) code.length c] 43)).alloc (.cells #[.int .i64 13, .int .i64 x, .int .i64 n] 57)) v iv wr) (fun _ iv _ => n - (intOf iv).toNat)
              case atStart => exact ⟨0, rfl, Nat.zero_le _, ⟨rfl, .inl ⟨rfl, rfl⟩⟩, Below.refl _ _⟩
              case round =>
                obtain ⟨j, rfl, hj, hown, hbr⟩ := hrel
                have Hown := Lib.hid hown
                clear hown
                have hwz : w.heap.size + 1 + 1 ≤ wr.heap.size := by have := hbr.size; simpa using this
                by_cases hjn : j < n
                · go_wp2_with (at_builtin; refine wpList_append_own _ rfl _ _ 83 rfl (w.heap.size + 1 + 1) 3 i0 (.int .i64 0) 1 8 Tryz.underlying83 hi hz0 hz1 hz2 rfl (by decide) _ j (ints (tgNext k j)) rfl (Hown.out.alloc _) ⟨wr.heap.size, 0, none⟩ 1 1 [.int .i64 ((k : Int) + 1 + j)] rfl rfl ?c1 ?c2 ?c3 ?c4 ?c5 ?_)
                  case c1 => exact cell_one_new _ _ _
                  case c2 => intro u hu; simp at hu; subst hu; rfl
                  case c3 => unfold maxLen; omega
                  case c4 => omega
                  case c5 => simp; omega
                  intro v' w1 hown1 hgrow1 _
                  have hb1 : Hid (Below (w.heap.size + 1 + 1) _ w1) := (hbr.alloc hwz _).grown hgrow1 (by simp; omega) (fun g hg => own_ge Hown.out hg)
                  have hown2 : Hid (w1.ownsRow (w.heap.size + 1 + 1) 3 1 v' (j + 1) (ints (tgNext k (j + 1)))) := by
                    show World.ownsRow _ _ _ _ _ _ _
                    rw [tgNext_succ]; unfold ints at hown1 ⊢; rw [List.map_append]; exact hown1
                  clear hown1 hgrow1 hbr
                  go_wp2_with fail
                  go_roundw
                  case rel => exact ⟨j + 1, by go_num, by omega, hown2.out, hb1.out⟩
                  case measure => simp [intOf]; omega
                · obtain rfl : j = n := by omega
                  have hI := isRow_owns' Hown.out (tgNext_length k j).symm
                  have hp : wr.heap[w.heap.size]? = some (.cells #[.int .i64 cp, .int .i64 lc, .int .i64 dp, .slice (some ⟨b, off, none⟩) code.length c] 43 (0, 0)) := by
                    rw [hbr.block w.heap.size (by omega), Below.heap_alloc _ _ _ (by simp)]
                    simp [World.alloc, -World.alloc_eq]
                  have hB : Below w.heap.size w wr := (((Below.refl _ _).alloc (Nat.le_refl _) _).alloc (by simp) _).trans (hbr.mono (by omega))
                  have Hp := Lib.hid hp
                  have HI := Lib.hid hI
                  clear hp hI
                  go_wp2_with fail
                  refine (containsOut_any _ (tgNext k j) cp lc dp code.length w.heap.size _ hl _ c HI.out (by rw [tgNext_length]; omega) Hp.out).mono ?_
                  rintro e w' ⟨rfl, rfl⟩
                  obtain ⟨bb, hbb⟩ : ∃ bb, (tgNext k j).any (outB code.length) = bb := ⟨_, rfl⟩
                  have Hb2 := Lib.hid hbb
                  rw [hbb]
                  clear hbb
                  cases bb
                  · have ht : Hid (tgT code (k : Int) = (tgNext k j, 0)) := by
                      show _ = _
                      rw [Ht.out, if_neg (by simp), if_neg (by rw [Hy.out]; simp), hL.out, Hb2.out]; rfl
                    have hI := HI.out
                    go_wp2_with fail
                    go_ret2
                    exact ⟨_, by rw [ht.out]; rfl, by rw [ht.out]; exact ⟨hI, fun b o sp m c hv => by have := owns_ge Hown.out b o sp m c hv; omega⟩, hB⟩
                  · have ht : Hid (tgT code (k : Int) = ([], 24)) := by
                      show _ = _
                      rw [Ht.out, if_neg (by simp), if_neg (by rw [Hy.out]; simp), hL.out, Hb2.out]; rfl
                    go_wp2_with fail
                    go_ret2
                    exact ⟨.slice none 0 0, by rw [ht.out]; rfl, by rw [ht.out]; exact rowF_nil _ _, hB⟩
          · have hL : Hid (tgL ⟨op, x, y⟩ k = [(k : Int) + 1]) := by
              show _ = _
              unfold tgL; rw [if_neg h9, if_neg h14, if_neg h13]
            have n9 : (op == 9) = false := by rw [beq_eq_false_iff_ne]; omega
            have n16 : (op == 16) = false := by rw [beq_eq_false_iff_ne]; omega
            have n14 : (op == 14) = false := by rw [beq_eq_false_iff_ne]; omega
            have n13 : (op == 13) = false := by rw [beq_eq_false_iff_ne]; omega
            go_wp2_with fail
            have hI := isRow_one ((w.alloc (.cells #[.int .i64 cp, .int .i64 lc, .int .i64 dp, .slice (some ⟨b, off, none⟩) code.length c] 43)).alloc (.cells #[.int .i64 op, .int .i64 x, .int .i64 y] 57)) ((k : Int) + 1) 3 (w.heap.size + 1 + 1) (by simp)
            have hp := heap_two w (.cells #[.int .i64 cp, .int .i64 lc, .int .i64 dp, .slice (some ⟨b, off, none⟩) code.length c] 43) (.cells #[.int .i64 op, .int .i64 x, .int .i64 y] 57) (.cells #[.int .i64 ((k : Int) + 1)] 3)
            have hB : Below w.heap.size w (((w.alloc (.cells #[.int .i64 cp, .int .i64 lc, .int .i64 dp, .slice (some ⟨b, off, none⟩) code.length c] 43)).alloc (.cells #[.int .i64 op, .int .i64 x, .int .i64 y] 57)).alloc (.cells #[.int .i64 ((k : Int) + 1)] 3)) := (((Below.refl _ _).alloc (Nat.le_refl _) _).alloc (by simp) _).alloc (by simp; omega) _
            refine (containsOut_any _ [(k : Int) + 1] cp lc dp code.length w.heap.size _ hl _ c hI (by simp) hp).mono ?_
            rintro e w' ⟨rfl, hw'⟩
            rw [← hw']
            clear hw' hp
            generalize ((w.alloc (.cells #[.int .i64 cp, .int .i64 lc, .int .i64 dp, .slice (some ⟨b, off, none⟩) code.length c] 43)).alloc (.cells #[.int .i64 op, .int .i64 x, .int .i64 y] 57)).alloc (.cells #[.int .i64 ((k : Int) + 1)] 3) = W at hI hB ⊢
            obtain ⟨bb, hbb⟩ : ∃ bb, [(k : Int) + 1].any (outB code.length) = bb := ⟨_, rfl⟩
            have Hb2 := Lib.hid hbb
            rw [hbb]
            clear hbb
            cases bb
            · have ht : Hid (tgT code (k : Int) = ([(k : Int) + 1], 0)) := by
                show _ = _
                rw [Ht.out, if_neg (by simp), if_neg (by omega), hL.out, Hb2.out]; rfl
              go_wp2_with fail
              go_ret2
              exact ⟨_, by rw [ht.out]; rfl, by rw [ht.out]; exact ⟨hI, fun b o sp m c hv => by have := (Value.slice.inj hv).1; simp at this; omega⟩, hB⟩
            · have ht : Hid (tgT code (k : Int) = ([], 24)) := by
                show _ = _
                rw [Ht.out, if_neg (by simp), if_neg (by omega), hL.out, Hb2.out]; rfl
              go_wp2_with fail
              go_ret2
              exact ⟨.slice none 0 0, by rw [ht.out]; rfl, by rw [ht.out]; exact rowF_nil _ _, hB⟩

def wordL : List ByteArray := [⟨#[]⟩, ⟨#[105, 110, 116]⟩, ⟨#[116, 101, 120, 116]⟩, ⟨#[108, 111, 99, 97, 108]⟩, ⟨#[115, 116, 111, 114, 101]⟩, ⟨#[99, 97, 112, 116, 117, 114, 101]⟩, ⟨#[115, 101, 108, 102]⟩, ⟨#[99, 108, 111, 115, 117, 114, 101]⟩, ⟨#[99, 97, 108, 108]⟩, ⟨#[114, 101, 116, 117, 114, 110]⟩, ⟨#[98, 108, 111, 99, 107]⟩, ⟨#[102, 105, 101, 108, 100]⟩, ⟨#[116, 97, 103]⟩, ⟨#[115, 119, 105, 116, 99, 104]⟩, ⟨#[106, 117, 109, 112]⟩, ⟨#[112, 114, 105, 109]⟩, ⟨#[102, 97, 105, 108]⟩]
def wordS (op : Int) : ByteArray := if 1 ≤ op ∧ op ≤ 16 then wordL.getD op.toNat ByteArray.empty else ⟨#[]⟩
theorem known_word (op : Int) (h : knownB op = true) : (wordS op).toList.isEmpty = false := by
  have h2 : 1 ≤ op ∧ op ≤ 16 := by unfold knownB inB at h; simpa using h
  rcases op_cases op with rfl | rfl | rfl | rfl | rfl | rfl | rfl | rfl | rfl | rfl | rfl | rfl | rfl | rfl | rfl | rfl | h3
  all_goals first | (rw [Go.ByteArray.toList_eq]; rfl) | (exfalso; omega)
theorem unknown_word (op : Int) (h : knownB op = false) : wordS op = ⟨#[]⟩ := by
  unfold wordS
  rw [if_neg]
  intro h2
  unfold knownB inB at h
  simp [h2.1, h2.2] at h

theorem word_cell (w w' : World) (hw : w' = w.alloc (.cells (wordL.map Value.string).toArray 9)) (k : Nat) (h5 : k ≤ 16) : w'.cell? ⟨w.heap.size, k, none⟩ = some (.string (wordL.getD k ByteArray.empty)) := by
  rw [hw, cell_new]
  have : k < wordL.length := by show k < 17; omega
  simp [List.getD, this]
set_option maxRecDepth 100000 in
theorem word_any (op : Int) (w : World) :
    Calls Tryz.prog 53 #[.int .i64 op] w fun e w' => e = .returned (.string (wordS op)) ∧ Below w.heap.size w w' := by
  by_cases h : op < 1 ∨ 16 < op
  · have hw : Hid (wordS op = ⟨#[]⟩) := by show _ = _; unfold wordS; rw [if_neg (by omega)]
    rcases h with h | h
    all_goals
      go_enter Tryz.func53, Tryz.ntmps53
      go_wp2_with fail
      go_ret
      exact ⟨by rw [hw.out]; rfl, (Below.refl _ _).alloc (Nat.le_refl _) _⟩
  · obtain ⟨k, rfl⟩ := Int.eq_ofNat_of_zero_le (show 0 ≤ op by omega)
    have hk : k ≤ 16 := by omega
    have hk1 : 1 ≤ k := by omega
    have hw : Hid (wordS k = wordL.getD k ByteArray.empty) := by show _ = _; unfold wordS; rw [if_pos (by omega)]; rfl
    have hc := word_cell w _ rfl k hk
    simp only [wordL, List.map_cons, List.map_nil] at hc
    generalize hx : List.getD _ k ByteArray.empty = x at hc
    have Hx := Lib.hid hx
    clear h hx
    go_enter Tryz.func53, Tryz.ntmps53
    go_wp2_with fail
    go_ret
    refine ⟨?_, (Below.refl _ _).alloc (Nat.le_refl _) _⟩
    rw [hw.out, ← Hx.out]
    rfl
theorem new_heap (w : World) (o : Obj) : (w.alloc o).heap[w.heap.size]? = some o := by simp [World.alloc, -World.alloc_eq]
end Go.Proofs.YtidolpcbbbakmaaGreat

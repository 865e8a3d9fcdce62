/- The depth of code: what a list of work shows (plain law). -/
import Derived.Test.YtidolpcbbbakmaaDc4
namespace Go.Proofs.Ytidolpcbbbakmaa
open Go Go.RowKit

def pops (code : List Ins) (at_ : Nat) : Int := (effT (code.getD at_ default).op (code.getD at_ default).a (code.getD at_ default).b).1
def pushes (code : List Ins) (at_ : Nat) : Int := (effT (code.getD at_ default).op (code.getD at_ default).a (code.getD at_ default).b).2.1
def effE (code : List Ins) (at_ : Nat) : Int := (effT (code.getD at_ default).op (code.getD at_ default).a (code.getD at_ default).b).2.2
def tgs (code : List Ins) (at_ : Nat) : List Int := (tgT code at_).1
def tgE (code : List Ins) (at_ : Nat) : Int := (tgT code at_).2
def OkAt (code : List Ins) (at_ : Nat) (d : Int) : Prop := effE code at_ = 0 ∧ tgE code at_ = 0 ∧ pops code at_ ≤ d
def aft (code : List Ins) (at_ : Nat) (d : Int) : Int := d - pops code at_ + pushes code at_
inductive Reach (code : List Ins) : Nat → Int → Prop
  | start : Reach code 0 0
  | step {at_ : Nat} {d t : Int} : Reach code at_ d → OkAt code at_ d → t ∈ tgs code at_ → Reach code t.toNat (aft code at_ d)
def Bad (code : List Ins) : Prop := (∃ a d, Reach code a d ∧ ¬ OkAt code a d) ∨ ∃ a d d', Reach code a d ∧ Reach code a d' ∧ d ≠ d'
def Most (code : List Ins) (m : Int) : Prop := 0 ≤ m ∧ (∀ a d, Reach code a d → d ≤ m ∧ aft code a d ≤ m) ∧ (m = 0 ∨ ∃ a d, Reach code a d ∧ (m = d ∨ m = aft code a d))
def DepOk (code : List Ins) (r e : Int) : Prop := if code.length = 0 then r = 0 ∧ e = 24 else (r = 0 ∧ e = 24 ∧ Bad code) ∨ (e = 0 ∧ ¬ Bad code ∧ Most code r)
theorem dep_one (code : List Ins) (r e r' e' : Int) (h : DepOk code r e) (h' : DepOk code r' e') : r = r' ∧ e = e' := by
  unfold DepOk at h h'
  by_cases h0 : code.length = 0
  · rw [if_pos h0] at h h'
    exact ⟨h.1.trans h'.1.symm, h.2.trans h'.2.symm⟩
  · rw [if_neg h0] at h h'
    rcases h with ⟨rfl, rfl, hb⟩ | ⟨rfl, hn, m1, m2, m3⟩
    · rcases h' with ⟨rfl, rfl, _⟩ | ⟨_, hn, _⟩
      · exact ⟨rfl, rfl⟩
      · exact absurd hb hn
    · rcases h' with ⟨_, _, hb⟩ | ⟨rfl, _, k1, k2, k3⟩
      · exact absurd hb hn
      · refine ⟨?_, rfl⟩
        have a1 : r ≤ r' := by
          rcases m3 with rfl | ⟨a, d, hr, h | h⟩
          · exact k1
          · rw [h]; exact (k2 a d hr).1
          · rw [h]; exact (k2 a d hr).2
        have a2 : r' ≤ r := by
          rcases k3 with rfl | ⟨a, d, hr, h | h⟩
          · exact m1
          · rw [h]; exact (m2 a d hr).1
          · rw [h]; exact (m2 a d hr).2
        omega
/-- What an instruction takes and puts lies in bounds. -/
theorem eff_bounds (op a b : Int) : 0 ≤ (effT op a b).1 ∧ (effT op a b).1 ≤ 1000 ∧ 0 ≤ (effT op a b).2.1 ∧ (effT op a b).2.1 ≤ 1 ∧ 0 ≤ (effT op a b).2.2 ∧ (effT op a b).2.2 ≤ 2 := by
  unfold effT
  repeat' split
  all_goals try decide
  all_goals rename_i h
  · unfold inB at h; simp at h; simp only; omega
  · unfold inB at h; simp at h; simp only; omega
  · have := (arity_pos a).2 h; simp only; omega
theorem pops_bounds (code : List Ins) (k : Nat) : 0 ≤ pops code k ∧ pops code k ≤ 1000 ∧ 0 ≤ pushes code k ∧ pushes code k ≤ 1 := by
  have := eff_bounds (code.getD k default).op (code.getD k default).a (code.getD k default).b
  exact ⟨this.1, this.2.1, this.2.2.1, this.2.2.2.1⟩
/-- Where code leads to, without a fault, is code. -/
theorem tgs_in (code : List Ins) (k : Nat) (h : tgE code k = 0) (t : Int) (ht : t ∈ tgs code k) : 0 ≤ t ∧ t < code.length := by
  have key : tgT code k = ([], 2) ∨ tgT code k = ([], 24) ∨ ((tgT code k).1.any (outB code.length) = false) := by
    unfold tgT
    by_cases c1 : ((k : Int) < 0 ∨ (code.length : Int) ≤ (k : Int))
    · rw [if_pos c1]; exact .inl rfl
    · rw [if_neg c1]
      simp only
      by_cases c2 : knownB (code.getD (k : Int).toNat default).op = false
      · rw [if_pos c2]; exact .inl rfl
      · rw [if_neg c2]
        by_cases c3 : (code.getD (k : Int).toNat default).op = 13 ∧ inB (code.getD (k : Int).toNat default).b 1 1000 = false
        · rw [if_pos c3]; exact .inr (.inl rfl)
        · rw [if_neg c3]
          cases c4 : (tgL (code.getD (k : Int).toNat default) (k : Int).toNat).any (outB code.length)
          · exact .inr (.inr (by simpa using c4))
          · exact .inr (.inl (by simp))
  unfold tgE at h
  unfold tgs at ht
  rcases key with e | e | e
  · rw [e] at h; cases h
  · rw [e] at h; cases h
  · have h4 := List.any_eq_false.1 e t ht
    unfold outB inB at h4
    simp at h4
    omega
theorem tgs_len (code : List Ins) (k : Nat) : (tgs code k).length ≤ 1000 := by
  unfold tgs tgT
  by_cases c1 : ((k : Int) < 0 ∨ (code.length : Int) ≤ (k : Int))
  · rw [if_pos c1]; simp
  · rw [if_neg c1]
    simp only
    by_cases c2 : knownB (code.getD (k : Int).toNat default).op = false
    · rw [if_pos c2]; simp
    · rw [if_neg c2]
      by_cases c3 : (code.getD (k : Int).toNat default).op = 13 ∧ inB (code.getD (k : Int).toNat default).b 1 1000 = false
      · rw [if_pos c3]; simp
      · rw [if_neg c3]
        by_cases c4 : (tgL (code.getD (k : Int).toNat default) (k : Int).toNat).any (outB code.length) = true
        · rw [if_pos c4]; simp
        · rw [if_neg c4]
          simp only
          unfold tgL
          split
          · simp
          · split
            · simp
            · split
              · rename_i h13
                simp only [List.length_map, List.length_range]
                have : inB (code.getD (k : Int).toNat default).b 1 1000 = true := by
                  cases h : inB (code.getD (k : Int).toNat default).b 1 1000
                  · exact absurd ⟨h13, h⟩ c3
                  · rfl
                unfold inB at this; simp only [Bool.and_eq_true, decide_eq_true_eq] at this; omega
              · simp
def unl (bs : List Int) : Nat := bs.count (-1)
/-- What holds of the labels, the places to do, and the greatest depth; 'cur' is at work: k of its targets are done. -/
structure Inv (code : List Ins) (bs : List Int) (todo : List Nat) (m : Int) (cur : Option Nat) (k : Nat) : Prop where
  len : bs.length = code.length
  zero : bs.getD 0 (-1) = 0
  lab : ∀ a, a < code.length → bs.getD a (-1) ≠ -1 → 0 ≤ bs.getD a (-1) ∧ Reach code a (bs.getD a (-1)) ∧ bs.getD a (-1) + (unl bs : Int) ≤ (code.length : Int) - 1
  inn : ∀ t ∈ todo, t < code.length ∧ bs.getD t (-1) ≠ -1
  done : ∀ a, a < code.length → bs.getD a (-1) ≠ -1 → a ∉ todo → cur ≠ some a → OkAt code a (bs.getD a (-1)) ∧ (∀ t ∈ tgs code a, bs.getD t.toNat (-1) = aft code a (bs.getD a (-1))) ∧ bs.getD a (-1) ≤ m ∧ aft code a (bs.getD a (-1)) ≤ m
  m0 : 0 ≤ m
  att : m = 0 ∨ ∃ a d, Reach code a d ∧ (m = d ∨ m = aft code a d)
  now : ∀ c, cur = some c → c < code.length ∧ bs.getD c (-1) ≠ -1 ∧ OkAt code c (bs.getD c (-1)) ∧ bs.getD c (-1) ≤ m ∧ aft code c (bs.getD c (-1)) ≤ m ∧ ∀ t ∈ (tgs code c).take k, bs.getD t.toNat (-1) = aft code c (bs.getD c (-1))
theorem aft_nonneg {code : List Ins} {a : Nat} {d : Int} (h : OkAt code a d) : 0 ≤ aft code a d := by
  have := pops_bounds code a; have := h.2.2; unfold aft; omega
theorem aft_le {code : List Ins} {a : Nat} {d : Int} : aft code a d ≤ d + 1 := by
  have := pops_bounds code a; unfold aft; omega
theorem start_unl (code : List Ins) (h : 0 < code.length) : unl ((List.replicate code.length (-1)).set 0 0) + 1 = code.length := by
  obtain ⟨n, hn⟩ : ∃ n, code.length = n + 1 := ⟨code.length - 1, by omega⟩
  rw [hn]
  show List.count (-1) (((-1 : Int) :: List.replicate n (-1)).set 0 0) + 1 = n + 1
  simp
theorem inv_start (code : List Ins) (h : 0 < code.length) : Inv code ((List.replicate code.length (-1)).set 0 0) [0] 0 none 0 := by
  have hg : ∀ a, ((List.replicate code.length (-1 : Int)).set 0 0).getD a (-1) = if a = 0 then 0 else -1 := fun a => by
    simp only [List.getD_eq_getElem?_getD, List.getElem?_set, List.length_replicate]
    by_cases ha : a = 0
    · subst ha; simp [h]
    · rw [if_neg (Ne.symm ha), if_neg ha]
      cases hq : (List.replicate code.length (-1 : Int))[a]? with
      | none => rfl
      | some x => have := List.mem_of_getElem? hq; rw [List.mem_replicate] at this; simpa using this.2
  have hu := start_unl code h
  refine ⟨by simp, by rw [hg]; rfl, fun a ha hne => ?_, fun t ht => ?_, fun a ha hne hnt _ => ?_, by decide, .inl rfl, fun c hc => by cases hc⟩
  · rw [hg] at hne ⊢
    by_cases h0 : a = 0
    · subst h0; rw [if_pos rfl]; exact ⟨by decide, .start, by omega⟩
    · rw [if_neg h0] at hne; exact absurd rfl hne
  · obtain rfl : t = 0 := by simpa using ht
    exact ⟨h, by rw [hg]; decide⟩
  · rw [hg] at hne
    by_cases h0 : a = 0
    · subst h0; exact absurd (List.mem_singleton.2 rfl) hnt
    · rw [if_neg h0] at hne; exact absurd rfl hne
/-- A place is taken up. -/
theorem Inv.take {code : List Ins} {bs : List Int} {todo rest : List Nat} {m : Int} (h : Inv code bs todo m none 0) (c : Nat) (hc : c ∈ todo) (h1 : ∀ t ∈ todo, t = c ∨ t ∈ rest) (h2 : ∀ t ∈ rest, t ∈ todo) (hok : OkAt code c (bs.getD c (-1))) (m' : Int) (hm : m' = max (max m (bs.getD c (-1))) (aft code c (bs.getD c (-1)))) : Inv code bs rest m' (some c) 0 := by
  obtain ⟨hl, hne⟩ := h.inn c hc
  have hlab := h.lab c hl hne
  refine ⟨h.len, h.zero, h.lab, fun t ht => h.inn t (h2 t ht), fun a ha hn hnt hca => ?_, by have := h.m0; omega, ?_, fun c' hc' => ?_⟩
  · have hnt' : a ∉ todo := fun ht => by
      rcases h1 a ht with e | e
      · exact hca (by rw [e])
      · exact hnt e
    obtain ⟨d1, d2, d3, d4⟩ := h.done a ha hn hnt' (by nofun)
    exact ⟨d1, d2, by omega, by omega⟩
  · rcases h.att with e | ⟨a, d, hr, hd⟩
    · by_cases q1 : m' = 0
      · exact .inl q1
      · refine .inr ⟨c, _, hlab.2.1, ?_⟩
        omega
    · by_cases q1 : m' = m
      · exact .inr ⟨a, d, hr, by rw [q1]; exact hd⟩
      · refine .inr ⟨c, _, hlab.2.1, ?_⟩
        omega
  · cases hc'
    exact ⟨hl, hne, hok, by omega, by omega, fun t ht => by simp at ht⟩
theorem Inv.reach {code : List Ins} {bs : List Int} {todo : List Nat} {m : Int} {k : Nat} {c : Nat} (h : Inv code bs todo m (some c) k) (t : Int) (ht : t ∈ tgs code c) : Reach code t.toNat (aft code c (bs.getD c (-1))) := by
  obtain ⟨hl, hne, hok, _⟩ := h.now c rfl
  exact .step (h.lab c hl hne).2.1 hok ht
/-- A target that is labelled alike. -/
theorem Inv.same {code : List Ins} {bs : List Int} {todo : List Nat} {m : Int} {k : Nat} {c : Nat} (h : Inv code bs todo m (some c) k) (hk : k < (tgs code c).length) (he : bs.getD ((tgs code c).getD k 0).toNat (-1) = aft code c (bs.getD c (-1))) : Inv code bs todo m (some c) (k + 1) := by
  refine ⟨h.len, h.zero, h.lab, h.inn, h.done, h.m0, h.att, fun c' hc' => ?_⟩
  cases hc'
  obtain ⟨n1, n2, n3, n4, n5, n6⟩ := h.now c rfl
  refine ⟨n1, n2, n3, n4, n5, fun t ht => ?_⟩
  rw [List.take_succ_eq_append_getElem hk] at ht
  rcases List.mem_append.1 ht with ht | ht
  · exact n6 t ht
  · obtain rfl : t = _ := by simpa using ht
    simpa [List.getD, hk] using he
/-- A target that has no label yet. -/
theorem Inv.fresh {code : List Ins} {bs : List Int} {todo todo' : List Nat} {m : Int} {k : Nat} {c : Nat} (h : Inv code bs todo m (some c) k) (hk : k < (tgs code c).length) (he : bs.getD ((tgs code c).getD k 0).toNat (-1) = -1)
    (h1 : ∀ t ∈ todo', t ∈ todo ∨ t = ((tgs code c).getD k 0).toNat) (h2 : ∀ t ∈ todo, t ∈ todo') (h3 : ((tgs code c).getD k 0).toNat ∈ todo') :
    Inv code (bs.set ((tgs code c).getD k 0).toNat (aft code c (bs.getD c (-1)))) todo' m (some c) (k + 1) ∧ unl (bs.set ((tgs code c).getD k 0).toNat (aft code c (bs.getD c (-1)))) + 1 = unl bs := by
  obtain ⟨n1, n2, n3, n4, n5, n6⟩ := h.now c rfl
  have hmem : (tgs code c).getD k 0 ∈ tgs code c := by simp only [List.getD_eq_getElem?_getD, List.getElem?_eq_getElem hk, Option.getD_some]; exact List.getElem_mem hk
  have hreach := h.reach _ hmem
  obtain ⟨t0, t1⟩ := tgs_in code c n3.2.1 _ hmem
  generalize hq : (tgs code c).getD k 0 = t at *
  have hq' : t.toNat < bs.length := by rw [h.len]; omega
  have hg : ∀ a, (bs.set t.toNat (aft code c (bs.getD c (-1)))).getD a (-1) = if a = t.toNat then aft code c (bs.getD c (-1)) else bs.getD a (-1) := fun a => by
    simp only [List.getD_eq_getElem?_getD, List.getElem?_set]
    by_cases ha : a = t.toNat
    · subst ha; simp [hq']
    · rw [if_neg (Ne.symm ha), if_neg ha]
  have hct : c ≠ t.toNat := fun e => n2 (by rw [e]; exact he)
  have h0t : t.toNat ≠ 0 := fun e => by rw [e, h.zero] at he; exact absurd he (by decide)
  have haft := aft_nonneg n3
  have hlab := h.lab c n1 n2
  have hu : unl (bs.set t.toNat (aft code c (bs.getD c (-1)))) + 1 = unl bs := by
    unfold unl
    have e1 := List.count_set (a := aft code c (bs.getD c (-1))) (b := (-1 : Int)) (l := bs) (i := t.toNat) hq'
    rw [e1]
    have e2 : bs[t.toNat] = -1 := by simpa [List.getD, hq'] using he
    have e3 : ¬ (aft code c (bs.getD c (-1)) = -1) := by omega
    have e4 : 0 < bs.count (-1) := List.count_pos_iff.2 (by rw [← e2]; exact List.getElem_mem hq')
    simp only [e2, beq_self_eq_true, if_pos, beq_iff_eq, if_neg e3]
    omega
  refine ⟨⟨by simp [h.len], by rw [hg, if_neg (Ne.symm h0t)]; exact h.zero, fun a ha hne => ?_, fun s hs => ?_, fun a ha hne hnt hca => ?_, h.m0, h.att, fun c' hc' => ?_⟩, hu⟩
  · rw [hg] at hne ⊢
    by_cases e : a = t.toNat
    · rw [if_pos e]
      refine ⟨haft, by rw [e]; exact hreach, ?_⟩
      have := aft_le (code := code) (a := c) (d := bs.getD c (-1)); omega
    · rw [if_neg e] at hne ⊢
      have := h.lab a ha hne
      exact ⟨this.1, this.2.1, by omega⟩
  · rw [hg]
    rcases h1 s hs with e | e
    · have := h.inn s e
      refine ⟨this.1, ?_⟩
      split
      · omega
      · exact this.2
    · rw [if_pos e]; exact ⟨by omega, by omega⟩
  · rw [hg] at hne ⊢
    by_cases e : a = t.toNat
    · rw [e] at hnt; exact absurd h3 hnt
    · rw [if_neg e] at hne ⊢
      obtain ⟨d1, d2, d3, d4⟩ := h.done a ha hne (fun q => hnt (h2 a q)) hca
      refine ⟨d1, fun s hs => ?_, d3, d4⟩
      have hd := d2 s hs
      rw [hg]
      split
      · rename_i e2
        have := aft_nonneg d1
        rw [e2, he] at hd; omega
      · exact hd
  · cases hc'
    rw [hg, if_neg hct]
    refine ⟨n1, n2, n3, n4, n5, fun s hs => ?_⟩
    rw [hg]
    split
    · rfl
    · rename_i e2
      rw [List.take_succ_eq_append_getElem hk] at hs
      rcases List.mem_append.1 hs with hs | hs
      · exact n6 s hs
      · obtain rfl : s = _ := by simpa using hs
        have : (tgs code c)[k] = t := by rw [← hq]; simp [List.getD, hk]
        rw [this] at e2; exact absurd rfl e2
theorem Inv.close {code : List Ins} {bs : List Int} {todo : List Nat} {m : Int} {k : Nat} {c : Nat} (h : Inv code bs todo m (some c) k) (hk : (tgs code c).length ≤ k) : Inv code bs todo m none 0 := by
  obtain ⟨n1, n2, n3, n4, n5, n6⟩ := h.now c rfl
  rw [List.take_of_length_le hk] at n6
  refine ⟨h.len, h.zero, h.lab, h.inn, fun a ha hne hnt _ => ?_, h.m0, h.att, fun c' hc' => by cases hc'⟩
  by_cases e : c = a
  · subst e; exact ⟨n3, n6, n4, n5⟩
  · exact h.done a ha hne hnt (fun q => e (Option.some.inj q))
/-- Two depths at one place. -/
theorem Inv.clash {code : List Ins} {bs : List Int} {todo : List Nat} {m : Int} {k : Nat} {c : Nat} (h : Inv code bs todo m (some c) k) (hk : k < (tgs code c).length) (he : bs.getD ((tgs code c).getD k 0).toNat (-1) ≠ -1) (hne : bs.getD ((tgs code c).getD k 0).toNat (-1) ≠ aft code c (bs.getD c (-1))) : Bad code := by
  obtain ⟨n1, n2, n3, _⟩ := h.now c rfl
  have hmem : (tgs code c).getD k 0 ∈ tgs code c := by simp only [List.getD_eq_getElem?_getD, List.getElem?_eq_getElem hk, Option.getD_some]; exact List.getElem_mem hk
  obtain ⟨t0, t1⟩ := tgs_in code c n3.2.1 _ hmem
  exact .inr ⟨_, _, _, (h.lab _ (by omega) he).2.1, h.reach _ hmem, hne⟩
theorem Inv.fault {code : List Ins} {bs : List Int} {todo : List Nat} {m : Int} {c : Nat} (h : Inv code bs todo m none 0) (hc : c ∈ todo) (hno : ¬ OkAt code c (bs.getD c (-1))) : Bad code := by
  obtain ⟨hl, hne⟩ := h.inn c hc
  exact .inl ⟨c, _, (h.lab c hl hne).2.1, hno⟩
theorem Inv.all {code : List Ins} {bs : List Int} {m : Int} (h : Inv code bs [] m none 0) (h0 : 0 < code.length) : ∀ a d, Reach code a d → a < code.length ∧ bs.getD a (-1) = d ∧ 0 ≤ d := by
  intro a d hr
  induction hr with
  | start => exact ⟨h0, h.zero, by decide⟩
  | @step b e t hb hok ht ih =>
    obtain ⟨i1, i2, i3⟩ := ih
    have hne : bs.getD b (-1) ≠ -1 := by omega
    obtain ⟨d1, d2, _⟩ := h.done b i1 hne (by simp) (by nofun)
    rw [i2] at d1 d2
    obtain ⟨t0, t1⟩ := tgs_in code b hok.2.1 _ ht
    exact ⟨by omega, d2 t ht, aft_nonneg hok⟩
theorem Inv.end {code : List Ins} {bs : List Int} {m : Int} (h : Inv code bs [] m none 0) (h0 : 0 < code.length) : DepOk code m 0 := by
  have hall := h.all h0
  unfold DepOk
  rw [if_neg (by omega)]
  refine .inr ⟨rfl, fun hb => ?_, h.m0, fun a d hr => ?_, h.att⟩
  · rcases hb with ⟨a, d, hr, hno⟩ | ⟨a, d, d', hr, hr', hne⟩
    · obtain ⟨i1, i2, i3⟩ := hall a d hr
      have := (h.done a i1 (by omega) (by simp) (by nofun)).1
      rw [i2] at this; exact hno this
    · exact hne ((hall a d hr).2.1.symm.trans (hall a d' hr').2.1)
  · obtain ⟨i1, i2, i3⟩ := hall a d hr
    have := h.done a i1 (by omega) (by simp) (by nofun)
    rw [i2] at this; exact ⟨this.2.2.1, this.2.2.2⟩
theorem dep_bad {code : List Ins} (h0 : 0 < code.length) (h : Bad code) : DepOk code 0 24 := by
  unfold DepOk; rw [if_neg (by omega)]; exact .inl ⟨rfl, rfl, h⟩
end Go.Proofs.Ytidolpcbbbakmaa

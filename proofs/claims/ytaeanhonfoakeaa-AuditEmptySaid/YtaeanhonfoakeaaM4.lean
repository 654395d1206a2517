/- The plain law of what is told: each place at most once. Contracts: telling. -/
import Derived.Test.YtaeanhonfoakeaaM3
import Derived.Test.YtaeanhonfoakeaaL2
section
namespace Go.Proofs.Ytaeanhonfoakeaa
open Go Heron
set_option linter.unusedSimpArgs false
set_option linter.unusedVariables false

def evP (h : List Ev) (p : Nat) : Ev := (h[p]?).getD ⟨0, 0, 0, 0, 0, [], []⟩
theorem evP_of {h : List Ev} {p : Nat} {x : Ev} (hx : h[p]? = some x) : evP h p = x := by simp [evP, hx]
def isAcc (x : Ev) : Bool := decide (4 ≤ x.what) && decide (x.what ≤ 7)
def accAt (x : Ev) (t : Int) : Bool := isAcc x && decide (x.tx = t) && decide (t ≠ -1)
def kidAt (h : List Ev) (F : Fates) (k : Nat) (x : Ev) (t : Int) : Bool := decide (x.what = 2) && decide ((F x.round x.tx).at_ = k) && decide ((F x.round x.tx).in_ = t) && fixedF F x.round (h.length + 1) x.tx
/-- What a place tells of a transaction. -/
def toldAt (h : List Ev) (F : Fates) (r : Int) (t : Int) (sub : Int → List Nat) (k : Nat) : List Nat :=
  if (evP h k).round = r then (if accAt (evP h k) t then [k] else []) ++ (if kidAt h F k (evP h k) t then sub (evP h k).tx else []) else []
/-- The places that are told of a transaction. -/
def toldP (h : List Ev) (F : Fates) (r : Int) : Nat → Int → List Nat
  | 0, _ => []
  | n + 1, t => (List.range h.length).flatMap (toldAt h F r t (toldP h F r n))

/-- A transaction, what it stands in, and so on up to the top. -/
inductive Ch (F : Fates) (r : Int) : Int → List Int → Prop
  | top : Ch F r (-1) []
  | step {u : Int} {L : List Int} : u ≠ -1 → Ch F r (F r u).in_ L → Ch F r u (u :: L)
theorem Ch.det {F : Fates} {r u : Int} {L M : List Int} (h : Ch F r u L) (k : Ch F r u M) : L = M := by
  induction h generalizing M with
  | top => cases k with
    | top => rfl
    | step h1 _ => exact absurd rfl h1
  | step h1 h2 ih => cases k with
    | top => exact absurd rfl h1
    | step _ k2 => rw [ih k2]
theorem fixed_ch {F : Fates} {r : Int} : ∀ {n : Nat} {u : Int}, fixedF F r n u = true → u ≠ -1 ∧ ∃ L, Ch F r u L ∧ L.length ≤ n
  | 0, u, h => by simp [fixedF] at h
  | n + 1, u, h => by
    rw [fixedF] at h
    by_cases hok : (F r u).ok u = true
    · rw [if_pos hok] at h
      have hu : u ≠ -1 := by
        rintro rfl
        simp [Fate.ok] at hok
      by_cases hi : (F r u).in_ = -1
      · exact ⟨hu, [u], .step hu (by rw [hi]; exact .top), by simp⟩
      · rw [if_neg hi] at h
        obtain ⟨_, L, h1, h2⟩ := fixed_ch h
        exact ⟨hu, u :: L, .step hu h1, by simp; omega⟩
    · rw [if_neg hok] at h; cases h
theorem kidAt_is {h : List Ev} {F : Fates} {k : Nat} {x : Ev} {t : Int} (hk : kidAt h F k x t = true) : x.what = 2 ∧ (F x.round x.tx).at_ = k ∧ (F x.round x.tx).in_ = t ∧ fixedF F x.round (h.length + 1) x.tx = true := by
  simp [kidAt] at hk
  exact ⟨hk.1.1.1, hk.1.1.2, hk.1.2, hk.2⟩
theorem accAt_is {x : Ev} {t : Int} (hk : accAt x t = true) : x.tx = t ∧ t ≠ -1 := by
  simp [accAt] at hk
  exact ⟨hk.1.2, hk.2⟩

theorem toldAt_mem {h : List Ev} {F : Fates} {r t : Int} {sub : Int → List Nat} {k p : Nat} (hp : p ∈ toldAt h F r t sub k) : (evP h k).round = r ∧ ((p = k ∧ accAt (evP h k) t = true) ∨ (kidAt h F k (evP h k) t = true ∧ p ∈ sub (evP h k).tx)) := by
  unfold toldAt at hp
  by_cases hr : (evP h k).round = r
  · rw [if_pos hr, List.mem_append] at hp
    refine ⟨hr, ?_⟩
    rcases hp with hp | hp
    · by_cases ha : accAt (evP h k) t = true
      · rw [if_pos ha] at hp; simp at hp; exact .inl ⟨hp, ha⟩
      · rw [if_neg ha] at hp; cases hp
    · by_cases ha : kidAt h F k (evP h k) t = true
      · rw [if_pos ha] at hp; exact .inr ⟨ha, hp⟩
      · rw [if_neg ha] at hp; cases hp
  · rw [if_neg hr] at hp; cases hp

theorem told_mem {h : List Ev} {F : Fates} {r : Int} : ∀ {n : Nat} {t : Int} {L : List Int}, Ch F r t L → ∀ {p : Nat}, p ∈ toldP h F r n t → p < h.length ∧ (evP h p).round = r ∧ ∃ M, Ch F r (evP h p).tx (M ++ L)
  | 0, t, L, hc, p, hp => by cases hp
  | n + 1, t, L, hc, p, hp => by
    rw [toldP, List.mem_flatMap] at hp
    obtain ⟨k, hk, hp⟩ := hp
    obtain ⟨hr, ⟨rfl, ha⟩ | ⟨hkid, hp⟩⟩ := toldAt_mem hp
    · refine ⟨List.mem_range.1 hk, hr, [], ?_⟩
      rw [(accAt_is ha).1]; exact hc
    · obtain ⟨_, k2, k3, k4⟩ := kidAt_is hkid
      rw [hr] at k2 k3 k4
      have hc2 : Ch F r (evP h k).tx ((evP h k).tx :: L) := .step (fixed_ch k4).1 (by rw [k3]; exact hc)
      obtain ⟨e1, e2, M, e3⟩ := told_mem hc2 hp
      exact ⟨e1, e2, M ++ [(evP h k).tx], by simpa using e3⟩

theorem told_nodup {h : List Ev} {F : Fates} {r : Int} : ∀ {n : Nat} {t : Int} {L : List Int}, Ch F r t L → (toldP h F r n t).Nodup
  | 0, t, L, hc => List.nodup_nil
  | n + 1, t, L, hc => by
    have hkc : ∀ k, (evP h k).round = r → kidAt h F k (evP h k) t = true → Ch F r (evP h k).tx ((evP h k).tx :: L) := fun k hr hkid => by
      obtain ⟨_, k2, k3, k4⟩ := kidAt_is hkid
      rw [hr] at k2 k3 k4
      exact .step (fixed_ch k4).1 (by rw [k3]; exact hc)
    have acc_kid : ∀ {k k' p : Nat}, (evP h k).round = r → accAt (evP h k) t = true → (evP h k').round = r → kidAt h F k' (evP h k') t = true → p = k → ¬ p ∈ toldP h F r n (evP h k').tx := by
      rintro k k' p hr ha hr' hkid rfl hp
      obtain ⟨_, _, M, e3⟩ := told_mem (hkc k' hr' hkid) hp
      rw [(accAt_is ha).1] at e3
      have := congrArg List.length (e3.det hc)
      simp at this
      omega
    rw [toldP, List.Nodup, List.pairwise_flatMap]
    refine ⟨fun k hk => ?_, ?_⟩
    · unfold toldAt
      by_cases hr : (evP h k).round = r
      · rw [if_pos hr, List.pairwise_append]
        refine ⟨?_, ?_, fun a ha b hb => ?_⟩
        · split
          · exact List.pairwise_singleton _ _
          · exact List.Pairwise.nil
        · split
          · exact told_nodup (hkc k hr (by assumption))
          · exact List.Pairwise.nil
        · by_cases h1 : accAt (evP h k) t = true
          · by_cases h2 : kidAt h F k (evP h k) t = true
            · rw [if_pos h1] at ha; rw [if_pos h2] at hb
              simp at ha
              intro e
              subst e
              exact acc_kid hr h1 hr h2 ha hb
            · rw [if_neg h2] at hb; cases hb
          · rw [if_neg h1] at ha; cases ha
      · rw [if_neg hr]; exact List.Pairwise.nil
    · refine List.pairwise_lt_range.imp fun {k k'} hlt x hx y hy e => ?_
      subst e
      obtain ⟨hr, h1⟩ := toldAt_mem hx
      obtain ⟨hr', h2⟩ := toldAt_mem hy
      rcases h1 with ⟨e1, a1⟩ | ⟨a1, b1⟩
      · rcases h2 with ⟨e2, a2⟩ | ⟨a2, b2⟩
        · omega
        · exact acc_kid hr a1 hr' a2 e1 b2
      · rcases h2 with ⟨e2, a2⟩ | ⟨a2, b2⟩
        · exact acc_kid hr' a2 hr a1 e2 b1
        · obtain ⟨_, _, M, e3⟩ := told_mem (hkc k hr a1) b1
          obtain ⟨_, _, M', e4⟩ := told_mem (hkc k' hr' a2) b2
          have e5 := e3.det e4
          rw [show M ++ (evP h k).tx :: L = M ++ [(evP h k).tx] ++ L by simp, show M' ++ (evP h k').tx :: L = M' ++ [(evP h k').tx] ++ L by simp] at e5
          have e6 := List.append_cancel_right e5
          have e7 := congrArg List.getLast? e6
          simp at e7
          obtain ⟨_, q1, _, _⟩ := kidAt_is a1
          obtain ⟨_, q2, _, _⟩ := kidAt_is a2
          rw [hr] at q1; rw [hr'] at q2
          rw [e7, q2] at q1
          omega

theorem nodup_bound : ∀ {n : Nat} {l : List Nat}, l.Nodup → (∀ p ∈ l, p < n) → l.length ≤ n
  | 0, l, hn, hl => by
    match l, hl with
    | [], _ => exact Nat.le_refl _
    | x :: _, hl => exact absurd (hl x (by simp)) (by omega)
  | n + 1, l, hn, hl => by
    by_cases hm : n ∈ l
    · have h1 := nodup_bound (n := n) (l := l.erase n) (hn.sublist List.erase_sublist) (fun p hp => by
        have := hl p (List.mem_of_mem_erase hp)
        have hne : p ≠ n := fun e => by
          subst e
          exact (hn.mem_erase_iff.1 hp).1 rfl
        omega)
      rw [List.length_erase_of_mem hm] at h1
      omega
    · have h1 : ∀ p ∈ l, p < n := fun p hp => by
        have h2 := hl p hp
        have hne : p ≠ n := fun e => hm (e ▸ hp)
        omega
      have h3 : l.length ≤ n := nodup_bound hn h1
      omega
end Go.Proofs.Ytaeanhonfoakeaa
end

section
namespace Go.Proofs.Ytaeanhonfoakeaa
open Go Heron
set_option linter.unusedSimpArgs false
set_option linter.unusedVariables false

/-- What is told is put into a slice whose cell is c; the loop's record is at l. -/
structure Sink (l : Nat) (o : AObj) (c : Nat) (h : List Ev) (H0 : AHeap) (ps : List Nat) (H : AHeap) : Prop where
  l0 : H0 l = none
  c0 : H0 c = none
  rec_ : H l = some o
  ne : l ≠ c
  is : ∃ a, H c = some (.rows 1 [a]) ∧ Acc H0 7 (ps.map fun p => evA (evP h p)) a H

theorem Sink.le {l c : Nat} {o : AObj} {h : List Ev} {H0 H : AHeap} {ps : List Nat} (s : Sink l o c h H0 ps H) : H0.le H := by
  obtain ⟨a, h1, h2⟩ := s.is
  exact h2.le
theorem Sink.base {l c : Nat} {o : AObj} {h : List Ev} {H0 H1 H : AHeap} {ps : List Nat} (s : Sink l o c h H1 ps H) (hl : H0.le H1) : Sink l o c h H0 ps H := by
  obtain ⟨a, h1, h2⟩ := s.is
  exact ⟨AHeap.le_none hl s.l0, AHeap.le_none hl s.c0, s.rec_, s.ne, a, h1, h2.rebase hl⟩
theorem Sink.grow {l c b : Nat} {o ob : AObj} {h : List Ev} {H0 H : AHeap} {ps : List Nat} (s : Sink l o c h H0 ps H) (hb : H b = none) : Sink l o c h (H0.set b ob) ps (H.set b ob) := by
  obtain ⟨a, h1, h2⟩ := s.is
  have n1 : l ≠ b := ne_new s.rec_ hb
  have n2 : c ≠ b := ne_new h1 hb
  refine ⟨by rw [set_get, if_neg n1]; exact s.l0, by rw [set_get, if_neg n2]; exact s.c0, by rw [set_get, if_neg n1]; exact s.rec_, s.ne, a, by rw [set_get, if_neg n2]; exact h1, ?_, ?_⟩
  · intro d od e
    rw [set_get] at e ⊢
    split
    · rename_i hd; rw [if_pos hd] at e; exact e
    · rename_i hd; rw [if_neg hd] at e; exact h2.le d od e
  · rcases h2.is with hh | ⟨b2, cap, q1, q2, q3⟩
    · exact .inl hh
    · have n3 : b2 ≠ b := ne_new q3 hb
      exact .inr ⟨b2, cap, by rw [set_get, if_neg n3]; exact q1, q2, by rw [set_get, if_neg n3]; exact q3⟩

/-- The round takes what is told. -/
def Takes (l : Nat) (o : AObj) (c : Nat) (h : List Ev) : Prop := ∀ (H0 : AHeap) (ps : List Nat) (p : Nat) (H : AHeap) (K : AVal → AHeap → Prop), ps.length + 1 ≤ 2 ^ 20 → Sink l o c h H0 ps H →
  (∀ H', Sink l o c h H0 (ps ++ [p]) H' → K (.b true) H') → yieldP Try.prog l [evA (evP h p)] H K

theorem range_flat {α : Type} {k : Nat} (f : Nat → List α) : (List.range (k + 1)).flatMap f = (List.range k).flatMap f ++ f k := by
  rw [List.range_succ, List.flatMap_append]; simp
theorem flat_le {α : Type} {k n : Nat} (f : Nat → List α) (h : k ≤ n) : ((List.range k).flatMap f).length ≤ ((List.range n).flatMap f).length := by
  induction n with
  | zero => have : k = 0 := by omega
            subst this; exact Nat.le_refl _
  | succ n ih =>
    by_cases e : k = n + 1
    · subst e; exact Nat.le_refl _
    · rw [range_flat f, List.length_append]
      have := ih (by omega)
      omega

section
variable {l c B bt bx k m clock : Nat} {o : AObj} {h : List Ev} {F : Fates} {x : Ev} {r t : Int} {es : List AEnt} {Hb H : AHeap} {ps : List Nat} {Q : AQ}

abbrev regsA (B l bt bx k : Nat) (h : List Ev) : Regs := ofL [(0, .ptr B 2 0 0), (2, .yd l), (4, .ptr bt 2 0 0), (7, .i k), (8, .ptr bx 7 0 0), (14, .ro 7 (h.map evA)), (15, .i h.length), (16, .i k), (25, .b false)]

theorem f44_a (x : Ev) : Gives Try.prog 44 [evA x] (.b (isAcc x)) := f44_c x
theorem f40_A (htk : Takes l o c h) (hx : h[k]? = some x) (ht : Hb bt = some (.rows 2 [.agg [.i r, .i t]])) (hbx : Hb bx = some (.rows 7 [evA x])) (hs : Sink l o c h Hb ps H) (hps : accAt x t = true → ps.length + 1 ≤ 2 ^ 20)
    (hk : ∀ H', Sink l o c h Hb (ps ++ if accAt x t then [k] else []) H' → Q .normal (ofL [(0, .ptr B 2 0 0), (2, .yd l), (4, .ptr bt 2 0 0), (7, .i k), (8, .ptr bx 7 0 0), (14, .ro 7 (h.map evA)), (15, .i h.length), (16, .i k), (45, .b false)]) H') :
    symb Try.prog a40_A (regsA B l bt bx k h) H Q := by
  have h1 := hs.le _ _ ht
  have h2 := hs.le _ _ hbx
  unfold a40_A
  simp only [go_sem, reduceIte, Nat.reduceEqDiff, Nat.reduceAdd, Nat.reduceLT, Nat.reduceLeDiff, Nat.reduceSub, Nat.reduceMul, Nat.reducePow, Int.reduceToNat, Int.reduceLT, Int.reduceLE, Int.reduceEq, Int.reduceNeg, decide_true, decide_false, Bool.not_true, Bool.not_false, h2]
  refine (f44_a x).use ?_
  by_cases ha : isAcc x = true
  · have h3 := h2
    simp only [evA] at h3
    by_cases e1 : x.tx = t
    · by_cases e2 : t = -1
      · have : accAt x t = false := by simp [accAt, e2]
        simp only [go_sem, reduceIte, Nat.reduceEqDiff, Nat.reduceAdd, Nat.reduceLT, Nat.reduceLeDiff, Nat.reduceSub, Nat.reduceMul, Nat.reducePow, Int.reduceToNat, Int.reduceLT, Int.reduceLE, Int.reduceEq, Int.reduceNeg, decide_true, decide_false, Bool.not_true, Bool.not_false, ha, h1, h3, e1, e2]
        exact hk _ (by rw [this]; simpa using hs)
      · have : accAt x t = true := by simp [accAt, ha, e1, e2]
        simp only [go_sem, reduceIte, Nat.reduceEqDiff, Nat.reduceAdd, Nat.reduceLT, Nat.reduceLeDiff, Nat.reduceSub, Nat.reduceMul, Nat.reducePow, Int.reduceToNat, Int.reduceLT, Int.reduceLE, Int.reduceEq, Int.reduceNeg, decide_true, decide_false, Bool.not_true, Bool.not_false, ha, h1, h3, e1, e2, not_false_eq_true]
        have e3 : [AVal.agg [AVal.i x.what, AVal.i x.round, AVal.i t, AVal.i x.at_, AVal.i x.value, bytesA x.data, intsA x.gone]] = [evA (evP h k)] := by rw [evP_of hx]; simp [evA, e1]
        rw [e3]
        refine htk _ _ _ _ _ (hps this) hs fun H' hs' => ?_
        simp only [go_sem, reduceIte, Nat.reduceEqDiff, Nat.reduceAdd, Nat.reduceLT, Nat.reduceLeDiff, Nat.reduceSub, Nat.reduceMul, Nat.reducePow, Int.reduceToNat, Int.reduceLT, Int.reduceLE, Int.reduceEq, Int.reduceNeg, decide_true, decide_false, Bool.not_true, Bool.not_false]
        exact hk _ (by rw [this]; simpa using hs')
    · have : accAt x t = false := by simp [accAt, e1]
      simp only [go_sem, reduceIte, Nat.reduceEqDiff, Nat.reduceAdd, Nat.reduceLT, Nat.reduceLeDiff, Nat.reduceSub, Nat.reduceMul, Nat.reducePow, Int.reduceToNat, Int.reduceLT, Int.reduceLE, Int.reduceEq, Int.reduceNeg, decide_true, decide_false, Bool.not_true, Bool.not_false, ha, h1, h3, e1]
      exact hk _ (by rw [this]; simpa using hs)
  · have ha' : isAcc x = false := by simpa using ha
    have : accAt x t = false := by simp [accAt, ha']
    simp only [go_sem, reduceIte, Nat.reduceEqDiff, Nat.reduceAdd, Nat.reduceLT, Nat.reduceLeDiff, Nat.reduceSub, Nat.reduceMul, Nat.reducePow, Int.reduceToNat, Int.reduceLT, Int.reduceLE, Int.reduceEq, Int.reduceNeg, decide_true, decide_false, Bool.not_true, Bool.not_false, ha']
    exact hk _ (by rw [this]; simpa using hs)
set_option maxHeartbeats 2000000 in
theorem f40_T (hx : h[k]? = some x) (ht : Hb bt = some (.rows 2 [.agg [.i r, .i t]])) (hbx : Hb bx = some (.rows 7 [evA x])) (hB : Hb B = some (.rows 2 [.agg [evsA h, .mp m]])) (hm : Hb m = some (.map (.ints 2) es clock)) (h3 : MapIs es F) (hl : h.length ≤ 2 ^ 20)
    (hs : Sink l o c h Hb ps H) (sub : List Nat)
    (hsub : ∀ (Hc H : AHeap) (K : AVal → AHeap → Prop), Hb.le Hc → kidAt h F k x t = true → Sink l o c h Hc ps H → (∀ H', Sink l o c h Hc (ps ++ sub) H' → K (.b true) H') → callP Try.prog 40 [.ptr B 2 0 0, .agg [.i x.round, .i x.tx], .yd l] H K)
    (hk : ∀ H', Sink l o c h Hb (ps ++ if kidAt h F k x t then sub else []) H' → Q .normal (ofL [(0, .ptr B 2 0 0), (2, .yd l), (4, .ptr bt 2 0 0), (14, .ro 7 (h.map evA)), (15, .i h.length), (16, .i k), (84, .b false)]) H') :
    symb Try.prog a40_T (ofL [(0, .ptr B 2 0 0), (2, .yd l), (4, .ptr bt 2 0 0), (7, .i k), (8, .ptr bx 7 0 0), (14, .ro 7 (h.map evA)), (15, .i h.length), (16, .i k), (45, .b false)]) H Q := by
  have h1 := hs.le _ _ ht
  have h2 := hs.le _ _ hbx
  simp only [evA] at h2
  have hB1 := hs.le _ _ hB
  have hm1 := hs.le _ _ hm
  have h4 := h3 x.round x.tx
  simp only [fateA, Fate.none] at h4
  unfold a40_T
  simp only [go_sem, reduceIte, Nat.reduceEqDiff, Nat.reduceAdd, Nat.reduceLT, Nat.reduceLeDiff, Nat.reduceSub, Nat.reduceMul, Nat.reducePow, Int.reduceToNat, Int.reduceLT, Int.reduceLE, Int.reduceEq, Int.reduceNeg, decide_true, decide_false, Bool.not_true, Bool.not_false, h2]
  refine allocK_i fun bk hbk => ?_
  try simp only [set_none] at hbk
  have n1 : B ≠ bk := ne_new hB1 hbk
  have n2 : m ≠ bk := ne_new hm1 hbk
  have n3 : bx ≠ bk := ne_new h2 hbk
  have n4 : bt ≠ bk := ne_new h1 hbk
  simp only [go_sem, reduceIte, Nat.reduceEqDiff, Nat.reduceAdd, Nat.reduceLT, Nat.reduceLeDiff, Nat.reduceSub, Nat.reduceMul, Nat.reducePow, Int.reduceToNat, Int.reduceLT, Int.reduceLE, Int.reduceEq, Int.reduceNeg, decide_true, decide_false, Bool.not_true, Bool.not_false, hbk, h1, h2, n1, n2, hB1, hm1, keyOf_key2, h4]
  refine allocK_i fun bf hbf => ?_
  try simp only [set_none] at hbf
  have n5 : B ≠ bf := ne_new hB1 (by simp only [hbf])
  have n6 : m ≠ bf := ne_new hm1 (by simp only [hbf])
  have n7 : bx ≠ bf := ne_new h2 (by simp only [hbf])
  have n8 : bt ≠ bf := ne_new h1 (by simp only [hbf])
  simp only [go_sem, reduceIte, Nat.reduceEqDiff, Nat.reduceAdd, Nat.reduceLT, Nat.reduceLeDiff, Nat.reduceSub, Nat.reduceMul, Nat.reducePow, Int.reduceToNat, Int.reduceLT, Int.reduceLE, Int.reduceEq, Int.reduceNeg, decide_true, decide_false, Bool.not_true, Bool.not_false, hbk, hbf, h1, h2, n1, n2, n3, n4, n5, n6, n7, n8, hB1, hm1, keyOf_key2, h4, AHeap.set_set]
  have hbf0 : H bf = none := by simp only [hbf]
  have hs2 := (hs.grow (ob := .rows 2 [.agg [.i x.round, .i x.tx]]) hbk).grow (b := bf) (ob := .rows 5 [fateA (F x.round x.tx)]) (by rw [set_get, if_neg (by simp only [hbf]; exact id)]; exact hbf0)
  have hle : Hb.le ((Hb.set bk (.rows 2 [.agg [.i x.round, .i x.tx]])).set bf (.rows 5 [fateA (F x.round x.tx)])) := AHeap.le_set' (AHeap.le_set' Hb.le_refl (AHeap.le_none hs.le hbk)) (AHeap.le_none hs.le hbf0)
  have hbook : BookF ((H.set bk (.rows 2 [.agg [.i x.round, .i x.tx]])).set bf (.rows 5 [fateA (F x.round x.tx)])) B h F := ⟨m, es, clock, by simp [set_get, n1, n5, hB1], by simp [set_get, n2, n6, hm1], h3⟩
  have hbk1 : ((H.set bk (.rows 2 [.agg [.i x.round, .i x.tx]])).set bf (.rows 5 [fateA (F x.round x.tx)])) bk = some (.rows 2 [.agg [.i x.round, .i x.tx]]) := by simp [set_get, hbf]
  have hbf1 : ((H.set bk (.rows 2 [.agg [.i x.round, .i x.tx]])).set bf (.rows 5 [fateA (F x.round x.tx)])) bf = some (.rows 5 [fateA (F x.round x.tx)]) := by simp [set_get]
  have hbt1 : ((H.set bk (.rows 2 [.agg [.i x.round, .i x.tx]])).set bf (.rows 5 [fateA (F x.round x.tx)])) bt = some (.rows 2 [.agg [.i r, .i t]]) := by simp [set_get, n4, n8, h1]
  have fin : kidAt h F k x t = false → Q .normal (ofL [(0, .ptr B 2 0 0), (2, .yd l), (4, .ptr bt 2 0 0), (14, .ro 7 (h.map evA)), (15, .i h.length), (16, .i k), (84, .b false)]) ((H.set bk (.rows 2 [.agg [.i x.round, .i x.tx]])).set bf (.rows 5 [fateA (F x.round x.tx)])) := fun e => hk _ (by rw [e]; simpa using hs2.base hle)
  simp only [fateA] at hs2 hle hbook hbk1 hbf1 hbt1 fin
  generalize (H.set bk (.rows 2 [.agg [.i x.round, .i x.tx]])).set bf (AObj.rows 5 [AVal.agg [AVal.b (F x.round x.tx).begun, AVal.b (F x.round x.tx).done, AVal.i (F x.round x.tx).in_, AVal.i (F x.round x.tx).at_, AVal.b (F x.round x.tx).gone]]) = Hx at *
  by_cases w2 : x.what = 2
  · by_cases w3 : (F x.round x.tx).at_ = k
    · by_cases w4 : (F x.round x.tx).in_ = t
      · simp only [go_sem, reduceIte, Nat.reduceEqDiff, Nat.reduceAdd, Nat.reduceLT, Nat.reduceLeDiff, Nat.reduceSub, Nat.reduceMul, Nat.reducePow, Int.reduceToNat, Int.reduceLT, Int.reduceLE, Int.reduceEq, Int.reduceNeg, decide_true, decide_false, Bool.not_true, Bool.not_false, w2, hbf1, hbt1, hbk1, w3, w4]
        refine f33_c hbook hl x.round x.tx ?_
        by_cases w5 : fixedF F x.round (h.length + 1) x.tx = true
        · have hkid : kidAt h F k x t = true := by simp [kidAt, w2, w3, w4, w5]
          simp only [go_sem, reduceIte, Nat.reduceEqDiff, Nat.reduceAdd, Nat.reduceLT, Nat.reduceLeDiff, Nat.reduceSub, Nat.reduceMul, Nat.reducePow, Int.reduceToNat, Int.reduceLT, Int.reduceLE, Int.reduceEq, Int.reduceNeg, decide_true, decide_false, Bool.not_true, Bool.not_false, w5, hbk1]
          refine hsub _ _ _ hle hkid hs2 fun H' hs' => ?_
          simp only [go_sem, reduceIte, Nat.reduceEqDiff, Nat.reduceAdd, Nat.reduceLT, Nat.reduceLeDiff, Nat.reduceSub, Nat.reduceMul, Nat.reducePow, Int.reduceToNat, Int.reduceLT, Int.reduceLE, Int.reduceEq, Int.reduceNeg, decide_true, decide_false, Bool.not_true, Bool.not_false]
          exact hk _ (by rw [hkid]; simpa using hs'.base hle)
        · have w5' : fixedF F x.round (h.length + 1) x.tx = false := by simpa using w5
          simp only [go_sem, reduceIte, Nat.reduceEqDiff, Nat.reduceAdd, Nat.reduceLT, Nat.reduceLeDiff, Nat.reduceSub, Nat.reduceMul, Nat.reducePow, Int.reduceToNat, Int.reduceLT, Int.reduceLE, Int.reduceEq, Int.reduceNeg, decide_true, decide_false, Bool.not_true, Bool.not_false, w5']
          exact fin (by simp [kidAt, w5'])
      · simp only [go_sem, reduceIte, Nat.reduceEqDiff, Nat.reduceAdd, Nat.reduceLT, Nat.reduceLeDiff, Nat.reduceSub, Nat.reduceMul, Nat.reducePow, Int.reduceToNat, Int.reduceLT, Int.reduceLE, Int.reduceEq, Int.reduceNeg, decide_true, decide_false, Bool.not_true, Bool.not_false, w2, hbf1, hbt1, hbk1, w3, w4]
        exact fin (by simp [kidAt, w4])
    · simp only [go_sem, reduceIte, Nat.reduceEqDiff, Nat.reduceAdd, Nat.reduceLT, Nat.reduceLeDiff, Nat.reduceSub, Nat.reduceMul, Nat.reducePow, Int.reduceToNat, Int.reduceLT, Int.reduceLE, Int.reduceEq, Int.reduceNeg, decide_true, decide_false, Bool.not_true, Bool.not_false, w2, hbf1, w3]
      exact fin (by simp [kidAt, w3])
  · simp only [go_sem, reduceIte, Nat.reduceEqDiff, Nat.reduceAdd, Nat.reduceLT, Nat.reduceLeDiff, Nat.reduceSub, Nat.reduceMul, Nat.reducePow, Int.reduceToNat, Int.reduceLT, Int.reduceLE, Int.reduceEq, Int.reduceNeg, decide_true, decide_false, Bool.not_true, Bool.not_false, w2]
    exact fin (by simp [kidAt, w2])
end

set_option maxHeartbeats 2000000 in
theorem f40_c {l c B : Nat} {o : AObj} {h : List Ev} {F : Fates} (htk : Takes l o c h) (hl : h.length ≤ 2 ^ 20) (r : Int) : ∀ (n : Nat) (t : Int) (L : List Int), Ch F r t L → n + L.length = h.length + 2 → 1 ≤ n → ∀ (H0 : AHeap) (ps : List Nat) (H : AHeap) (K : AVal → AHeap → Prop), BookF H0 B h F → Sink l o c h H0 ps H →
    ps.length + (toldP h F r n t).length ≤ 2 ^ 20 → (∀ H', Sink l o c h H0 (ps ++ toldP h F r n t) H' → K (.b true) H') → callP Try.prog 40 [.ptr B 2 0 0, .agg [.i r, .i t], .yd l] H K
  | 0, t, L, hc, hn, h1n, H0, ps, H, K, hb, hs, hps, hk => by omega
  | n + 1, t, L, hc, hn, h1n, H0, ps, H, K, hb, hs, hps, hk => by
    have IH := fun u M => f40_c htk hl r n u M (F := F) (B := B)
    rw [toldP] at hps hk
    obtain ⟨m, es, clock, h1, h2, h3⟩ := hb
    refine callP_body mixed Try.func40 a40_ok (by simp [a40]) ?_; simp only [a40, go_sem, reduceIte, Nat.reduceEqDiff, Nat.reduceAdd, Nat.reduceLT, Nat.reduceLeDiff, Nat.reduceSub, Nat.reduceMul, Nat.reducePow, Int.reduceToNat, Int.reduceLT, Int.reduceLE, Int.reduceEq, Int.reduceNeg, decide_true, decide_false, Bool.not_true, Bool.not_false]
    refine allocK_i fun bt hbt => ?_
    try simp only [set_none] at hbt
    have n1 : B ≠ bt := ne_new (hs.le _ _ h1) hbt
    have q1 := hs.le _ _ h1
    simp only [go_sem, reduceIte, Nat.reduceEqDiff, Nat.reduceAdd, Nat.reduceLT, Nat.reduceLeDiff, Nat.reduceSub, Nat.reduceMul, Nat.reducePow, Int.reduceToNat, Int.reduceLT, Int.reduceLE, Int.reduceEq, Int.reduceNeg, decide_true, decide_false, Bool.not_true, Bool.not_false, n1, q1, evsA]
    have hs1 := hs.grow (ob := .rows 2 [.agg [.i r, .i t]]) hbt
    have hb1 : (H0.set bt (.rows 2 [.agg [.i r, .i t]])) bt = some (.rows 2 [.agg [.i r, .i t]]) := by rw [set_get, if_pos rfl]
    have hle0 : H0.le (H0.set bt (.rows 2 [.agg [.i r, .i t]])) := AHeap.le_setN H0.le_refl (AHeap.le_none hs.le hbt)
    generalize H0.set bt (.rows 2 [.agg [.i r, .i t]]) = H2 at hs1 hb1 hle0
    refine loop_upto (k := 0) h.length (fun k R H1 => Sink l o c h H2 (ps ++ (List.range k).flatMap (toldAt h F r t (toldP h F r n))) H1 ∧ R = ofL [(0, .ptr B 2 0 0), (2, .yd l), (4, .ptr bt 2 0 0), (14, .ro 7 (h.map evA)), (15, .i h.length), (16, .i k)]) ?_ (Nat.zero_le _) ⟨by simpa using hs1, rfl⟩
    clear hs1 q1 n1
    rintro k R H1 X hkl ⟨hs1, rfl⟩ ih
    rw [a40_L0_cut]
    simp only [go_sem, reduceIte, Nat.reduceEqDiff, Nat.reduceAdd, Nat.reduceLT, Nat.reduceLeDiff, Nat.reduceSub, Nat.reduceMul, Nat.reducePow, Int.reduceToNat, Int.reduceLT, Int.reduceLE, Int.reduceEq, Int.reduceNeg, decide_true, decide_false, Bool.not_true, Bool.not_false]
    by_cases hlt : k < h.length
    · obtain ⟨x, hx⟩ : ∃ x, h[k]? = some x := ⟨_, List.getElem?_eq_getElem hlt⟩
      have hbt1 := hs1.le _ _ hb1
      simp only [go_sem, reduceIte, Nat.reduceEqDiff, Nat.reduceAdd, Nat.reduceLT, Nat.reduceLeDiff, Nat.reduceSub, Nat.reduceMul, Nat.reducePow, Int.reduceToNat, Int.reduceLT, Int.reduceLE, Int.reduceEq, Int.reduceNeg, decide_true, decide_false, Bool.not_true, Bool.not_false, hlt, hx, evA]
      refine allocK_i fun bx hbx => ?_
      try simp only [set_none] at hbx
      have n1 : bt ≠ bx := ne_new hbt1 hbx
      simp only [go_sem, reduceIte, Nat.reduceEqDiff, Nat.reduceAdd, Nat.reduceLT, Nat.reduceLeDiff, Nat.reduceSub, Nat.reduceMul, Nat.reducePow, Int.reduceToNat, Int.reduceLT, Int.reduceLE, Int.reduceEq, Int.reduceNeg, decide_true, decide_false, Bool.not_true, Bool.not_false, n1, hbt1]
      have hs2 := hs1.grow (ob := .rows 7 [evA x]) hbx
      have hbxx : (H2.set bx (.rows 7 [evA x])) bx = some (.rows 7 [evA x]) := by rw [set_get, if_pos rfl]
      have hle2 : H2.le (H2.set bx (.rows 7 [evA x])) := AHeap.le_setN H2.le_refl (AHeap.le_none hs1.le hbx)
      rw [AHeap.set_set]
      simp only [evA] at hs2 hbxx hle2
      generalize H2.set bx _ = H3 at hs2 hbxx hle2
      generalize H1.set bx _ = H4 at hs2
      have hx1 := hle2 _ _ hb1
      by_cases hr : x.round = r
      · have eAt : toldAt h F r t (toldP h F r n) k = (if accAt x t then [k] else []) ++ (if kidAt h F k x t then toldP h F r n x.tx else []) := by
          unfold toldAt
          rw [evP_of hx, if_pos hr]
        have hlen : (ps ++ List.flatMap (toldAt h F r t (toldP h F r n)) (List.range (k + 1))).length ≤ 2 ^ 20 := by
          rw [List.length_append]
          exact Nat.le_trans (Nat.add_le_add_left (flat_le _ hlt) _) hps
        rw [range_flat, eAt] at hlen ih
        simp only [go_sem, reduceIte, Nat.reduceEqDiff, Nat.reduceAdd, Nat.reduceLT, Nat.reduceLeDiff, Nat.reduceSub, Nat.reduceMul, Nat.reducePow, Int.reduceToNat, Int.reduceLT, Int.reduceLE, Int.reduceEq, Int.reduceNeg, decide_true, decide_false, Bool.not_true, Bool.not_false, hr, not_true_eq_false]
        refine f40_A htk hx hx1 (by rw [hbxx, evA]) hs2 (fun ha => ?_) fun H' hs3 => ?_
        · rw [ha] at hlen; simp only [List.length_append, if_true, List.length_singleton] at hlen ⊢; omega
        · simp only [go_sem, reduceIte, Nat.reduceEqDiff, Nat.reduceAdd, Nat.reduceLT, Nat.reduceLeDiff, Nat.reduceSub, Nat.reduceMul, Nat.reducePow, Int.reduceToNat, Int.reduceLT, Int.reduceLE, Int.reduceEq, Int.reduceNeg, decide_true, decide_false, Bool.not_true, Bool.not_false]
          refine f40_T (B := B) (m := m) (es := es) (clock := clock) (F := F) hx hx1 (by rw [hbxx, evA]) (hle2 _ _ (hle0 _ _ h1)) (hle2 _ _ (hle0 _ _ h2)) h3 hl hs3 (toldP h F r n x.tx) (fun Hc H5 K5 hle5 hkid hs5 hk5 => ?_) fun H' hs4 => ?_
          · obtain ⟨_, q2, q3, q4⟩ := kidAt_is hkid
            rw [hr] at q2 q3 q4 ⊢
            obtain ⟨qu, L', qc, ql⟩ := fixed_ch q4
            have qc2 : Ch F r x.tx (x.tx :: L) := .step qu (by rw [q3]; exact hc)
            have := qc.det qc2
            subst this
            simp only [List.length_cons] at ql
            refine IH x.tx _ qc2 (by simp only [List.length_cons]; omega) (by omega) Hc _ H5 K5 ⟨m, es, clock, hle5 _ _ (hle2 _ _ (hle0 _ _ h1)), hle5 _ _ (hle2 _ _ (hle0 _ _ h2)), h3⟩ hs5 ?_ hk5
            rw [hkid] at hlen
            simp only [List.length_append, if_true] at hlen ⊢
            omega
          · simp only [go_sem, reduceIte, Nat.reduceEqDiff, Nat.reduceAdd, Nat.reduceLT, Nat.reduceLeDiff, Nat.reduceSub, Nat.reduceMul, Nat.reducePow, Int.reduceToNat, Int.reduceLT, Int.reduceLE, Int.reduceEq, Int.reduceNeg, decide_true, decide_false, Bool.not_true, Bool.not_false]
            refine ih _ _ hlt ⟨?_, by rw [wrap_up (by omega)]⟩
            have := hs4.base hle2
            simpa only [List.append_assoc] using this
      · have eAt : toldAt h F r t (toldP h F r n) k = [] := by
          unfold toldAt
          rw [evP_of hx, if_neg hr]
        simp only [go_sem, reduceIte, Nat.reduceEqDiff, Nat.reduceAdd, Nat.reduceLT, Nat.reduceLeDiff, Nat.reduceSub, Nat.reduceMul, Nat.reducePow, Int.reduceToNat, Int.reduceLT, Int.reduceLE, Int.reduceEq, Int.reduceNeg, decide_true, decide_false, Bool.not_true, Bool.not_false, hr, not_false_eq_true]
        refine ih _ _ hlt ⟨?_, by rw [wrap_up (by omega)]⟩
        rw [range_flat, eAt, List.append_nil]
        exact hs2.base hle2
    · simp only [go_sem, reduceIte, Nat.reduceEqDiff, Nat.reduceAdd, Nat.reduceLT, Nat.reduceLeDiff, Nat.reduceSub, Nat.reduceMul, Nat.reducePow, Int.reduceToNat, Int.reduceLT, Int.reduceLE, Int.reduceEq, Int.reduceNeg, decide_true, decide_false, Bool.not_true, Bool.not_false, hlt]
      have : k = h.length := by omega
      subst this
      exact hk _ (hs1.base hle0)
end Go.Proofs.Ytaeanhonfoakeaa
end

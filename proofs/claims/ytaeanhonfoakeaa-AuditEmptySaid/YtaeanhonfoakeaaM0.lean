/- Contracts. Contracts: equalities. Contracts: more equalities, copies, changes of type. -/
import Derived.Test.YtaeanhonfoakeaaL0
import Derived.Test.YtaeanhonfoakeaaK10
section
namespace Go.Proofs.Ytaeanhonfoakeaa
open Go Heron
set_option linter.unusedSimpArgs false

theorem mixed : Try.prog.follows .mixedOrders = true := by kernel_rfl

theorem f14_c (a b : AVal) (ha : a.cells = [a]) (hb : b.cells = [b]) (oka : a.cellOk = true) (okb : b.cellOk = true) : Gives Try.prog 14 [.agg [a, b]] (.agg [a, b]) := by
  intro H
  refine callP_body mixed Try.func14 a14_ok (by simp [a14]) ?_; simp only [a14, go_sem, reduceIte, Nat.reduceEqDiff, Nat.reduceAdd, Nat.reduceLT, Nat.reduceLeDiff, Nat.reduceSub, Nat.reduceMul, Nat.reducePow, Int.reduceToNat, Int.reduceLT, Int.reduceLE, Int.reduceEq, Int.reduceNeg, decide_true, decide_false, Bool.not_true, Bool.not_false]
  refine allocK_i fun b1 hb1 => ?_
  try simp only [set_none] at hb1
  simp only [go_sem, reduceIte, Nat.reduceEqDiff, Nat.reduceAdd, Nat.reduceLT, Nat.reduceLeDiff, Nat.reduceSub, Nat.reduceMul, Nat.reducePow, Int.reduceToNat, Int.reduceLT, Int.reduceLE, Int.reduceEq, Int.reduceNeg, decide_true, decide_false, Bool.not_true, Bool.not_false]
  refine allocK_i fun b2 hb2 => ?_
  try simp only [set_none] at hb2
  simp only [go_sem, reduceIte, Nat.reduceEqDiff, Nat.reduceAdd, Nat.reduceLT, Nat.reduceLeDiff, Nat.reduceSub, Nat.reduceMul, Nat.reducePow, Int.reduceToNat, Int.reduceLT, Int.reduceLE, Int.reduceEq, Int.reduceNeg, decide_true, decide_false, Bool.not_true, Bool.not_false, hb2, ha, hb, oka, okb]
  exact GhV.le (by (repeat (first | (refine AHeap.le_set' ?_ (by first | (simp only [*]; done) | (refine AHeap.le_none (by assumption) ?_; simp only [*]))) | (refine AHeap.le_del ?_ (by first | (simp only [*]; done) | (refine AHeap.le_none (by assumption) ?_; simp only [*]))))); first | exact AHeap.le_refl _ | assumption)

/-- An event. -/
structure Ev where
  what : Int
  round : Int
  tx : Int
  at_ : Int
  value : Int
  data : List UInt8
  gone : List Int
  deriving DecidableEq
def evA (x : Ev) : AVal := .agg [.i x.what, .i x.round, .i x.tx, .i x.at_, .i x.value, bytesA x.data, intsA x.gone]
def evsA (l : List Ev) : AVal := .ro 7 (l.map evA)

def fewE (x : Ev) : Bool := decide (x.data.length ≤ 60 ∧ x.gone.length ≤ 10)
def few (l : List Ev) : Bool := decide (l.length ≤ 40) && l.all fewE

theorem f12_c (h : List Ev) : Gives Try.prog 12 [evsA h] (.b (few h)) := by
  intro H
  refine callP_body mixed Try.func12 a12_ok (by simp [a12]) ?_; simp only [a12, go_sem, reduceIte, Nat.reduceEqDiff, Nat.reduceAdd, Nat.reduceLT, Nat.reduceLeDiff, Nat.reduceSub, Nat.reduceMul, Nat.reducePow, Int.reduceToNat, Int.reduceLT, Int.reduceLE, Int.reduceEq, Int.reduceNeg, decide_true, decide_false, Bool.not_true, Bool.not_false]
  simp only [go_sem, reduceIte, Nat.reduceEqDiff, Nat.reduceAdd, Nat.reduceLT, Nat.reduceLeDiff, Nat.reduceSub, Nat.reduceMul, Nat.reducePow, Int.reduceToNat, Int.reduceLT, Int.reduceLE, Int.reduceEq, Int.reduceNeg, decide_true, decide_false, Bool.not_true, Bool.not_false, evsA]
  by_cases hl : 40 < (h.length : Int)
  · simp only [go_sem, reduceIte, Nat.reduceEqDiff, Nat.reduceAdd, Nat.reduceLT, Nat.reduceLeDiff, Nat.reduceSub, Nat.reduceMul, Nat.reducePow, Int.reduceToNat, Int.reduceLT, Int.reduceLE, Int.reduceEq, Int.reduceNeg, decide_true, decide_false, Bool.not_true, Bool.not_false, hl]
    rw [show few h = false by simp [few]; omega]
    exact GhV.le (by (repeat (first | (refine AHeap.le_set' ?_ (by first | (simp only [*]; done) | (refine AHeap.le_none (by assumption) ?_; simp only [*]))) | (refine AHeap.le_del ?_ (by first | (simp only [*]; done) | (refine AHeap.le_none (by assumption) ?_; simp only [*]))))); first | exact AHeap.le_refl _ | assumption)
  · simp only [go_sem, reduceIte, Nat.reduceEqDiff, Nat.reduceAdd, Nat.reduceLT, Nat.reduceLeDiff, Nat.reduceSub, Nat.reduceMul, Nat.reducePow, Int.reduceToNat, Int.reduceLT, Int.reduceLE, Int.reduceEq, Int.reduceNeg, decide_true, decide_false, Bool.not_true, Bool.not_false, hl]
    refine loop_upto (k := 0) h.length (fun k R H1 => H1 = H ∧ R = ofL [(0, .ro 7 (h.map evA)), (3, .i k)] ∧ (h.take k).all fewE = true) ?_ (Nat.zero_le _) ⟨rfl, rfl, rfl⟩
    rintro k R _ X hk ⟨rfl, rfl, hall⟩ ih
    unfold a12_L0
    simp only [go_sem, reduceIte, Nat.reduceEqDiff, Nat.reduceAdd, Nat.reduceLT, Nat.reduceLeDiff, Nat.reduceSub, Nat.reduceMul, Nat.reducePow, Int.reduceToNat, Int.reduceLT, Int.reduceLE, Int.reduceEq, Int.reduceNeg, decide_true, decide_false, Bool.not_true, Bool.not_false]
    by_cases hlt : k < h.length
    · obtain ⟨x, hx⟩ : ∃ x, h[k]? = some x := ⟨_, List.getElem?_eq_getElem hlt⟩
      have hm : x ∈ h := List.mem_of_getElem? hx
      simp only [go_sem, reduceIte, Nat.reduceEqDiff, Nat.reduceAdd, Nat.reduceLT, Nat.reduceLeDiff, Nat.reduceSub, Nat.reduceMul, Nat.reducePow, Int.reduceToNat, Int.reduceLT, Int.reduceLE, Int.reduceEq, Int.reduceNeg, decide_true, decide_false, Bool.not_true, Bool.not_false, hlt, hx, evA]
      by_cases h1 : 60 < (x.data.length : Int)
      · simp only [go_sem, reduceIte, Nat.reduceEqDiff, Nat.reduceAdd, Nat.reduceLT, Nat.reduceLeDiff, Nat.reduceSub, Nat.reduceMul, Nat.reducePow, Int.reduceToNat, Int.reduceLT, Int.reduceLE, Int.reduceEq, Int.reduceNeg, decide_true, decide_false, Bool.not_true, Bool.not_false, h1]
        rw [show few h = false by simp [few]; intro _; exact ⟨x, hm, by simp [fewE]; omega⟩]
        exact GhV.le (by (repeat (first | (refine AHeap.le_set' ?_ (by first | (simp only [*]; done) | (refine AHeap.le_none (by assumption) ?_; simp only [*]))) | (refine AHeap.le_del ?_ (by first | (simp only [*]; done) | (refine AHeap.le_none (by assumption) ?_; simp only [*]))))); first | exact AHeap.le_refl _ | assumption)
      · by_cases h2 : 10 < (x.gone.length : Int)
        · simp only [go_sem, reduceIte, Nat.reduceEqDiff, Nat.reduceAdd, Nat.reduceLT, Nat.reduceLeDiff, Nat.reduceSub, Nat.reduceMul, Nat.reducePow, Int.reduceToNat, Int.reduceLT, Int.reduceLE, Int.reduceEq, Int.reduceNeg, decide_true, decide_false, Bool.not_true, Bool.not_false, hx, hlt, evA, h1, h2]
          rw [show few h = false by simp [few]; intro _; exact ⟨x, hm, by simp [fewE]; omega⟩]
          exact GhV.le (by (repeat (first | (refine AHeap.le_set' ?_ (by first | (simp only [*]; done) | (refine AHeap.le_none (by assumption) ?_; simp only [*]))) | (refine AHeap.le_del ?_ (by first | (simp only [*]; done) | (refine AHeap.le_none (by assumption) ?_; simp only [*]))))); first | exact AHeap.le_refl _ | assumption)
        · simp only [go_sem, reduceIte, Nat.reduceEqDiff, Nat.reduceAdd, Nat.reduceLT, Nat.reduceLeDiff, Nat.reduceSub, Nat.reduceMul, Nat.reducePow, Int.reduceToNat, Int.reduceLT, Int.reduceLE, Int.reduceEq, Int.reduceNeg, decide_true, decide_false, Bool.not_true, Bool.not_false, hx, hlt, evA, h1, h2]

          refine ih _ _ hlt ⟨rfl, by rw [wrap_up (by omega)], ?_⟩
          rw [List.take_add_one, hx, List.all_append, hall]
          simp [fewE]; omega
    · simp only [go_sem, reduceIte, Nat.reduceEqDiff, Nat.reduceAdd, Nat.reduceLT, Nat.reduceLeDiff, Nat.reduceSub, Nat.reduceMul, Nat.reducePow, Int.reduceToNat, Int.reduceLT, Int.reduceLE, Int.reduceEq, Int.reduceNeg, decide_true, decide_false, Bool.not_true, Bool.not_false, hlt]
      have : k = h.length := by omega
      subst this
      rw [List.take_length] at hall
      rw [show few h = true by simp [few, hall]; omega]
      exact GhV.le (by (repeat (first | (refine AHeap.le_set' ?_ (by first | (simp only [*]; done) | (refine AHeap.le_none (by assumption) ?_; simp only [*]))) | (refine AHeap.le_del ?_ (by first | (simp only [*]; done) | (refine AHeap.le_none (by assumption) ?_; simp only [*]))))); first | exact AHeap.le_refl _ | assumption)
end Go.Proofs.Ytaeanhonfoakeaa
end

section
namespace Go.Proofs.Ytaeanhonfoakeaa
open Go Heron
set_option linter.unusedSimpArgs false

theorem f30_c (a b : List UInt8) : Gives Try.prog 30 [bytesA a, bytesA b] (.b (decide (a = b))) := by
  intro H
  refine callP_body mixed Try.func30 a30_ok (by simp [a30]) ?_; simp only [a30, go_sem, reduceIte, Nat.reduceEqDiff, Nat.reduceAdd, Nat.reduceLT, Nat.reduceLeDiff, Nat.reduceSub, Nat.reduceMul, Nat.reducePow, Int.reduceToNat, Int.reduceLT, Int.reduceLE, Int.reduceEq, Int.reduceNeg, decide_true, decide_false, Bool.not_true, Bool.not_false]
  exact GhV.le (by (repeat (first | (refine AHeap.le_set' ?_ (by first | (simp only [*]; done) | (refine AHeap.le_none (by assumption) ?_; simp only [*]))) | (refine AHeap.le_del ?_ (by first | (simp only [*]; done) | (refine AHeap.le_none (by assumption) ?_; simp only [*]))))); first | exact AHeap.le_refl _ | assumption)

theorem f37_c (a b : List Int) (ha : a.length < 2 ^ 62) : Gives Try.prog 37 [intsA a, intsA b] (.b (decide (a = b))) := by
  intro H
  refine callP_body mixed Try.func37 a37_ok (by simp [a37]) ?_; simp only [a37, go_sem, reduceIte, Nat.reduceEqDiff, Nat.reduceAdd, Nat.reduceLT, Nat.reduceLeDiff, Nat.reduceSub, Nat.reduceMul, Nat.reducePow, Int.reduceToNat, Int.reduceLT, Int.reduceLE, Int.reduceEq, Int.reduceNeg, decide_true, decide_false, Bool.not_true, Bool.not_false]
  by_cases hl : (a.length : Int) = b.length
  · simp only [go_sem, reduceIte, Nat.reduceEqDiff, Nat.reduceAdd, Nat.reduceLT, Nat.reduceLeDiff, Nat.reduceSub, Nat.reduceMul, Nat.reducePow, Int.reduceToNat, Int.reduceLT, Int.reduceLE, Int.reduceEq, Int.reduceNeg, decide_true, decide_false, Bool.not_true, Bool.not_false, hl, not_true_eq_false]
    have hl' : a.length = b.length := by omega
    refine loop_upto (k := 0) a.length (fun k R H1 => H.le H1 ∧ R = ofL [(0, intsA a), (1, intsA b), (5, .i k)] ∧ a.take k = b.take k) ?_ (Nat.zero_le _) ⟨H.le_refl, rfl, rfl⟩
    rintro k R H1 X hk ⟨hle, rfl, hall⟩ ih
    unfold a37_L0
    simp only [go_sem, reduceIte, Nat.reduceEqDiff, Nat.reduceAdd, Nat.reduceLT, Nat.reduceLeDiff, Nat.reduceSub, Nat.reduceMul, Nat.reducePow, Int.reduceToNat, Int.reduceLT, Int.reduceLE, Int.reduceEq, Int.reduceNeg, decide_true, decide_false, Bool.not_true, Bool.not_false]
    by_cases hlt : k < a.length
    · obtain ⟨x, hx⟩ : ∃ x, a[k]? = some x := ⟨_, List.getElem?_eq_getElem hlt⟩
      obtain ⟨y, hy⟩ : ∃ x, b[k]? = some x := ⟨_, List.getElem?_eq_getElem (hl' ▸ hlt)⟩
      simp only [go_sem, reduceIte, Nat.reduceEqDiff, Nat.reduceAdd, Nat.reduceLT, Nat.reduceLeDiff, Nat.reduceSub, Nat.reduceMul, Nat.reducePow, Int.reduceToNat, Int.reduceLT, Int.reduceLE, Int.reduceEq, Int.reduceNeg, decide_true, decide_false, Bool.not_true, Bool.not_false, hlt, hx, hy]
      by_cases hxy : x = y
      · simp only [go_sem, reduceIte, Nat.reduceEqDiff, Nat.reduceAdd, Nat.reduceLT, Nat.reduceLeDiff, Nat.reduceSub, Nat.reduceMul, Nat.reducePow, Int.reduceToNat, Int.reduceLT, Int.reduceLE, Int.reduceEq, Int.reduceNeg, decide_true, decide_false, Bool.not_true, Bool.not_false, hxy, not_true_eq_false]
        subst hxy
        refine ih _ _ hlt ⟨hle, by rw [wrap_up (by omega)], ?_⟩
        rw [List.take_add_one, List.take_add_one, hx, hy, hall]
      · simp only [go_sem, reduceIte, Nat.reduceEqDiff, Nat.reduceAdd, Nat.reduceLT, Nat.reduceLeDiff, Nat.reduceSub, Nat.reduceMul, Nat.reducePow, Int.reduceToNat, Int.reduceLT, Int.reduceLE, Int.reduceEq, Int.reduceNeg, decide_true, decide_false, Bool.not_true, Bool.not_false, hxy, not_false_eq_true]
        have : ¬ a = b := fun e => hxy (by rw [e, hy] at hx; exact (Option.some.inj hx).symm)
        simp only [this, decide_false]
        exact GhV.le (by (repeat (first | (refine AHeap.le_set' ?_ (by first | (simp only [*]; done) | (refine AHeap.le_none (by assumption) ?_; simp only [*]))) | (refine AHeap.le_del ?_ (by first | (simp only [*]; done) | (refine AHeap.le_none (by assumption) ?_; simp only [*]))))); first | exact AHeap.le_refl _ | assumption)
    · simp only [go_sem, reduceIte, Nat.reduceEqDiff, Nat.reduceAdd, Nat.reduceLT, Nat.reduceLeDiff, Nat.reduceSub, Nat.reduceMul, Nat.reducePow, Int.reduceToNat, Int.reduceLT, Int.reduceLE, Int.reduceEq, Int.reduceNeg, decide_true, decide_false, Bool.not_true, Bool.not_false, hlt]
      have : k = a.length := by omega
      subst this
      rw [List.take_length, hl', List.take_length] at hall
      simp only [hall, decide_true]
      exact GhV.le (by (repeat (first | (refine AHeap.le_set' ?_ (by first | (simp only [*]; done) | (refine AHeap.le_none (by assumption) ?_; simp only [*]))) | (refine AHeap.le_del ?_ (by first | (simp only [*]; done) | (refine AHeap.le_none (by assumption) ?_; simp only [*]))))); first | exact AHeap.le_refl _ | assumption)
  · simp only [go_sem, reduceIte, Nat.reduceEqDiff, Nat.reduceAdd, Nat.reduceLT, Nat.reduceLeDiff, Nat.reduceSub, Nat.reduceMul, Nat.reducePow, Int.reduceToNat, Int.reduceLT, Int.reduceLE, Int.reduceEq, Int.reduceNeg, decide_true, decide_false, Bool.not_true, Bool.not_false, hl, not_false_eq_true]
    have : ¬ a = b := fun e => hl (by rw [e])
    simp only [this, decide_false]
    exact GhV.le (by (repeat (first | (refine AHeap.le_set' ?_ (by first | (simp only [*]; done) | (refine AHeap.le_none (by assumption) ?_; simp only [*]))) | (refine AHeap.le_del ?_ (by first | (simp only [*]; done) | (refine AHeap.le_none (by assumption) ?_; simp only [*]))))); first | exact AHeap.le_refl _ | assumption)

def evEq (x y : Ev) : Bool := !decide (¬ x.what = y.what) && !decide (¬ x.round = y.round) && !decide (¬ x.tx = y.tx) && !decide (¬ x.at_ = y.at_) && !decide (¬ x.value = y.value) && decide (x.data = y.data) && decide (x.gone = y.gone)
theorem f20_c (a b : List Ev) (ha : a.length < 2 ^ 62) (hg : ∀ x, x ∈ a → x.gone.length < 2 ^ 62) : Gives Try.prog 20 [evsA a, evsA b] (.b (decide (a = b))) := by
  intro H
  refine callP_body mixed Try.func20 a20_ok (by simp [a20]) ?_; simp only [a20, go_sem, reduceIte, Nat.reduceEqDiff, Nat.reduceAdd, Nat.reduceLT, Nat.reduceLeDiff, Nat.reduceSub, Nat.reduceMul, Nat.reducePow, Int.reduceToNat, Int.reduceLT, Int.reduceLE, Int.reduceEq, Int.reduceNeg, decide_true, decide_false, Bool.not_true, Bool.not_false]
  simp only [go_sem, reduceIte, Nat.reduceEqDiff, Nat.reduceAdd, Nat.reduceLT, Nat.reduceLeDiff, Nat.reduceSub, Nat.reduceMul, Nat.reducePow, Int.reduceToNat, Int.reduceLT, Int.reduceLE, Int.reduceEq, Int.reduceNeg, decide_true, decide_false, Bool.not_true, Bool.not_false, evsA]
  by_cases hl : (a.length : Int) = b.length
  · simp only [go_sem, reduceIte, Nat.reduceEqDiff, Nat.reduceAdd, Nat.reduceLT, Nat.reduceLeDiff, Nat.reduceSub, Nat.reduceMul, Nat.reducePow, Int.reduceToNat, Int.reduceLT, Int.reduceLE, Int.reduceEq, Int.reduceNeg, decide_true, decide_false, Bool.not_true, Bool.not_false, hl]
    have hl' : a.length = b.length := by omega
    refine loop_upto (k := 0) a.length (fun k R H1 => H.le H1 ∧ R = ofL [(0, .ro 7 (a.map evA)), (1, .ro 7 (b.map evA)), (5, .i k)] ∧ a.take k = b.take k) ?_ (Nat.zero_le _) ⟨H.le_refl, rfl, rfl⟩
    rintro k R H1 X hk ⟨hle, rfl, hall⟩ ih
    unfold a20_L0
    simp only [go_sem, reduceIte, Nat.reduceEqDiff, Nat.reduceAdd, Nat.reduceLT, Nat.reduceLeDiff, Nat.reduceSub, Nat.reduceMul, Nat.reducePow, Int.reduceToNat, Int.reduceLT, Int.reduceLE, Int.reduceEq, Int.reduceNeg, decide_true, decide_false, Bool.not_true, Bool.not_false]
    by_cases hlt : k < a.length
    · obtain ⟨x, hx⟩ : ∃ x, a[k]? = some x := ⟨_, List.getElem?_eq_getElem hlt⟩
      obtain ⟨y, hy⟩ : ∃ x, b[k]? = some x := ⟨_, List.getElem?_eq_getElem (hl' ▸ hlt)⟩
      have hm : x ∈ a := List.mem_of_getElem? hx
      have h37 := fun z => (f37_c x.gone z (hg x hm))
      simp only [go_sem, reduceIte, Nat.reduceEqDiff, Nat.reduceAdd, Nat.reduceLT, Nat.reduceLeDiff, Nat.reduceSub, Nat.reduceMul, Nat.reducePow, Int.reduceToNat, Int.reduceLT, Int.reduceLE, Int.reduceEq, Int.reduceNeg, decide_true, decide_false, Bool.not_true, Bool.not_false, hlt, hx, hy, evA]
      (repeat' (first | (refine opG_cases (fun hc => ?_) (fun hc => ?_) <;> simp only [go_sem, reduceIte, Nat.reduceEqDiff, Nat.reduceAdd, Nat.reduceLT, Nat.reduceLeDiff, Nat.reduceSub, Nat.reduceMul, Nat.reducePow, Int.reduceToNat, Int.reduceLT, Int.reduceLE, Int.reduceEq, Int.reduceNeg, decide_true, decide_false, Bool.not_true, Bool.not_false, hx, hy, evA, *]) | (refine ifP_cases (fun hc => ?_) (fun hc => ?_) <;> simp only [go_sem, reduceIte, Nat.reduceEqDiff, Nat.reduceAdd, Nat.reduceLT, Nat.reduceLeDiff, Nat.reduceSub, Nat.reduceMul, Nat.reducePow, Int.reduceToNat, Int.reduceLT, Int.reduceLE, Int.reduceEq, Int.reduceNeg, decide_true, decide_false, Bool.not_true, Bool.not_false, hx, hy, evA, *]) | (refine allocK_i fun nb hnb => ?_; (try simp only [set_none] at hnb); simp only [go_sem, reduceIte, Nat.reduceEqDiff, Nat.reduceAdd, Nat.reduceLT, Nat.reduceLeDiff, Nat.reduceSub, Nat.reduceMul, Nat.reducePow, Int.reduceToNat, Int.reduceLT, Int.reduceLE, Int.reduceEq, Int.reduceNeg, decide_true, decide_false, Bool.not_true, Bool.not_false, hx, hy, evA, *]) | (refine (h37 _).use ?_; simp only [go_sem, reduceIte, Nat.reduceEqDiff, Nat.reduceAdd, Nat.reduceLT, Nat.reduceLeDiff, Nat.reduceSub, Nat.reduceMul, Nat.reducePow, Int.reduceToNat, Int.reduceLT, Int.reduceLE, Int.reduceEq, Int.reduceNeg, decide_true, decide_false, Bool.not_true, Bool.not_false, hx, hy, evA, *])))
      all_goals first
        | (refine ih _ _ hlt ⟨(by (repeat (first | (refine AHeap.le_set' ?_ (by first | (simp only [*]; done) | (refine AHeap.le_none (by assumption) ?_; simp only [*]))) | (refine AHeap.le_del ?_ (by first | (simp only [*]; done) | (refine AHeap.le_none (by assumption) ?_; simp only [*]))))); first | exact AHeap.le_refl _ | assumption), by rw [wrap_up (by omega)], ?_⟩
           have hxy : x = y := by cases x; cases y; simp_all
           rw [List.take_add_one, List.take_add_one, hx, hy, hall, hxy])
        | (have hne : ¬ a = b := fun e => by subst e; rw [hx] at hy; cases hy; simp_all
           simp only [hne, decide_false]
           exact GhV.le (by (repeat (first | (refine AHeap.le_set' ?_ (by first | (simp only [*]; done) | (refine AHeap.le_none (by assumption) ?_; simp only [*]))) | (refine AHeap.le_del ?_ (by first | (simp only [*]; done) | (refine AHeap.le_none (by assumption) ?_; simp only [*]))))); first | exact AHeap.le_refl _ | assumption))
    · simp only [go_sem, reduceIte, Nat.reduceEqDiff, Nat.reduceAdd, Nat.reduceLT, Nat.reduceLeDiff, Nat.reduceSub, Nat.reduceMul, Nat.reducePow, Int.reduceToNat, Int.reduceLT, Int.reduceLE, Int.reduceEq, Int.reduceNeg, decide_true, decide_false, Bool.not_true, Bool.not_false, hlt]
      have : k = a.length := by omega
      subst this
      rw [List.take_length, hl', List.take_length] at hall
      simp only [hall, decide_true]
      exact GhV.le (by (repeat (first | (refine AHeap.le_set' ?_ (by first | (simp only [*]; done) | (refine AHeap.le_none (by assumption) ?_; simp only [*]))) | (refine AHeap.le_del ?_ (by first | (simp only [*]; done) | (refine AHeap.le_none (by assumption) ?_; simp only [*]))))); first | exact AHeap.le_refl _ | assumption)
  · simp only [go_sem, reduceIte, Nat.reduceEqDiff, Nat.reduceAdd, Nat.reduceLT, Nat.reduceLeDiff, Nat.reduceSub, Nat.reduceMul, Nat.reducePow, Int.reduceToNat, Int.reduceLT, Int.reduceLE, Int.reduceEq, Int.reduceNeg, decide_true, decide_false, Bool.not_true, Bool.not_false, hl]
    have : ¬ a = b := fun e => hl (by rw [e])
    simp only [this, decide_false]
    exact GhV.le (by (repeat (first | (refine AHeap.le_set' ?_ (by first | (simp only [*]; done) | (refine AHeap.le_none (by assumption) ?_; simp only [*]))) | (refine AHeap.le_del ?_ (by first | (simp only [*]; done) | (refine AHeap.le_none (by assumption) ?_; simp only [*]))))); first | exact AHeap.le_refl _ | assumption)
end Go.Proofs.Ytaeanhonfoakeaa
end

section
namespace Go.Proofs.Ytaeanhonfoakeaa
open Go Heron
set_option linter.unusedSimpArgs false
set_option linter.unusedVariables false

theorem f31_c (a b : List Int) (ha : a.length < 2 ^ 62) : Gives Try.prog 31 [intsA a, intsA b] (.b (decide (a = b))) := by
  intro H
  refine callP_body mixed Try.func31 a31_ok (by simp [a31]) ?_; simp only [a31, go_sem, reduceIte, Nat.reduceEqDiff, Nat.reduceAdd, Nat.reduceLT, Nat.reduceLeDiff, Nat.reduceSub, Nat.reduceMul, Nat.reducePow, Int.reduceToNat, Int.reduceLT, Int.reduceLE, Int.reduceEq, Int.reduceNeg, decide_true, decide_false, Bool.not_true, Bool.not_false]
  by_cases hl : (a.length : Int) = b.length
  · simp only [go_sem, reduceIte, Nat.reduceEqDiff, Nat.reduceAdd, Nat.reduceLT, Nat.reduceLeDiff, Nat.reduceSub, Nat.reduceMul, Nat.reducePow, Int.reduceToNat, Int.reduceLT, Int.reduceLE, Int.reduceEq, Int.reduceNeg, decide_true, decide_false, Bool.not_true, Bool.not_false, hl, not_true_eq_false]
    have hl' : a.length = b.length := by omega
    refine loop_upto (k := 0) a.length (fun k R H1 => H.le H1 ∧ R = ofL [(0, intsA a), (1, intsA b), (12, .i b.length), (13, .i k)] ∧ a.take k = b.take k) ?_ (Nat.zero_le _) ⟨H.le_refl, rfl, rfl⟩
    rintro k R H1 X hk ⟨hle, rfl, hall⟩ ih
    unfold a31_L0
    simp only [go_sem, reduceIte, Nat.reduceEqDiff, Nat.reduceAdd, Nat.reduceLT, Nat.reduceLeDiff, Nat.reduceSub, Nat.reduceMul, Nat.reducePow, Int.reduceToNat, Int.reduceLT, Int.reduceLE, Int.reduceEq, Int.reduceNeg, decide_true, decide_false, Bool.not_true, Bool.not_false]
    by_cases hlt : k < a.length
    · obtain ⟨x, hx⟩ : ∃ x, a[k]? = some x := ⟨_, List.getElem?_eq_getElem hlt⟩
      obtain ⟨y, hy⟩ : ∃ x, b[k]? = some x := ⟨_, List.getElem?_eq_getElem (hl' ▸ hlt)⟩
      have hlb : k < b.length := by omega
      simp only [go_sem, reduceIte, Nat.reduceEqDiff, Nat.reduceAdd, Nat.reduceLT, Nat.reduceLeDiff, Nat.reduceSub, Nat.reduceMul, Nat.reducePow, Int.reduceToNat, Int.reduceLT, Int.reduceLE, Int.reduceEq, Int.reduceNeg, decide_true, decide_false, Bool.not_true, Bool.not_false, hlt, hlb, hx, hy]
      by_cases hxy : x = y
      · simp only [go_sem, reduceIte, Nat.reduceEqDiff, Nat.reduceAdd, Nat.reduceLT, Nat.reduceLeDiff, Nat.reduceSub, Nat.reduceMul, Nat.reducePow, Int.reduceToNat, Int.reduceLT, Int.reduceLE, Int.reduceEq, Int.reduceNeg, decide_true, decide_false, Bool.not_true, Bool.not_false, hxy, not_true_eq_false]
        subst hxy
        refine ih _ _ hlt ⟨hle, by rw [wrap_up (by omega)], ?_⟩
        rw [List.take_add_one, List.take_add_one, hx, hy, hall]
      · simp only [go_sem, reduceIte, Nat.reduceEqDiff, Nat.reduceAdd, Nat.reduceLT, Nat.reduceLeDiff, Nat.reduceSub, Nat.reduceMul, Nat.reducePow, Int.reduceToNat, Int.reduceLT, Int.reduceLE, Int.reduceEq, Int.reduceNeg, decide_true, decide_false, Bool.not_true, Bool.not_false, hxy, not_false_eq_true]
        have : ¬ a = b := fun e => hxy (by rw [e, hy] at hx; exact (Option.some.inj hx).symm)
        simp only [this, decide_false]
        exact GhV.le (by (repeat (first | (refine AHeap.le_set' ?_ (by first | (simp only [*]; done) | (refine AHeap.le_none (by assumption) ?_; simp only [*]))) | (refine AHeap.le_del ?_ (by first | (simp only [*]; done) | (refine AHeap.le_none (by assumption) ?_; simp only [*]))))); first | exact AHeap.le_refl _ | assumption)
    · have hlb : ¬ k < b.length := by omega
      simp only [go_sem, reduceIte, Nat.reduceEqDiff, Nat.reduceAdd, Nat.reduceLT, Nat.reduceLeDiff, Nat.reduceSub, Nat.reduceMul, Nat.reducePow, Int.reduceToNat, Int.reduceLT, Int.reduceLE, Int.reduceEq, Int.reduceNeg, decide_true, decide_false, Bool.not_true, Bool.not_false, hlb]
      have : k = a.length := by omega
      subst this
      rw [List.take_length, hl', List.take_length] at hall
      simp only [hall, decide_true]
      exact GhV.le (by (repeat (first | (refine AHeap.le_set' ?_ (by first | (simp only [*]; done) | (refine AHeap.le_none (by assumption) ?_; simp only [*]))) | (refine AHeap.le_del ?_ (by first | (simp only [*]; done) | (refine AHeap.le_none (by assumption) ?_; simp only [*]))))); first | exact AHeap.le_refl _ | assumption)
  · simp only [go_sem, reduceIte, Nat.reduceEqDiff, Nat.reduceAdd, Nat.reduceLT, Nat.reduceLeDiff, Nat.reduceSub, Nat.reduceMul, Nat.reducePow, Int.reduceToNat, Int.reduceLT, Int.reduceLE, Int.reduceEq, Int.reduceNeg, decide_true, decide_false, Bool.not_true, Bool.not_false, hl, not_false_eq_true]
    have : ¬ a = b := fun e => hl (by rw [e])
    simp only [this, decide_false]
    exact GhV.le (by (repeat (first | (refine AHeap.le_set' ?_ (by first | (simp only [*]; done) | (refine AHeap.le_none (by assumption) ?_; simp only [*]))) | (refine AHeap.le_del ?_ (by first | (simp only [*]; done) | (refine AHeap.le_none (by assumption) ?_; simp only [*]))))); first | exact AHeap.le_refl _ | assumption)

theorem enter30 : enterable Try.prog 30 = true := by kernel_rfl
def matA (l : List (List UInt8)) : AVal := .ro 1 (l.map bytesA)

theorem f29_c (a b : List (List UInt8)) (ha : a.length < 2 ^ 62) : Gives Try.prog 29 [matA a, matA b, .fn 30 []] (.b (decide (a = b))) := by
  intro H
  refine callP_body mixed Try.func29 a29_ok (by simp [a29]) ?_; simp only [a29, go_sem, reduceIte, Nat.reduceEqDiff, Nat.reduceAdd, Nat.reduceLT, Nat.reduceLeDiff, Nat.reduceSub, Nat.reduceMul, Nat.reducePow, Int.reduceToNat, Int.reduceLT, Int.reduceLE, Int.reduceEq, Int.reduceNeg, decide_true, decide_false, Bool.not_true, Bool.not_false]
  simp only [go_sem, reduceIte, Nat.reduceEqDiff, Nat.reduceAdd, Nat.reduceLT, Nat.reduceLeDiff, Nat.reduceSub, Nat.reduceMul, Nat.reducePow, Int.reduceToNat, Int.reduceLT, Int.reduceLE, Int.reduceEq, Int.reduceNeg, decide_true, decide_false, Bool.not_true, Bool.not_false, matA]
  by_cases hl : (a.length : Int) = b.length
  · simp only [go_sem, reduceIte, Nat.reduceEqDiff, Nat.reduceAdd, Nat.reduceLT, Nat.reduceLeDiff, Nat.reduceSub, Nat.reduceMul, Nat.reducePow, Int.reduceToNat, Int.reduceLT, Int.reduceLE, Int.reduceEq, Int.reduceNeg, decide_true, decide_false, Bool.not_true, Bool.not_false, hl, not_true_eq_false]
    have hl' : a.length = b.length := by omega
    refine loop_upto (k := 0) a.length (fun k R H1 => H.le H1 ∧ R = ofL [(1, .ro 1 (b.map bytesA)), (2, .fn 30 []), (15, .ro 1 (a.map bytesA)), (16, .i b.length), (17, .i k)] ∧ a.take k = b.take k) ?_ (Nat.zero_le _) ⟨H.le_refl, rfl, rfl⟩
    rintro k R H1 X hk ⟨hle, rfl, hall⟩ ih
    unfold a29_L0
    simp only [go_sem, reduceIte, Nat.reduceEqDiff, Nat.reduceAdd, Nat.reduceLT, Nat.reduceLeDiff, Nat.reduceSub, Nat.reduceMul, Nat.reducePow, Int.reduceToNat, Int.reduceLT, Int.reduceLE, Int.reduceEq, Int.reduceNeg, decide_true, decide_false, Bool.not_true, Bool.not_false]
    by_cases hlt : k < a.length
    · obtain ⟨x, hx⟩ : ∃ x, a[k]? = some x := ⟨_, List.getElem?_eq_getElem hlt⟩
      obtain ⟨y, hy⟩ : ∃ x, b[k]? = some x := ⟨_, List.getElem?_eq_getElem (hl' ▸ hlt)⟩
      have hlb : k < b.length := by omega
      simp only [go_sem, reduceIte, Nat.reduceEqDiff, Nat.reduceAdd, Nat.reduceLT, Nat.reduceLeDiff, Nat.reduceSub, Nat.reduceMul, Nat.reducePow, Int.reduceToNat, Int.reduceLT, Int.reduceLE, Int.reduceEq, Int.reduceNeg, decide_true, decide_false, Bool.not_true, Bool.not_false, hlt, hlb, hx, hy, enter30, List.append_nil]
      refine (f30_c _ _).use ?_
      simp only [go_sem, reduceIte, Nat.reduceEqDiff, Nat.reduceAdd, Nat.reduceLT, Nat.reduceLeDiff, Nat.reduceSub, Nat.reduceMul, Nat.reducePow, Int.reduceToNat, Int.reduceLT, Int.reduceLE, Int.reduceEq, Int.reduceNeg, decide_true, decide_false, Bool.not_true, Bool.not_false]
      by_cases hxy : x = y
      · simp only [go_sem, reduceIte, Nat.reduceEqDiff, Nat.reduceAdd, Nat.reduceLT, Nat.reduceLeDiff, Nat.reduceSub, Nat.reduceMul, Nat.reducePow, Int.reduceToNat, Int.reduceLT, Int.reduceLE, Int.reduceEq, Int.reduceNeg, decide_true, decide_false, Bool.not_true, Bool.not_false, hxy]
        subst hxy
        refine ih _ _ hlt ⟨hle, by rw [wrap_up (by omega)], ?_⟩
        rw [List.take_add_one, List.take_add_one, hx, hy, hall]
      · simp only [go_sem, reduceIte, Nat.reduceEqDiff, Nat.reduceAdd, Nat.reduceLT, Nat.reduceLeDiff, Nat.reduceSub, Nat.reduceMul, Nat.reducePow, Int.reduceToNat, Int.reduceLT, Int.reduceLE, Int.reduceEq, Int.reduceNeg, decide_true, decide_false, Bool.not_true, Bool.not_false, hxy]
        have : ¬ a = b := fun e => hxy (by rw [e, hy] at hx; exact (Option.some.inj hx).symm)
        simp only [this, decide_false]
        exact GhV.le (by (repeat (first | (refine AHeap.le_set' ?_ (by first | (simp only [*]; done) | (refine AHeap.le_none (by assumption) ?_; simp only [*]))) | (refine AHeap.le_del ?_ (by first | (simp only [*]; done) | (refine AHeap.le_none (by assumption) ?_; simp only [*]))))); first | exact AHeap.le_refl _ | assumption)
    · have hlb : ¬ k < b.length := by omega
      simp only [go_sem, reduceIte, Nat.reduceEqDiff, Nat.reduceAdd, Nat.reduceLT, Nat.reduceLeDiff, Nat.reduceSub, Nat.reduceMul, Nat.reducePow, Int.reduceToNat, Int.reduceLT, Int.reduceLE, Int.reduceEq, Int.reduceNeg, decide_true, decide_false, Bool.not_true, Bool.not_false, hlb]
      have : k = a.length := by omega
      subst this
      rw [List.take_length, hl', List.take_length] at hall
      simp only [hall, decide_true]
      exact GhV.le (by (repeat (first | (refine AHeap.le_set' ?_ (by first | (simp only [*]; done) | (refine AHeap.le_none (by assumption) ?_; simp only [*]))) | (refine AHeap.le_del ?_ (by first | (simp only [*]; done) | (refine AHeap.le_none (by assumption) ?_; simp only [*]))))); first | exact AHeap.le_refl _ | assumption)
  · simp only [go_sem, reduceIte, Nat.reduceEqDiff, Nat.reduceAdd, Nat.reduceLT, Nat.reduceLeDiff, Nat.reduceSub, Nat.reduceMul, Nat.reducePow, Int.reduceToNat, Int.reduceLT, Int.reduceLE, Int.reduceEq, Int.reduceNeg, decide_true, decide_false, Bool.not_true, Bool.not_false, hl, not_false_eq_true]
    have : ¬ a = b := fun e => hl (by rw [e])
    simp only [this, decide_false]
    exact GhV.le (by (repeat (first | (refine AHeap.le_set' ?_ (by first | (simp only [*]; done) | (refine AHeap.le_none (by assumption) ?_; simp only [*]))) | (refine AHeap.le_del ?_ (by first | (simp only [*]; done) | (refine AHeap.le_none (by assumption) ?_; simp only [*]))))); first | exact AHeap.le_refl _ | assumption)

/-- A state. -/
structure Stt where
  blocks : List (List UInt8)
  counters : List Int
  deriving DecidableEq
def sttA (s : Stt) : AVal := .agg [matA s.blocks, intsA s.counters]
theorem cells_matA {l : List (List UInt8)} : (matA l).cells = [matA l] := nr rfl
theorem ok_matA {l : List (List UInt8)} : (matA l).cellOk = true := nr rfl
attribute [go_sem] cells_matA ok_matA

theorem f15_c (a b : Stt) (ha : a.blocks.length < 2 ^ 62) (hb : a.counters.length < 2 ^ 62) : Gives Try.prog 15 [sttA a, sttA b] (.b (decide (a = b))) := by
  intro H
  refine callP_body mixed Try.func15 a15_ok (by simp [a15]) ?_; simp only [a15, go_sem, reduceIte, Nat.reduceEqDiff, Nat.reduceAdd, Nat.reduceLT, Nat.reduceLeDiff, Nat.reduceSub, Nat.reduceMul, Nat.reducePow, Int.reduceToNat, Int.reduceLT, Int.reduceLE, Int.reduceEq, Int.reduceNeg, decide_true, decide_false, Bool.not_true, Bool.not_false]
  simp only [go_sem, reduceIte, Nat.reduceEqDiff, Nat.reduceAdd, Nat.reduceLT, Nat.reduceLeDiff, Nat.reduceSub, Nat.reduceMul, Nat.reducePow, Int.reduceToNat, Int.reduceLT, Int.reduceLE, Int.reduceEq, Int.reduceNeg, decide_true, decide_false, Bool.not_true, Bool.not_false, sttA]
  refine allocK_i fun b1 hb1 => ?_
  try simp only [set_none] at hb1
  simp only [go_sem, reduceIte, Nat.reduceEqDiff, Nat.reduceAdd, Nat.reduceLT, Nat.reduceLeDiff, Nat.reduceSub, Nat.reduceMul, Nat.reducePow, Int.reduceToNat, Int.reduceLT, Int.reduceLE, Int.reduceEq, Int.reduceNeg, decide_true, decide_false, Bool.not_true, Bool.not_false]
  refine allocK_i fun b2 hb2 => ?_
  try simp only [set_none] at hb2
  simp only [go_sem, reduceIte, Nat.reduceEqDiff, Nat.reduceAdd, Nat.reduceLT, Nat.reduceLeDiff, Nat.reduceSub, Nat.reduceMul, Nat.reducePow, Int.reduceToNat, Int.reduceLT, Int.reduceLE, Int.reduceEq, Int.reduceNeg, decide_true, decide_false, Bool.not_true, Bool.not_false, hb2]
  refine (f29_c _ _ ha).use ?_
  simp only [go_sem, reduceIte, Nat.reduceEqDiff, Nat.reduceAdd, Nat.reduceLT, Nat.reduceLeDiff, Nat.reduceSub, Nat.reduceMul, Nat.reducePow, Int.reduceToNat, Int.reduceLT, Int.reduceLE, Int.reduceEq, Int.reduceNeg, decide_true, decide_false, Bool.not_true, Bool.not_false]
  by_cases h1 : a.blocks = b.blocks
  · simp only [go_sem, reduceIte, Nat.reduceEqDiff, Nat.reduceAdd, Nat.reduceLT, Nat.reduceLeDiff, Nat.reduceSub, Nat.reduceMul, Nat.reducePow, Int.reduceToNat, Int.reduceLT, Int.reduceLE, Int.reduceEq, Int.reduceNeg, decide_true, decide_false, Bool.not_true, Bool.not_false, h1, hb2]
    refine (f31_c _ _ hb).use ?_
    simp only [go_sem, reduceIte, Nat.reduceEqDiff, Nat.reduceAdd, Nat.reduceLT, Nat.reduceLeDiff, Nat.reduceSub, Nat.reduceMul, Nat.reducePow, Int.reduceToNat, Int.reduceLT, Int.reduceLE, Int.reduceEq, Int.reduceNeg, decide_true, decide_false, Bool.not_true, Bool.not_false]
    by_cases h2 : a.counters = b.counters
    · have : a = b := by cases a; cases b; simp_all
      simp only [go_sem, reduceIte, Nat.reduceEqDiff, Nat.reduceAdd, Nat.reduceLT, Nat.reduceLeDiff, Nat.reduceSub, Nat.reduceMul, Nat.reducePow, Int.reduceToNat, Int.reduceLT, Int.reduceLE, Int.reduceEq, Int.reduceNeg, decide_true, decide_false, Bool.not_true, Bool.not_false, this]
      exact GhV.le (by (repeat (first | (refine AHeap.le_set' ?_ (by first | (simp only [*]; done) | (refine AHeap.le_none (by assumption) ?_; simp only [*]))) | (refine AHeap.le_del ?_ (by first | (simp only [*]; done) | (refine AHeap.le_none (by assumption) ?_; simp only [*]))))); first | exact AHeap.le_refl _ | assumption)
    · have : ¬ a = b := fun e => h2 (by rw [e])
      simp only [this, h2, decide_false]
      exact GhV.le (by (repeat (first | (refine AHeap.le_set' ?_ (by first | (simp only [*]; done) | (refine AHeap.le_none (by assumption) ?_; simp only [*]))) | (refine AHeap.le_del ?_ (by first | (simp only [*]; done) | (refine AHeap.le_none (by assumption) ?_; simp only [*]))))); first | exact AHeap.le_refl _ | assumption)
  · have : ¬ a = b := fun e => h1 (by rw [e])
    simp only [go_sem, reduceIte, Nat.reduceEqDiff, Nat.reduceAdd, Nat.reduceLT, Nat.reduceLeDiff, Nat.reduceSub, Nat.reduceMul, Nat.reducePow, Int.reduceToNat, Int.reduceLT, Int.reduceLE, Int.reduceEq, Int.reduceNeg, decide_true, decide_false, Bool.not_true, Bool.not_false, h1, this]
    exact GhV.le (by (repeat (first | (refine AHeap.le_set' ?_ (by first | (simp only [*]; done) | (refine AHeap.le_none (by assumption) ?_; simp only [*]))) | (refine AHeap.le_del ?_ (by first | (simp only [*]; done) | (refine AHeap.le_none (by assumption) ?_; simp only [*]))))); first | exact AHeap.le_refl _ | assumption)

theorem f14_c' (s : Stt) : Gives Try.prog 14 [sttA s] (sttA s) := f14_c _ _ rfl rfl rfl rfl
theorem f23_c (s : Stt) : Gives Try.prog 23 [sttA s] (sttA s) := by
  intro H
  refine callP_body mixed Try.func23 a23_ok (by simp [a23]) ?_; simp only [a23, go_sem, reduceIte, Nat.reduceEqDiff, Nat.reduceAdd, Nat.reduceLT, Nat.reduceLeDiff, Nat.reduceSub, Nat.reduceMul, Nat.reducePow, Int.reduceToNat, Int.reduceLT, Int.reduceLE, Int.reduceEq, Int.reduceNeg, decide_true, decide_false, Bool.not_true, Bool.not_false]
  simp only [go_sem, reduceIte, Nat.reduceEqDiff, Nat.reduceAdd, Nat.reduceLT, Nat.reduceLeDiff, Nat.reduceSub, Nat.reduceMul, Nat.reducePow, Int.reduceToNat, Int.reduceLT, Int.reduceLE, Int.reduceEq, Int.reduceNeg, decide_true, decide_false, Bool.not_true, Bool.not_false, sttA]
  refine allocK_i fun b1 hb1 => ?_
  try simp only [set_none] at hb1
  simp only [go_sem, reduceIte, Nat.reduceEqDiff, Nat.reduceAdd, Nat.reduceLT, Nat.reduceLeDiff, Nat.reduceSub, Nat.reduceMul, Nat.reducePow, Int.reduceToNat, Int.reduceLT, Int.reduceLE, Int.reduceEq, Int.reduceNeg, decide_true, decide_false, Bool.not_true, Bool.not_false]
  refine allocK_i fun b2 hb2 => ?_
  try simp only [set_none] at hb2
  simp only [go_sem, reduceIte, Nat.reduceEqDiff, Nat.reduceAdd, Nat.reduceLT, Nat.reduceLeDiff, Nat.reduceSub, Nat.reduceMul, Nat.reducePow, Int.reduceToNat, Int.reduceLT, Int.reduceLE, Int.reduceEq, Int.reduceNeg, decide_true, decide_false, Bool.not_true, Bool.not_false, hb2]

  exact GhV.le (by (repeat (first | (refine AHeap.le_set' ?_ (by first | (simp only [*]; done) | (refine AHeap.le_none (by assumption) ?_; simp only [*]))) | (refine AHeap.le_del ?_ (by first | (simp only [*]; done) | (refine AHeap.le_none (by assumption) ?_; simp only [*]))))); first | exact AHeap.le_refl _ | assumption)

theorem f44_c (x : Ev) : Gives Try.prog 44 [evA x] (.b (decide (4 ≤ x.what) && decide (x.what ≤ 7))) := by
  intro H
  refine callP_body mixed Try.func44 a44_ok (by simp [a44]) ?_; simp only [a44, go_sem, reduceIte, Nat.reduceEqDiff, Nat.reduceAdd, Nat.reduceLT, Nat.reduceLeDiff, Nat.reduceSub, Nat.reduceMul, Nat.reducePow, Int.reduceToNat, Int.reduceLT, Int.reduceLE, Int.reduceEq, Int.reduceNeg, decide_true, decide_false, Bool.not_true, Bool.not_false]
  simp only [go_sem, reduceIte, Nat.reduceEqDiff, Nat.reduceAdd, Nat.reduceLT, Nat.reduceLeDiff, Nat.reduceSub, Nat.reduceMul, Nat.reducePow, Int.reduceToNat, Int.reduceLT, Int.reduceLE, Int.reduceEq, Int.reduceNeg, decide_true, decide_false, Bool.not_true, Bool.not_false, evA]
  refine allocK_i fun b1 hb1 => ?_
  try simp only [set_none] at hb1
  simp only [go_sem, reduceIte, Nat.reduceEqDiff, Nat.reduceAdd, Nat.reduceLT, Nat.reduceLeDiff, Nat.reduceSub, Nat.reduceMul, Nat.reducePow, Int.reduceToNat, Int.reduceLT, Int.reduceLE, Int.reduceEq, Int.reduceNeg, decide_true, decide_false, Bool.not_true, Bool.not_false, hb1]
  by_cases h1 : 4 ≤ x.what
  · simp only [go_sem, reduceIte, Nat.reduceEqDiff, Nat.reduceAdd, Nat.reduceLT, Nat.reduceLeDiff, Nat.reduceSub, Nat.reduceMul, Nat.reducePow, Int.reduceToNat, Int.reduceLT, Int.reduceLE, Int.reduceEq, Int.reduceNeg, decide_true, decide_false, Bool.not_true, Bool.not_false, h1, hb1]
    exact GhV.le (by (repeat (first | (refine AHeap.le_set' ?_ (by first | (simp only [*]; done) | (refine AHeap.le_none (by assumption) ?_; simp only [*]))) | (refine AHeap.le_del ?_ (by first | (simp only [*]; done) | (refine AHeap.le_none (by assumption) ?_; simp only [*]))))); first | exact AHeap.le_refl _ | assumption)
  · simp only [go_sem, reduceIte, Nat.reduceEqDiff, Nat.reduceAdd, Nat.reduceLT, Nat.reduceLeDiff, Nat.reduceSub, Nat.reduceMul, Nat.reducePow, Int.reduceToNat, Int.reduceLT, Int.reduceLE, Int.reduceEq, Int.reduceNeg, decide_true, decide_false, Bool.not_true, Bool.not_false, h1, Bool.false_and]
    exact GhV.le (by (repeat (first | (refine AHeap.le_set' ?_ (by first | (simp only [*]; done) | (refine AHeap.le_none (by assumption) ?_; simp only [*]))) | (refine AHeap.le_del ?_ (by first | (simp only [*]; done) | (refine AHeap.le_none (by assumption) ?_; simp only [*]))))); first | exact AHeap.le_refl _ | assumption)

theorem okEs_bytes {l : List (List UInt8)} : okEs (l.map bytesA) := by
  intro e he
  obtain ⟨x, _, rfl⟩ := List.mem_map.1 he
  rfl
theorem okEs_ints {l : List Int} : okEs (l.map AVal.i) := by
  intro e he
  obtain ⟨x, _, rfl⟩ := List.mem_map.1 he
  rfl
theorem okEs_evs {l : List Ev} : okEs (l.map evA) := by
  intro e he
  obtain ⟨x, _, rfl⟩ := List.mem_map.1 he
  rfl

/-- A copy of a slice is one's own. -/
theorem f25_c (l : List Int) (hl : l.length ≤ 2 ^ 30) (H : AHeap) (K : AVal → AHeap → Prop) (hk : ∀ a' H', Acc H 1 (l.map AVal.i) a' H' → K a' H') : callP Try.prog 25 [intsA l] H K := by
  refine callP_body mixed Try.func25 a25_ok (by simp [a25]) ?_; simp only [a25, go_sem, reduceIte, Nat.reduceEqDiff, Nat.reduceAdd, Nat.reduceLT, Nat.reduceLeDiff, Nat.reduceSub, Nat.reduceMul, Nat.reducePow, Int.reduceToNat, Int.reduceLT, Int.reduceLE, Int.reduceEq, Int.reduceNeg, decide_true, decide_false, Bool.not_true, Bool.not_false]
  refine eqnK_ro (fun e c => ?_) (fun e => ?_)
  · have : l = [] := by simpa using e
    subst this
    cases c with
    | true => simp only [go_sem, reduceIte, Nat.reduceEqDiff, Nat.reduceAdd, Nat.reduceLT, Nat.reduceLeDiff, Nat.reduceSub, Nat.reduceMul, Nat.reducePow, Int.reduceToNat, Int.reduceLT, Int.reduceLE, Int.reduceEq, Int.reduceNeg, decide_true, decide_false, Bool.not_true, Bool.not_false]; exact hk _ _ (Acc.nil H.le_refl)
    | false =>
      simp only [go_sem, reduceIte, Nat.reduceEqDiff, Nat.reduceAdd, Nat.reduceLT, Nat.reduceLeDiff, Nat.reduceSub, Nat.reduceMul, Nat.reducePow, Int.reduceToNat, Int.reduceLT, Int.reduceLE, Int.reduceEq, Int.reduceNeg, decide_true, decide_false, Bool.not_true, Bool.not_false, intsA]
      refine allocK_i fun b1 hb1 => ?_
      try simp only [set_none] at hb1
      simp only [go_sem, reduceIte, Nat.reduceEqDiff, Nat.reduceAdd, Nat.reduceLT, Nat.reduceLeDiff, Nat.reduceSub, Nat.reduceMul, Nat.reducePow, Int.reduceToNat, Int.reduceLT, Int.reduceLE, Int.reduceEq, Int.reduceNeg, decide_true, decide_false, Bool.not_true, Bool.not_false]
      refine Acc.app (H0 := H) (xs := []) ⟨(by (repeat (first | (refine AHeap.le_set' ?_ (by first | (simp only [*]; done) | (refine AHeap.le_none (by assumption) ?_; simp only [*]))) | (refine AHeap.le_del ?_ (by first | (simp only [*]; done) | (refine AHeap.le_none (by assumption) ?_; simp only [*]))))); first | exact AHeap.le_refl _ | assumption), .inr ⟨b1, 0, hb1, rfl, by simp [set_get]⟩⟩ (by simp) (fun e he => by cases he) (fun a' H' h => ?_)
      simp only [go_sem, reduceIte, Nat.reduceEqDiff, Nat.reduceAdd, Nat.reduceLT, Nat.reduceLeDiff, Nat.reduceSub, Nat.reduceMul, Nat.reducePow, Int.reduceToNat, Int.reduceLT, Int.reduceLE, Int.reduceEq, Int.reduceNeg, decide_true, decide_false, Bool.not_true, Bool.not_false]
      exact hk _ _ h
  · simp only [go_sem, reduceIte, Nat.reduceEqDiff, Nat.reduceAdd, Nat.reduceLT, Nat.reduceLeDiff, Nat.reduceSub, Nat.reduceMul, Nat.reducePow, Int.reduceToNat, Int.reduceLT, Int.reduceLE, Int.reduceEq, Int.reduceNeg, decide_true, decide_false, Bool.not_true, Bool.not_false, intsA]
    refine allocK_i fun b1 hb1 => ?_
    try simp only [set_none] at hb1
    simp only [go_sem, reduceIte, Nat.reduceEqDiff, Nat.reduceAdd, Nat.reduceLT, Nat.reduceLeDiff, Nat.reduceSub, Nat.reduceMul, Nat.reducePow, Int.reduceToNat, Int.reduceLT, Int.reduceLE, Int.reduceEq, Int.reduceNeg, decide_true, decide_false, Bool.not_true, Bool.not_false]
    refine Acc.app (H0 := H) (xs := []) ⟨(by (repeat (first | (refine AHeap.le_set' ?_ (by first | (simp only [*]; done) | (refine AHeap.le_none (by assumption) ?_; simp only [*]))) | (refine AHeap.le_del ?_ (by first | (simp only [*]; done) | (refine AHeap.le_none (by assumption) ?_; simp only [*]))))); first | exact AHeap.le_refl _ | assumption), .inr ⟨b1, 0, hb1, rfl, by simp [set_get]⟩⟩ (by simp; omega) okEs_ints (fun a' H' h => ?_)
    simp only [go_sem, reduceIte, Nat.reduceEqDiff, Nat.reduceAdd, Nat.reduceLT, Nat.reduceLeDiff, Nat.reduceSub, Nat.reduceMul, Nat.reducePow, Int.reduceToNat, Int.reduceLT, Int.reduceLE, Int.reduceEq, Int.reduceNeg, decide_true, decide_false, Bool.not_true, Bool.not_false]
    exact hk _ _ h

theorem f24_c (l : List (List UInt8)) (hl : l.length ≤ 2 ^ 30) (H : AHeap) (K : AVal → AHeap → Prop) (hk : ∀ a' H', Acc H 1 (l.map bytesA) a' H' → K a' H') : callP Try.prog 24 [matA l] H K := by
  refine callP_body mixed Try.func24 a24_ok (by simp [a24]) ?_; simp only [a24, go_sem, reduceIte, Nat.reduceEqDiff, Nat.reduceAdd, Nat.reduceLT, Nat.reduceLeDiff, Nat.reduceSub, Nat.reduceMul, Nat.reducePow, Int.reduceToNat, Int.reduceLT, Int.reduceLE, Int.reduceEq, Int.reduceNeg, decide_true, decide_false, Bool.not_true, Bool.not_false]
  simp only [go_sem, reduceIte, Nat.reduceEqDiff, Nat.reduceAdd, Nat.reduceLT, Nat.reduceLeDiff, Nat.reduceSub, Nat.reduceMul, Nat.reducePow, Int.reduceToNat, Int.reduceLT, Int.reduceLE, Int.reduceEq, Int.reduceNeg, decide_true, decide_false, Bool.not_true, Bool.not_false, matA]
  refine eqnK_ro (fun e c => ?_) (fun e => ?_)
  · have : l = [] := by simpa using e
    subst this
    cases c with
    | true => simp only [go_sem, reduceIte, Nat.reduceEqDiff, Nat.reduceAdd, Nat.reduceLT, Nat.reduceLeDiff, Nat.reduceSub, Nat.reduceMul, Nat.reducePow, Int.reduceToNat, Int.reduceLT, Int.reduceLE, Int.reduceEq, Int.reduceNeg, decide_true, decide_false, Bool.not_true, Bool.not_false]; exact hk _ _ (Acc.nil H.le_refl)
    | false =>
      simp only [go_sem, reduceIte, Nat.reduceEqDiff, Nat.reduceAdd, Nat.reduceLT, Nat.reduceLeDiff, Nat.reduceSub, Nat.reduceMul, Nat.reducePow, Int.reduceToNat, Int.reduceLT, Int.reduceLE, Int.reduceEq, Int.reduceNeg, decide_true, decide_false, Bool.not_true, Bool.not_false]
      refine allocK_i fun b1 hb1 => ?_
      try simp only [set_none] at hb1
      simp only [go_sem, reduceIte, Nat.reduceEqDiff, Nat.reduceAdd, Nat.reduceLT, Nat.reduceLeDiff, Nat.reduceSub, Nat.reduceMul, Nat.reducePow, Int.reduceToNat, Int.reduceLT, Int.reduceLE, Int.reduceEq, Int.reduceNeg, decide_true, decide_false, Bool.not_true, Bool.not_false]
      refine Acc.app (H0 := H) (xs := []) ⟨(by (repeat (first | (refine AHeap.le_set' ?_ (by first | (simp only [*]; done) | (refine AHeap.le_none (by assumption) ?_; simp only [*]))) | (refine AHeap.le_del ?_ (by first | (simp only [*]; done) | (refine AHeap.le_none (by assumption) ?_; simp only [*]))))); first | exact AHeap.le_refl _ | assumption), .inr ⟨b1, 0, hb1, rfl, by simp [set_get]⟩⟩ (by simp) (fun e he => by cases he) (fun a' H' h => ?_)
      simp only [go_sem, reduceIte, Nat.reduceEqDiff, Nat.reduceAdd, Nat.reduceLT, Nat.reduceLeDiff, Nat.reduceSub, Nat.reduceMul, Nat.reducePow, Int.reduceToNat, Int.reduceLT, Int.reduceLE, Int.reduceEq, Int.reduceNeg, decide_true, decide_false, Bool.not_true, Bool.not_false]
      exact hk _ _ h
  · simp only [go_sem, reduceIte, Nat.reduceEqDiff, Nat.reduceAdd, Nat.reduceLT, Nat.reduceLeDiff, Nat.reduceSub, Nat.reduceMul, Nat.reducePow, Int.reduceToNat, Int.reduceLT, Int.reduceLE, Int.reduceEq, Int.reduceNeg, decide_true, decide_false, Bool.not_true, Bool.not_false]
    refine allocK_i fun b1 hb1 => ?_
    try simp only [set_none] at hb1
    simp only [go_sem, reduceIte, Nat.reduceEqDiff, Nat.reduceAdd, Nat.reduceLT, Nat.reduceLeDiff, Nat.reduceSub, Nat.reduceMul, Nat.reducePow, Int.reduceToNat, Int.reduceLT, Int.reduceLE, Int.reduceEq, Int.reduceNeg, decide_true, decide_false, Bool.not_true, Bool.not_false]
    refine Acc.app (H0 := H) (xs := []) ⟨(by (repeat (first | (refine AHeap.le_set' ?_ (by first | (simp only [*]; done) | (refine AHeap.le_none (by assumption) ?_; simp only [*]))) | (refine AHeap.le_del ?_ (by first | (simp only [*]; done) | (refine AHeap.le_none (by assumption) ?_; simp only [*]))))); first | exact AHeap.le_refl _ | assumption), .inr ⟨b1, 0, hb1, rfl, by simp [set_get]⟩⟩ (by simp; omega) okEs_bytes (fun a' H' h => ?_)
    simp only [go_sem, reduceIte, Nat.reduceEqDiff, Nat.reduceAdd, Nat.reduceLT, Nat.reduceLeDiff, Nat.reduceSub, Nat.reduceMul, Nat.reducePow, Int.reduceToNat, Int.reduceLT, Int.reduceLE, Int.reduceEq, Int.reduceNeg, decide_true, decide_false, Bool.not_true, Bool.not_false]
    exact hk _ _ h

end Go.Proofs.Ytaeanhonfoakeaa
end

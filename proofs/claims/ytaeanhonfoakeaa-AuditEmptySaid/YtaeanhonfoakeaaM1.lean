/- Contracts: lists of events, blank states. Contracts: states that are written. Contracts: replays. -/
import Derived.Test.YtaeanhonfoakeaaM0
import Derived.Test.YtaeanhonfoakeaaK11
section
namespace Go.Proofs.Ytaeanhonfoakeaa
open Go Heron
set_option linter.unusedSimpArgs false
set_option linter.unusedVariables false

theorem take_map_succ {α β : Type} {l : List α} {k : Nat} {x : α} (f : α → β) (hx : l[k]? = some x) : (l.take k).map f ++ [f x] = (l.take (k + 1)).map f := by
  rw [List.take_add_one, hx]; simp

theorem f13_c (h : List Ev) (hl : h.length ≤ 2 ^ 20) : Gives Try.prog 13 [evsA h] (evsA h) := by
  intro H
  refine callP_body mixed Try.func13 a13_ok (by simp [a13]) ?_; simp only [a13, go_sem, reduceIte, Nat.reduceEqDiff, Nat.reduceAdd, Nat.reduceLT, Nat.reduceLeDiff, Nat.reduceSub, Nat.reduceMul, Nat.reducePow, Int.reduceToNat, Int.reduceLT, Int.reduceLE, Int.reduceEq, Int.reduceNeg, decide_true, decide_false, Bool.not_true, Bool.not_false]
  simp only [go_sem, reduceIte, Nat.reduceEqDiff, Nat.reduceAdd, Nat.reduceLT, Nat.reduceLeDiff, Nat.reduceSub, Nat.reduceMul, Nat.reducePow, Int.reduceToNat, Int.reduceLT, Int.reduceLE, Int.reduceEq, Int.reduceNeg, decide_true, decide_false, Bool.not_true, Bool.not_false, evsA]
  refine loop_upto (k := 0) h.length (fun k R H1 => ∃ a, Acc H 7 ((h.take k).map evA) a H1 ∧ R = ofL [(0, .ro 7 (h.map evA)), (3, a), (4, .i k)]) ?_ (Nat.zero_le _) ⟨_, Acc.nil H.le_refl, rfl⟩
  rintro k R H1 X hk ⟨a, hacc, rfl⟩ ih
  unfold a13_L0
  simp only [go_sem, reduceIte, Nat.reduceEqDiff, Nat.reduceAdd, Nat.reduceLT, Nat.reduceLeDiff, Nat.reduceSub, Nat.reduceMul, Nat.reducePow, Int.reduceToNat, Int.reduceLT, Int.reduceLE, Int.reduceEq, Int.reduceNeg, decide_true, decide_false, Bool.not_true, Bool.not_false]
  by_cases hlt : k < h.length
  · obtain ⟨x, hx⟩ : ∃ x, h[k]? = some x := ⟨_, List.getElem?_eq_getElem hlt⟩
    simp only [go_sem, reduceIte, Nat.reduceEqDiff, Nat.reduceAdd, Nat.reduceLT, Nat.reduceLeDiff, Nat.reduceSub, Nat.reduceMul, Nat.reducePow, Int.reduceToNat, Int.reduceLT, Int.reduceLE, Int.reduceEq, Int.reduceNeg, decide_true, decide_false, Bool.not_true, Bool.not_false, hlt, hx, evA]
    (repeat' (first | (refine opG_cases (fun hc => ?_) (fun hc => ?_) <;> simp only [go_sem, reduceIte, Nat.reduceEqDiff, Nat.reduceAdd, Nat.reduceLT, Nat.reduceLeDiff, Nat.reduceSub, Nat.reduceMul, Nat.reducePow, Int.reduceToNat, Int.reduceLT, Int.reduceLE, Int.reduceEq, Int.reduceNeg, decide_true, decide_false, Bool.not_true, Bool.not_false, hx, evA, *]) | (refine ifP_cases (fun hc => ?_) (fun hc => ?_) <;> simp only [go_sem, reduceIte, Nat.reduceEqDiff, Nat.reduceAdd, Nat.reduceLT, Nat.reduceLeDiff, Nat.reduceSub, Nat.reduceMul, Nat.reducePow, Int.reduceToNat, Int.reduceLT, Int.reduceLE, Int.reduceEq, Int.reduceNeg, decide_true, decide_false, Bool.not_true, Bool.not_false, hx, evA, *]) | (refine allocK_i fun nb hnb => ?_; (try simp only [set_none] at hnb); simp only [go_sem, reduceIte, Nat.reduceEqDiff, Nat.reduceAdd, Nat.reduceLT, Nat.reduceLeDiff, Nat.reduceSub, Nat.reduceMul, Nat.reducePow, Int.reduceToNat, Int.reduceLT, Int.reduceLE, Int.reduceEq, Int.reduceNeg, decide_true, decide_false, Bool.not_true, Bool.not_false, hx, evA, *])))
    refine Acc.app (hacc.mono (by (repeat (first | (refine AHeap.le_set' ?_ (by first | (simp only [*]; done) | (refine AHeap.le_none (by assumption) ?_; simp only [*]))) | (refine AHeap.le_del ?_ (by first | (simp only [*]; done) | (refine AHeap.le_none (by assumption) ?_; simp only [*]))))); first | exact AHeap.le_refl _ | assumption)) (by simp; omega) (fun e he => by simp at he; subst he; rfl) (fun a' H' h' => ?_)
    simp only [go_sem, reduceIte, Nat.reduceEqDiff, Nat.reduceAdd, Nat.reduceLT, Nat.reduceLeDiff, Nat.reduceSub, Nat.reduceMul, Nat.reducePow, Int.reduceToNat, Int.reduceLT, Int.reduceLE, Int.reduceEq, Int.reduceNeg, decide_true, decide_false, Bool.not_true, Bool.not_false]
    refine ih _ _ hlt ⟨a', ?_, by rw [wrap_up (by omega)]⟩
    rw [← take_map_succ evA hx]
    exact h'
  · simp only [go_sem, reduceIte, Nat.reduceEqDiff, Nat.reduceAdd, Nat.reduceLT, Nat.reduceLeDiff, Nat.reduceSub, Nat.reduceMul, Nat.reducePow, Int.reduceToNat, Int.reduceLT, Int.reduceLE, Int.reduceEq, Int.reduceNeg, decide_true, decide_false, Bool.not_true, Bool.not_false, hlt]
    have : k = h.length := by omega
    subst this
    rw [List.take_length] at hacc
    exact hacc.gives

theorem f21_c (h : List Ev) (hl : h.length ≤ 2 ^ 20) : Gives Try.prog 21 [evsA h] (evsA h) := by
  intro H
  refine callP_body mixed Try.func21 a21_ok (by simp [a21]) ?_; simp only [a21, go_sem, reduceIte, Nat.reduceEqDiff, Nat.reduceAdd, Nat.reduceLT, Nat.reduceLeDiff, Nat.reduceSub, Nat.reduceMul, Nat.reducePow, Int.reduceToNat, Int.reduceLT, Int.reduceLE, Int.reduceEq, Int.reduceNeg, decide_true, decide_false, Bool.not_true, Bool.not_false]
  simp only [go_sem, reduceIte, Nat.reduceEqDiff, Nat.reduceAdd, Nat.reduceLT, Nat.reduceLeDiff, Nat.reduceSub, Nat.reduceMul, Nat.reducePow, Int.reduceToNat, Int.reduceLT, Int.reduceLE, Int.reduceEq, Int.reduceNeg, decide_true, decide_false, Bool.not_true, Bool.not_false, evsA]
  refine loop_upto (k := 0) h.length (fun k R H1 => ∃ a, Acc H 7 ((h.take k).map evA) a H1 ∧ R = ofL [(0, .ro 7 (h.map evA)), (3, a), (4, .i k)]) ?_ (Nat.zero_le _) ⟨_, Acc.nil H.le_refl, rfl⟩
  rintro k R H1 X hk ⟨a, hacc, rfl⟩ ih
  unfold a21_L0
  simp only [go_sem, reduceIte, Nat.reduceEqDiff, Nat.reduceAdd, Nat.reduceLT, Nat.reduceLeDiff, Nat.reduceSub, Nat.reduceMul, Nat.reducePow, Int.reduceToNat, Int.reduceLT, Int.reduceLE, Int.reduceEq, Int.reduceNeg, decide_true, decide_false, Bool.not_true, Bool.not_false]
  by_cases hlt : k < h.length
  · obtain ⟨x, hx⟩ : ∃ x, h[k]? = some x := ⟨_, List.getElem?_eq_getElem hlt⟩
    simp only [go_sem, reduceIte, Nat.reduceEqDiff, Nat.reduceAdd, Nat.reduceLT, Nat.reduceLeDiff, Nat.reduceSub, Nat.reduceMul, Nat.reducePow, Int.reduceToNat, Int.reduceLT, Int.reduceLE, Int.reduceEq, Int.reduceNeg, decide_true, decide_false, Bool.not_true, Bool.not_false, hlt, hx, evA]
    (repeat' (first | (refine opG_cases (fun hc => ?_) (fun hc => ?_) <;> simp only [go_sem, reduceIte, Nat.reduceEqDiff, Nat.reduceAdd, Nat.reduceLT, Nat.reduceLeDiff, Nat.reduceSub, Nat.reduceMul, Nat.reducePow, Int.reduceToNat, Int.reduceLT, Int.reduceLE, Int.reduceEq, Int.reduceNeg, decide_true, decide_false, Bool.not_true, Bool.not_false, hx, evA, *]) | (refine ifP_cases (fun hc => ?_) (fun hc => ?_) <;> simp only [go_sem, reduceIte, Nat.reduceEqDiff, Nat.reduceAdd, Nat.reduceLT, Nat.reduceLeDiff, Nat.reduceSub, Nat.reduceMul, Nat.reducePow, Int.reduceToNat, Int.reduceLT, Int.reduceLE, Int.reduceEq, Int.reduceNeg, decide_true, decide_false, Bool.not_true, Bool.not_false, hx, evA, *]) | (refine allocK_i fun nb hnb => ?_; (try simp only [set_none] at hnb); simp only [go_sem, reduceIte, Nat.reduceEqDiff, Nat.reduceAdd, Nat.reduceLT, Nat.reduceLeDiff, Nat.reduceSub, Nat.reduceMul, Nat.reducePow, Int.reduceToNat, Int.reduceLT, Int.reduceLE, Int.reduceEq, Int.reduceNeg, decide_true, decide_false, Bool.not_true, Bool.not_false, hx, evA, *])))
    refine Acc.app (hacc.mono (by (repeat (first | (refine AHeap.le_set' ?_ (by first | (simp only [*]; done) | (refine AHeap.le_none (by assumption) ?_; simp only [*]))) | (refine AHeap.le_del ?_ (by first | (simp only [*]; done) | (refine AHeap.le_none (by assumption) ?_; simp only [*]))))); first | exact AHeap.le_refl _ | assumption)) (by simp; omega) (fun e he => by simp at he; subst he; rfl) (fun a' H' h' => ?_)
    simp only [go_sem, reduceIte, Nat.reduceEqDiff, Nat.reduceAdd, Nat.reduceLT, Nat.reduceLeDiff, Nat.reduceSub, Nat.reduceMul, Nat.reducePow, Int.reduceToNat, Int.reduceLT, Int.reduceLE, Int.reduceEq, Int.reduceNeg, decide_true, decide_false, Bool.not_true, Bool.not_false]
    refine ih _ _ hlt ⟨a', ?_, by rw [wrap_up (by omega)]⟩
    rw [← take_map_succ evA hx]
    exact h'
  · simp only [go_sem, reduceIte, Nat.reduceEqDiff, Nat.reduceAdd, Nat.reduceLT, Nat.reduceLeDiff, Nat.reduceSub, Nat.reduceMul, Nat.reducePow, Int.reduceToNat, Int.reduceLT, Int.reduceLE, Int.reduceEq, Int.reduceNeg, decide_true, decide_false, Bool.not_true, Bool.not_false, hlt]
    have : k = h.length := by omega
    subst this
    rw [List.take_length] at hacc
    exact hacc.gives

theorem f22_c (a b : Stt) (ha : a.blocks.length < 2 ^ 62) (hc : a.counters.length < 2 ^ 62) : Gives Try.prog 22 [sttA a, sttA b] (.b (decide (a = b))) := by
  intro H
  refine callP_body mixed Try.func22 a22_ok (by simp [a22]) ?_; simp only [a22, go_sem, reduceIte, Nat.reduceEqDiff, Nat.reduceAdd, Nat.reduceLT, Nat.reduceLeDiff, Nat.reduceSub, Nat.reduceMul, Nat.reducePow, Int.reduceToNat, Int.reduceLT, Int.reduceLE, Int.reduceEq, Int.reduceNeg, decide_true, decide_false, Bool.not_true, Bool.not_false]
  simp only [go_sem, reduceIte, Nat.reduceEqDiff, Nat.reduceAdd, Nat.reduceLT, Nat.reduceLeDiff, Nat.reduceSub, Nat.reduceMul, Nat.reducePow, Int.reduceToNat, Int.reduceLT, Int.reduceLE, Int.reduceEq, Int.reduceNeg, decide_true, decide_false, Bool.not_true, Bool.not_false, sttA]
  refine allocK_i fun b1 hb1 => ?_
  try simp only [set_none] at hb1
  simp only [go_sem, reduceIte, Nat.reduceEqDiff, Nat.reduceAdd, Nat.reduceLT, Nat.reduceLeDiff, Nat.reduceSub, Nat.reduceMul, Nat.reducePow, Int.reduceToNat, Int.reduceLT, Int.reduceLE, Int.reduceEq, Int.reduceNeg, decide_true, decide_false, Bool.not_true, Bool.not_false]
  refine allocK_i fun b2 hb2 => ?_
  try simp only [set_none] at hb2
  simp only [go_sem, reduceIte, Nat.reduceEqDiff, Nat.reduceAdd, Nat.reduceLT, Nat.reduceLeDiff, Nat.reduceSub, Nat.reduceMul, Nat.reducePow, Int.reduceToNat, Int.reduceLT, Int.reduceLE, Int.reduceEq, Int.reduceNeg, decide_true, decide_false, Bool.not_true, Bool.not_false, hb2, matA]
  by_cases hl : (a.blocks.length : Int) = b.blocks.length
  · by_cases hm : (a.counters.length : Int) = b.counters.length
    · simp only [go_sem, reduceIte, Nat.reduceEqDiff, Nat.reduceAdd, Nat.reduceLT, Nat.reduceLeDiff, Nat.reduceSub, Nat.reduceMul, Nat.reducePow, Int.reduceToNat, Int.reduceLT, Int.reduceLE, Int.reduceEq, Int.reduceNeg, decide_true, decide_false, Bool.not_true, Bool.not_false, hl, hm, hb2, not_true_eq_false, matA]
      have hl' : a.blocks.length = b.blocks.length := by omega
      have hm' : a.counters.length = b.counters.length := by omega
      refine loop_upto (k := 0) a.blocks.length (fun k R H1 => H.le H1 ∧ H1 b1 = some (.rows 2 [.agg [matA a.blocks, intsA a.counters]]) ∧ H1 b2 = some (.rows 2 [.agg [matA b.blocks, intsA b.counters]]) ∧ R = ofL [(2, .ptr b1 2 0 0), (3, .ptr b2 2 0 0), (5, .i k)] ∧ a.blocks.take k = b.blocks.take k) ?_ (Nat.zero_le _) ⟨(by (repeat (first | (refine AHeap.le_set' ?_ (by first | (simp only [*]; done) | (refine AHeap.le_none (by assumption) ?_; simp only [*]))) | (refine AHeap.le_del ?_ (by first | (simp only [*]; done) | (refine AHeap.le_none (by assumption) ?_; simp only [*]))))); first | exact AHeap.le_refl _ | assumption), by simp [set_get, hb2, matA], by simp [set_get, matA], rfl, rfl⟩
      rintro k R H1 X hk ⟨hle, h1, h2, rfl, hall⟩ ih
      unfold a22_L0
      simp only [go_sem, reduceIte, Nat.reduceEqDiff, Nat.reduceAdd, Nat.reduceLT, Nat.reduceLeDiff, Nat.reduceSub, Nat.reduceMul, Nat.reducePow, Int.reduceToNat, Int.reduceLT, Int.reduceLE, Int.reduceEq, Int.reduceNeg, decide_true, decide_false, Bool.not_true, Bool.not_false, h1, matA]
      by_cases hlt : k < a.blocks.length
      · obtain ⟨x, hx⟩ : ∃ x, a.blocks[k]? = some x := ⟨_, List.getElem?_eq_getElem hlt⟩
        obtain ⟨y, hy⟩ : ∃ x, b.blocks[k]? = some x := ⟨_, List.getElem?_eq_getElem (hl' ▸ hlt)⟩
        simp only [go_sem, reduceIte, Nat.reduceEqDiff, Nat.reduceAdd, Nat.reduceLT, Nat.reduceLeDiff, Nat.reduceSub, Nat.reduceMul, Nat.reducePow, Int.reduceToNat, Int.reduceLT, Int.reduceLE, Int.reduceEq, Int.reduceNeg, decide_true, decide_false, Bool.not_true, Bool.not_false, hlt, h1, h2, hx, hy, matA]
        by_cases hxy : x = y
        · simp only [go_sem, reduceIte, Nat.reduceEqDiff, Nat.reduceAdd, Nat.reduceLT, Nat.reduceLeDiff, Nat.reduceSub, Nat.reduceMul, Nat.reducePow, Int.reduceToNat, Int.reduceLT, Int.reduceLE, Int.reduceEq, Int.reduceNeg, decide_true, decide_false, Bool.not_true, Bool.not_false, hxy, not_true_eq_false]
          subst hxy
          refine ih _ _ hlt ⟨hle, h1, h2, by rw [wrap_up (by omega)], ?_⟩
          rw [List.take_add_one, List.take_add_one, hx, hy, hall]
        · simp only [go_sem, reduceIte, Nat.reduceEqDiff, Nat.reduceAdd, Nat.reduceLT, Nat.reduceLeDiff, Nat.reduceSub, Nat.reduceMul, Nat.reducePow, Int.reduceToNat, Int.reduceLT, Int.reduceLE, Int.reduceEq, Int.reduceNeg, decide_true, decide_false, Bool.not_true, Bool.not_false, hxy, not_false_eq_true]
          have : ¬ a = b := fun e => hxy (by rw [e, hy] at hx; exact (Option.some.inj hx).symm)
          simp only [this, decide_false]
          exact GhV.le (by (repeat (first | (refine AHeap.le_set' ?_ (by first | (simp only [*]; done) | (refine AHeap.le_none (by assumption) ?_; simp only [*]))) | (refine AHeap.le_del ?_ (by first | (simp only [*]; done) | (refine AHeap.le_none (by assumption) ?_; simp only [*]))))); first | exact AHeap.le_refl _ | assumption)
      · simp only [go_sem, reduceIte, Nat.reduceEqDiff, Nat.reduceAdd, Nat.reduceLT, Nat.reduceLeDiff, Nat.reduceSub, Nat.reduceMul, Nat.reducePow, Int.reduceToNat, Int.reduceLT, Int.reduceLE, Int.reduceEq, Int.reduceNeg, decide_true, decide_false, Bool.not_true, Bool.not_false, hlt]
        have : k = a.blocks.length := by omega
        subst this
        rw [List.take_length, hl', List.take_length] at hall
        clear ih hk hlt
        refine loop_upto (k := 0) a.counters.length (fun k R H2 => H.le H2 ∧ H2 b1 = some (.rows 2 [.agg [matA a.blocks, intsA a.counters]]) ∧ H2 b2 = some (.rows 2 [.agg [matA b.blocks, intsA b.counters]]) ∧ R = ofL [(2, .ptr b1 2 0 0), (3, .ptr b2 2 0 0), (6, .i k)] ∧ a.counters.take k = b.counters.take k) ?_ (Nat.zero_le _) ⟨hle, h1, h2, rfl, rfl⟩
        clear h1 h2 hle
        rintro k R H2 X hk ⟨hle, h1, h2, rfl, hall2⟩ ih
        unfold a22_L1
        simp only [go_sem, reduceIte, Nat.reduceEqDiff, Nat.reduceAdd, Nat.reduceLT, Nat.reduceLeDiff, Nat.reduceSub, Nat.reduceMul, Nat.reducePow, Int.reduceToNat, Int.reduceLT, Int.reduceLE, Int.reduceEq, Int.reduceNeg, decide_true, decide_false, Bool.not_true, Bool.not_false, h1]
        by_cases hlt : k < a.counters.length
        · obtain ⟨x, hx⟩ : ∃ x, a.counters[k]? = some x := ⟨_, List.getElem?_eq_getElem hlt⟩
          obtain ⟨y, hy⟩ : ∃ x, b.counters[k]? = some x := ⟨_, List.getElem?_eq_getElem (hm' ▸ hlt)⟩
          simp only [go_sem, reduceIte, Nat.reduceEqDiff, Nat.reduceAdd, Nat.reduceLT, Nat.reduceLeDiff, Nat.reduceSub, Nat.reduceMul, Nat.reducePow, Int.reduceToNat, Int.reduceLT, Int.reduceLE, Int.reduceEq, Int.reduceNeg, decide_true, decide_false, Bool.not_true, Bool.not_false, hlt, h1, h2, hx, hy]
          by_cases hxy : x = y
          · simp only [go_sem, reduceIte, Nat.reduceEqDiff, Nat.reduceAdd, Nat.reduceLT, Nat.reduceLeDiff, Nat.reduceSub, Nat.reduceMul, Nat.reducePow, Int.reduceToNat, Int.reduceLT, Int.reduceLE, Int.reduceEq, Int.reduceNeg, decide_true, decide_false, Bool.not_true, Bool.not_false, hxy, not_true_eq_false]
            subst hxy
            refine ih _ _ hlt ⟨hle, h1, h2, by rw [wrap_up (by omega)], ?_⟩
            rw [List.take_add_one, List.take_add_one, hx, hy, hall2]
          · simp only [go_sem, reduceIte, Nat.reduceEqDiff, Nat.reduceAdd, Nat.reduceLT, Nat.reduceLeDiff, Nat.reduceSub, Nat.reduceMul, Nat.reducePow, Int.reduceToNat, Int.reduceLT, Int.reduceLE, Int.reduceEq, Int.reduceNeg, decide_true, decide_false, Bool.not_true, Bool.not_false, hxy, not_false_eq_true]
            have : ¬ a = b := fun e => hxy (by rw [e, hy] at hx; exact (Option.some.inj hx).symm)
            simp only [this, decide_false]
            exact GhV.le (by (repeat (first | (refine AHeap.le_set' ?_ (by first | (simp only [*]; done) | (refine AHeap.le_none (by assumption) ?_; simp only [*]))) | (refine AHeap.le_del ?_ (by first | (simp only [*]; done) | (refine AHeap.le_none (by assumption) ?_; simp only [*]))))); first | exact AHeap.le_refl _ | assumption)
        · simp only [go_sem, reduceIte, Nat.reduceEqDiff, Nat.reduceAdd, Nat.reduceLT, Nat.reduceLeDiff, Nat.reduceSub, Nat.reduceMul, Nat.reducePow, Int.reduceToNat, Int.reduceLT, Int.reduceLE, Int.reduceEq, Int.reduceNeg, decide_true, decide_false, Bool.not_true, Bool.not_false, hlt]
          have : k = a.counters.length := by omega
          subst this
          rw [List.take_length, hm', List.take_length] at hall2
          have : a = b := by cases a; cases b; simp_all
          simp only [this, decide_true]
          exact GhV.le (by (repeat (first | (refine AHeap.le_set' ?_ (by first | (simp only [*]; done) | (refine AHeap.le_none (by assumption) ?_; simp only [*]))) | (refine AHeap.le_del ?_ (by first | (simp only [*]; done) | (refine AHeap.le_none (by assumption) ?_; simp only [*]))))); first | exact AHeap.le_refl _ | assumption)
    · simp only [go_sem, reduceIte, Nat.reduceEqDiff, Nat.reduceAdd, Nat.reduceLT, Nat.reduceLeDiff, Nat.reduceSub, Nat.reduceMul, Nat.reducePow, Int.reduceToNat, Int.reduceLT, Int.reduceLE, Int.reduceEq, Int.reduceNeg, decide_true, decide_false, Bool.not_true, Bool.not_false, hl, hm, hb2, not_true_eq_false, not_false_eq_true, matA]
      have : ¬ a = b := fun e => hm (by rw [e])
      simp only [this, decide_false]
      exact GhV.le (by (repeat (first | (refine AHeap.le_set' ?_ (by first | (simp only [*]; done) | (refine AHeap.le_none (by assumption) ?_; simp only [*]))) | (refine AHeap.le_del ?_ (by first | (simp only [*]; done) | (refine AHeap.le_none (by assumption) ?_; simp only [*]))))); first | exact AHeap.le_refl _ | assumption)
  · simp only [go_sem, reduceIte, Nat.reduceEqDiff, Nat.reduceAdd, Nat.reduceLT, Nat.reduceLeDiff, Nat.reduceSub, Nat.reduceMul, Nat.reducePow, Int.reduceToNat, Int.reduceLT, Int.reduceLE, Int.reduceEq, Int.reduceNeg, decide_true, decide_false, Bool.not_true, Bool.not_false, hl, not_false_eq_true]
    have : ¬ a = b := fun e => hl (by rw [e])
    simp only [this, decide_false]
    exact GhV.le (by (repeat (first | (refine AHeap.le_set' ?_ (by first | (simp only [*]; done) | (refine AHeap.le_none (by assumption) ?_; simp only [*]))) | (refine AHeap.le_del ?_ (by first | (simp only [*]; done) | (refine AHeap.le_none (by assumption) ?_; simp only [*]))))); first | exact AHeap.le_refl _ | assumption)

def blankS (n m : Nat) : Stt := ⟨List.replicate n (List.replicate 32 0), List.replicate m 0⟩

def zs32 : List UInt8 := List.replicate 32 0
theorem zs32_ub : List.replicate 32 (AVal.u 0) = zs32.map ub := by rfl
theorem frzC_bytesA {b sz : Nat} {es : List AVal} {l : List UInt8} : frzC b sz es (bytesA l) = bytesA l := rfl

theorem f9_c (n m : Nat) (hn : n ≤ 8) (hm : m ≤ 8) : Gives Try.prog 9 [.i n, .i m] (sttA (blankS n m)) := by
  intro H
  refine callP_body mixed Try.func9 a9_ok (by simp [a9]) ?_; simp only [a9, go_sem, reduceIte, Nat.reduceEqDiff, Nat.reduceAdd, Nat.reduceLT, Nat.reduceLeDiff, Nat.reduceSub, Nat.reduceMul, Nat.reducePow, Int.reduceToNat, Int.reduceLT, Int.reduceLE, Int.reduceEq, Int.reduceNeg, decide_true, decide_false, Bool.not_true, Bool.not_false]
  refine allocK_i fun b1 hb1 => ?_
  try simp only [set_none] at hb1
  simp only [go_sem, reduceIte, Nat.reduceEqDiff, Nat.reduceAdd, Nat.reduceLT, Nat.reduceLeDiff, Nat.reduceSub, Nat.reduceMul, Nat.reducePow, Int.reduceToNat, Int.reduceLT, Int.reduceLE, Int.reduceEq, Int.reduceNeg, decide_true, decide_false, Bool.not_true, Bool.not_false]
  refine ⟨Nat.le_refl _, by omega, ?_⟩
  refine allocK_i fun b2 hb2 => ?_
  try simp only [set_none] at hb2
  simp only [go_sem, reduceIte, Nat.reduceEqDiff, Nat.reduceAdd, Nat.reduceLT, Nat.reduceLeDiff, Nat.reduceSub, Nat.reduceMul, Nat.reducePow, Int.reduceToNat, Int.reduceLT, Int.reduceLE, Int.reduceEq, Int.reduceNeg, decide_true, decide_false, Bool.not_true, Bool.not_false]
  refine allocK_i fun b3 hb3 => ?_
  try simp only [set_none] at hb3
  simp only [go_sem, reduceIte, Nat.reduceEqDiff, Nat.reduceAdd, Nat.reduceLT, Nat.reduceLeDiff, Nat.reduceSub, Nat.reduceMul, Nat.reducePow, Int.reduceToNat, Int.reduceLT, Int.reduceLE, Int.reduceEq, Int.reduceNeg, decide_true, decide_false, Bool.not_true, Bool.not_false, hb3]
  have hcs : List.replicate m (AVal.raw (Value.int IntKind.i64 0)) = (List.replicate m (0 : Int)).map AVal.i := by simp
  refine loop_upto (k := 0) n (fun k R H1 => ∃ a e, Acc H 1 ((List.replicate k zs32).map bytesA) a H1 ∧ H1 b3 = some (.rows 2 [.agg [a, .sl b2 1 0 m m]]) ∧ H1 b2 = some (.rows 1 (List.replicate m (AVal.raw (Value.int IntKind.i64 0)))) ∧ H1 b1 = some (.rows 2 [e]) ∧ a.blk ≠ some b2 ∧
    R = ofL [(0, .i n), (4, .ptr b1 2 0 0), (5, .ptr b3 2 0 0), (6, .i k)]) ?_ (Nat.zero_le _) ⟨.nil, _, Acc.nil (by (repeat (first | (refine AHeap.le_set' ?_ (by first | (simp only [*]; done) | (refine AHeap.le_none (by assumption) ?_; simp only [*]))) | (refine AHeap.le_del ?_ (by first | (simp only [*]; done) | (refine AHeap.le_none (by assumption) ?_; simp only [*]))))); first | exact AHeap.le_refl _ | assumption), by simp [set_get], by simp [set_get, hb3], by simp only [set_get, hb3, hb2, reduceIte]; rfl, by simp [AVal.blk], rfl⟩
  rintro k R H1 X hk ⟨a, e, hacc, h3, h2, h1, hne, rfl⟩ ih
  unfold a9_L0
  simp only [go_sem, reduceIte, Nat.reduceEqDiff, Nat.reduceAdd, Nat.reduceLT, Nat.reduceLeDiff, Nat.reduceSub, Nat.reduceMul, Nat.reducePow, Int.reduceToNat, Int.reduceLT, Int.reduceLE, Int.reduceEq, Int.reduceNeg, decide_true, decide_false, Bool.not_true, Bool.not_false]
  by_cases hlt : k < n
  · simp only [go_sem, reduceIte, Nat.reduceEqDiff, Nat.reduceAdd, Nat.reduceLT, Nat.reduceLeDiff, Nat.reduceSub, Nat.reduceMul, Nat.reducePow, Int.reduceToNat, Int.reduceLT, Int.reduceLE, Int.reduceEq, Int.reduceNeg, decide_true, decide_false, Bool.not_true, Bool.not_false, hlt, h3]
    refine allocK_i fun b4 hb4 => ?_
    try simp only [set_none] at hb4
    simp only [go_sem, reduceIte, Nat.reduceEqDiff, Nat.reduceAdd, Nat.reduceLT, Nat.reduceLeDiff, Nat.reduceSub, Nat.reduceMul, Nat.reducePow, Int.reduceToNat, Int.reduceLT, Int.reduceLE, Int.reduceEq, Int.reduceNeg, decide_true, decide_false, Bool.not_true, Bool.not_false, h3, zs32_ub]
    refine allocK_i fun b5 hb5 => ?_
    try simp only [set_none] at hb5
    simp only [go_sem, reduceIte, Nat.reduceEqDiff, Nat.reduceAdd, Nat.reduceLT, Nat.reduceLeDiff, Nat.reduceSub, Nat.reduceMul, Nat.reducePow, Int.reduceToNat, Int.reduceLT, Int.reduceLE, Int.reduceEq, Int.reduceNeg, decide_true, decide_false, Bool.not_true, Bool.not_false, h3, hb5]
    have n3 : b3 ≠ b4 := fun e => by subst e; rw [h3] at hb4; cases hb4
    have n2 : b2 ≠ b4 := fun e => by subst e; rw [h2] at hb4; cases hb4
    have n1 : b1 ≠ b4 := fun e => by subst e; rw [h1] at hb4; cases hb4
    have m3 : b3 ≠ b5 := fun e => by subst e; rw [h3] at hb5; cases hb5.2.2
    have m2 : b2 ≠ b5 := fun e => by subst e; rw [h2] at hb5; cases hb5.2.2
    have m1 : b1 ≠ b5 := fun e => by subst e; rw [h1] at hb5; cases hb5.2.2
    refine Acc.app' (hacc.mono (by (repeat (first | (refine AHeap.le_set' ?_ (by first | (simp only [*]; done) | (refine AHeap.le_none (by assumption) ?_; simp only [*]))) | (refine AHeap.le_del ?_ (by first | (simp only [*]; done) | (refine AHeap.le_none (by assumption) ?_; simp only [*]))))); first | exact AHeap.le_refl _ | assumption)) (by simp; omega) (fun e he => by simp at he; subst he; rfl) (fun a' H' h' hkeep hnew => ?_)
    have k3 := hkeep b3 _ (by simp [set_get, n3, m3]; exact h3) (hacc.ne_obj h3 (by simp))
    have k2 := hkeep b2 _ (by simp [set_get, n2, m2]; exact h2) hne
    have k1 := hkeep b1 _ (by simp [set_get, n1, m1]; exact h1) (hacc.ne_obj h1 (by simp))
    have k4 := hkeep b4 (.rows 1 (zs32.map ub)) (by simp [set_get, hb5]) (hacc.ne_new hb4)
    obtain ⟨c, cap, rfl, hc0, hc⟩ := h'.sl_of (by simp)
    simp only [go_sem, reduceIte, Nat.reduceEqDiff, Nat.reduceAdd, Nat.reduceLT, Nat.reduceLeDiff, Nat.reduceSub, Nat.reduceMul, Nat.reducePow, Int.reduceToNat, Int.reduceLT, Int.reduceLE, Int.reduceEq, Int.reduceNeg, decide_true, decide_false, Bool.not_true, Bool.not_false, k3]
    have c3 : c ≠ b3 := fun e => by subst e; rw [k3] at hc; simp at hc
    have c4 : c ≠ b4 := by
      intro e
      subst e
      rcases hnew c rfl with e | e
      · exact hacc.ne_new hb4 e
      · simp [set_get, hb5] at e
    have c2 : c ≠ b2 := by
      intro e
      subst e
      rcases hnew c rfl with e | e
      · exact hne e
      · simp [set_get, m2, n2, h2] at e
    have c1 : c ≠ b1 := fun e => by subst e; rw [k1] at hc; simp at hc
    refine gh_frzIn (b := b4) (c := c) (by simp only [set_get, n3.symm, reduceIte]; exact k4) (by simp only [set_get, c3, reduceIte]; exact hc) c4 ?_
    simp only [go_sem, reduceIte, Nat.reduceEqDiff, Nat.reduceAdd, Nat.reduceLT, Nat.reduceLeDiff, Nat.reduceSub, Nat.reduceMul, Nat.reducePow, Int.reduceToNat, Int.reduceLT, Int.reduceLE, Int.reduceEq, Int.reduceNeg, decide_true, decide_false, Bool.not_true, Bool.not_false]
    have hle' := h'.le
    have hle0 := hacc.le
    refine ih _ _ hlt ⟨_, e, ⟨(by (repeat (first | (refine AHeap.le_set' ?_ (by first | (simp only [*]; done) | (refine AHeap.le_none (by assumption) ?_; simp only [*]))) | (refine AHeap.le_del ?_ (by first | (simp only [*]; done) | (refine AHeap.le_none (by assumption) ?_; simp only [*]))))); first | exact AHeap.le_refl _ | assumption), .inr ⟨c, cap, hc0, rfl, ?_⟩⟩, ?_, ?_, ?_, ?_, by rw [wrap_up (by omega)]⟩
    · rw [set_get, if_pos rfl]
      simp only [frzO, List.map_append, List.map_map, List.map_cons, List.map_nil]
      congr 3
      simp [frzC, frzV, frzC_bytesA, List.replicate_succ', bytesA]
      rfl
    · simp [set_get, del_get, c3, n3, c3.symm]
    · simp only [set_get, del_get, c2.symm, n2, reduceIte]
      rw [if_neg (fun e => by rw [e] at hb3; exact absurd hb3.2.1 (by simp))]
      exact k2
    · simp only [set_get, del_get, c1.symm, n1, reduceIte]
      rw [if_neg (fun e => by rw [e] at hb3; exact absurd hb3.2.2.1 (by simp))]
      exact k1
    · simp [AVal.blk, c2]
  · simp only [go_sem, reduceIte, Nat.reduceEqDiff, Nat.reduceAdd, Nat.reduceLT, Nat.reduceLeDiff, Nat.reduceSub, Nat.reduceMul, Nat.reducePow, Int.reduceToNat, Int.reduceLT, Int.reduceLE, Int.reduceEq, Int.reduceNeg, decide_true, decide_false, Bool.not_true, Bool.not_false, hlt, h3, h1, hacc.cellOk]
    have : k = n := by omega
    subst this
    have hle := hacc.le
    have hx : b1 ≠ b2 := fun e => by rw [e] at hb2; exact absurd hb2.1 (by simp)
    have hc2 : Acc H 1 (List.replicate m (AVal.raw (Value.int IntKind.i64 0))) (.sl b2 1 0 m m) (H1.set b1 (.rows 2 [.agg [a, .sl b2 1 0 m m]])) :=
      ⟨(by (repeat (first | (refine AHeap.le_set' ?_ (by first | (simp only [*]; done) | (refine AHeap.le_none (by assumption) ?_; simp only [*]))) | (refine AHeap.le_del ?_ (by first | (simp only [*]; done) | (refine AHeap.le_none (by assumption) ?_; simp only [*]))))); first | exact AHeap.le_refl _ | assumption), .inr ⟨b2, m, hb2.2.2, by simp, by simp [set_get, hx.symm, h2]⟩⟩
    have hc1 : Acc H 1 ((List.replicate k zs32).map bytesA) a (H1.set b1 (.rows 2 [.agg [a, .sl b2 1 0 m m]])) := by
      refine ⟨(by (repeat (first | (refine AHeap.le_set' ?_ (by first | (simp only [*]; done) | (refine AHeap.le_none (by assumption) ?_; simp only [*]))) | (refine AHeap.le_del ?_ (by first | (simp only [*]; done) | (refine AHeap.le_none (by assumption) ?_; simp only [*]))))); first | exact AHeap.le_refl _ | assumption), ?_⟩
      rcases hacc.is with h5 | ⟨b', cap, h4, rfl, h6⟩
      · exact .inl h5
      · refine .inr ⟨b', cap, h4, rfl, ?_⟩
        rw [set_get, if_neg (fun e => by subst e; rw [h1] at h6; simp at h6)]
        exact h6
    have := (hc1.two hc2 (fun b hb => by simp [AVal.blk]; intro e; subst e; exact hne hb) [])
    have h7 := GhV.agg this
    simpa [sttA, blankS, matA, intsA, zs32] using h7
end Go.Proofs.Ytaeanhonfoakeaa
end

section
namespace Go.Proofs.Ytaeanhonfoakeaa
open Go Heron
set_option linter.unusedSimpArgs false
set_option linter.unusedVariables false

structure StateAt (H0 : AHeap) (S : Nat) (s : Stt) (H : AHeap) : Prop where
  new : H0 S = none
  is : ∃ aB aC, H S = some (.rows 2 [.agg [aB, aC]]) ∧ Acc H0 1 (s.blocks.map bytesA) aB H ∧ Acc H0 1 (s.counters.map AVal.i) aC H ∧ ∀ b, aB.blk = some b → aC.blk ≠ some b

theorem StateAt.mono {H0 H H' : AHeap} {S : Nat} {s : Stt} (h : StateAt H0 S s H) (hl : H.le H') : StateAt H0 S s H' := by
  obtain ⟨aB, aC, h1, h2, h3, h4⟩ := h.is
  exact ⟨h.new, aB, aC, hl _ _ h1, h2.mono hl, h3.mono hl, h4⟩
theorem StateAt.le {H0 H : AHeap} {S : Nat} {s : Stt} (h : StateAt H0 S s H) : H0.le H := by
  obtain ⟨aB, aC, h1, h2, h3, h4⟩ := h.is
  exact h2.le

def inB (n : Nat) (i : Int) : Bool := decide (0 ≤ i) && decide (i < n)
def pad (l : List UInt8) : List UInt8 := (l ++ zs32).take 32
theorem pad_len {l : List UInt8} : (pad l).length = 32 := by simp [pad, zs32]
theorem pad_ub {l : List UInt8} : List.take 32 (l.map ub) ++ List.drop (min l.length 32) (List.replicate 32 (AVal.u 0)) = (pad l).map ub := by
  unfold pad
  rw [List.take_append, List.map_append, List.map_take, List.drop_replicate]
  congr 1
  simp only [zs32, List.take_replicate, List.map_replicate]
  congr 1
  omega
/-- What an event does to a state, and whether it is so. -/
def doS (s : Stt) (x : Ev) : Stt × Bool :=
  if x.what = 4 then (s, inB s.blocks.length x.at_ && decide (s.blocks[x.at_.toNat]? = some x.data))
  else if x.what = 5 then (if inB s.blocks.length x.at_ then { s with blocks := s.blocks.set x.at_.toNat (pad x.data) } else s, true)
  else if x.what = 6 then (if inB s.counters.length x.at_ then { s with counters := s.counters.set x.at_.toNat (IntKind.i64.wrap ((s.counters[x.at_.toNat]?).getD 0 + x.value)) } else s, true)
  else if x.what = 7 then (s, inB s.counters.length x.at_ && decide (s.counters[x.at_.toNat]? = some x.value))
  else (s, true)

theorem f26_c (H0 : AHeap) (S : Nat) (s : Stt) (x : Ev) (H : AHeap) (K : AVal → AHeap → Prop) (hs : StateAt H0 S s H) (hd : x.data.length ≤ 2 ^ 20) (hk : ∀ H', StateAt H0 S (doS s x).1 H' → K (.b (doS s x).2) H') :
    callP Try.prog 26 [.ptr S 2 0 0, evA x] H K := by
  obtain ⟨aB, aC, hS, hB, hC, hne⟩ := hs.is
  have hle := hs.le
  refine callP_body mixed Try.func26 a26_ok (by simp [a26]) ?_; simp only [a26, go_sem, reduceIte, Nat.reduceEqDiff, Nat.reduceAdd, Nat.reduceLT, Nat.reduceLeDiff, Nat.reduceSub, Nat.reduceMul, Nat.reducePow, Int.reduceToNat, Int.reduceLT, Int.reduceLE, Int.reduceEq, Int.reduceNeg, decide_true, decide_false, Bool.not_true, Bool.not_false]
  simp only [go_sem, reduceIte, Nat.reduceEqDiff, Nat.reduceAdd, Nat.reduceLT, Nat.reduceLeDiff, Nat.reduceSub, Nat.reduceMul, Nat.reducePow, Int.reduceToNat, Int.reduceLT, Int.reduceLE, Int.reduceEq, Int.reduceNeg, decide_true, decide_false, Bool.not_true, Bool.not_false, evA]
  refine allocK_i fun b1 hb1 => ?_
  try simp only [set_none] at hb1
  have hS1 : S ≠ b1 := fun e => by subst e; rw [hS] at hb1; cases hb1
  have lB : aLen aB = some (s.blocks.length : Int) := by simpa using hB.len
  have lC : aLen aC = some (s.counters.length : Int) := by simpa using hC.len
  have e1 : ∀ n : Nat, inB n x.at_ = (decide (0 ≤ x.at_) && decide (x.at_ < n)) := fun n => rfl
  simp only [go_sem, reduceIte, Nat.reduceEqDiff, Nat.reduceAdd, Nat.reduceLT, Nat.reduceLeDiff, Nat.reduceSub, Nat.reduceMul, Nat.reducePow, Int.reduceToNat, Int.reduceLT, Int.reduceLE, Int.reduceEq, Int.reduceNeg, decide_true, decide_false, Bool.not_true, Bool.not_false, hb1, hS, hS1, lB, lC]
  have fin : ∀ r H', StateAt H0 S (doS s x).1 H' → r = (doS s x).2 → K (.b r) H' := fun r H' h e => e ▸ hk H' h
  clear hk
  by_cases w4 : x.what = 4
  · have e4 : doS s x = (s, inB s.blocks.length x.at_ && decide (s.blocks[x.at_.toNat]? = some x.data)) := by simp [doS, w4]
    rw [e4] at fin
    by_cases hz : 0 ≤ x.at_
    · obtain ⟨j, hj⟩ : ∃ j : Nat, x.at_ = j := ⟨x.at_.toNat, by omega⟩
      by_cases hi : j < s.blocks.length
      · obtain ⟨d, hd⟩ : ∃ d, s.blocks[j]? = some d := ⟨_, List.getElem?_eq_getElem hi⟩; obtain ⟨_, hd'⟩ := List.getElem?_eq_some_iff.1 hd
        obtain ⟨b, cap, rfl, hb0, hb⟩ := hB.sl_of (by intro e; simp at e; rw [e] at hi; simp at hi)
        have hbb : b ≠ b1 := fun e => by subst e; rw [hb] at hb1; cases hb1
        simp only [go_sem, reduceIte, Nat.reduceEqDiff, Nat.reduceAdd, Nat.reduceLT, Nat.reduceLeDiff, Nat.reduceSub, Nat.reduceMul, Nat.reducePow, Int.reduceToNat, Int.reduceLT, Int.reduceLE, Int.reduceEq, Int.reduceNeg, decide_true, decide_false, Bool.not_true, Bool.not_false, hj, hi, w4, hb1, hS, hS1, lB, lC, hb, hbb, hd]
        refine ⟨_, (f30_c _ _).q, ?_⟩
        exact fin _ _ (hs.mono (by (repeat (first | (refine AHeap.le_set' ?_ (by first | (simp only [*]; done) | (refine AHeap.le_none (by assumption) ?_; simp only [*]))) | (refine AHeap.le_del ?_ (by first | (simp only [*]; done) | (refine AHeap.le_none (by assumption) ?_; simp only [*]))))); first | exact AHeap.le_refl _ | assumption)) (by simp [inB, hi, hd', hj])
      · simp only [go_sem, reduceIte, Nat.reduceEqDiff, Nat.reduceAdd, Nat.reduceLT, Nat.reduceLeDiff, Nat.reduceSub, Nat.reduceMul, Nat.reducePow, Int.reduceToNat, Int.reduceLT, Int.reduceLE, Int.reduceEq, Int.reduceNeg, decide_true, decide_false, Bool.not_true, Bool.not_false, hj, hi, w4, hb1, hS, hS1, lB, lC]
        exact fin _ _ (hs.mono (by (repeat (first | (refine AHeap.le_set' ?_ (by first | (simp only [*]; done) | (refine AHeap.le_none (by assumption) ?_; simp only [*]))) | (refine AHeap.le_del ?_ (by first | (simp only [*]; done) | (refine AHeap.le_none (by assumption) ?_; simp only [*]))))); first | exact AHeap.le_refl _ | assumption)) (by simp [inB, hi, hj])
    · simp only [go_sem, reduceIte, Nat.reduceEqDiff, Nat.reduceAdd, Nat.reduceLT, Nat.reduceLeDiff, Nat.reduceSub, Nat.reduceMul, Nat.reducePow, Int.reduceToNat, Int.reduceLT, Int.reduceLE, Int.reduceEq, Int.reduceNeg, decide_true, decide_false, Bool.not_true, Bool.not_false, hz, w4, hb1, hS, hS1, lB, lC]
      exact fin _ _ (hs.mono (by (repeat (first | (refine AHeap.le_set' ?_ (by first | (simp only [*]; done) | (refine AHeap.le_none (by assumption) ?_; simp only [*]))) | (refine AHeap.le_del ?_ (by first | (simp only [*]; done) | (refine AHeap.le_none (by assumption) ?_; simp only [*]))))); first | exact AHeap.le_refl _ | assumption)) (by simp [inB, hz])
  · by_cases w5 : x.what = 5
    · by_cases hz : 0 ≤ x.at_
      · obtain ⟨j, hj⟩ : ∃ j : Nat, x.at_ = j := ⟨x.at_.toNat, by omega⟩
        by_cases hi : j < s.blocks.length
        · have e4 : doS s x = ({ s with blocks := s.blocks.set j (pad x.data) }, true) := by simp [doS, w5, hj, inB, hi]
          rw [e4] at fin
          obtain ⟨b, cap, rfl, hb0, hb⟩ := hB.sl_of (by intro e; simp at e; rw [e] at hi; simp at hi)
          have hbb : b ≠ b1 := fun e => by subst e; rw [hb] at hb1; cases hb1
          have hw : (5 : Int) = 4 ↔ False := by simp
          simp only [go_sem, reduceIte, Nat.reduceEqDiff, Nat.reduceAdd, Nat.reduceLT, Nat.reduceLeDiff, Nat.reduceSub, Nat.reduceMul, Nat.reducePow, Int.reduceToNat, Int.reduceLT, Int.reduceLE, Int.reduceEq, Int.reduceNeg, decide_true, decide_false, Bool.not_true, Bool.not_false, hj, hi, w5, hb1, hS, hS1, lB, lC, hb, hbb]
          refine allocK_i fun b2 hb2 => ?_
          try simp only [set_none] at hb2
          have n1 : b1 ≠ b2 := fun e => by rw [e] at hb2; exact absurd hb2.1 (by simp)
          have n2 : b ≠ b2 := fun e => by rw [← e, hb] at hb2; cases hb2.2.2
          have n3 : S ≠ b2 := fun e => by rw [← e, hS] at hb2; cases hb2.2.2
          simp only [go_sem, reduceIte, Nat.reduceEqDiff, Nat.reduceAdd, Nat.reduceLT, Nat.reduceLeDiff, Nat.reduceSub, Nat.reduceMul, Nat.reducePow, Int.reduceToNat, Int.reduceLT, Int.reduceLE, Int.reduceEq, Int.reduceNeg, decide_true, decide_false, Bool.not_true, Bool.not_false, hb2, n1, n2, n3, hb1]
          refine ⟨okEs_ub, gh_frz (b := b2) (sz := 1) (es := (pad x.data).map ub) (by rw [set_get, if_pos rfl, ← pad_ub]) ?_⟩
          have hf : frzE b2 1 ((pad x.data).map ub) (.sl b2 1 0 32 32) = bytesA (pad x.data) := by
            simp [frzE, frzA, frzV, pad_len, bytesA]
            rw [List.take_of_length_le (by simp [pad_len])]
          have hf1 : ∀ b' : Nat, ¬ b' = b2 → ∀ sz : Nat, frzE b2 1 ((pad x.data).map ub) (.ptr b' sz 0 0) = .ptr b' sz 0 0 := fun b' h sz => by simp [frzE, frzA, frzV, h]
          obtain ⟨d, hd5⟩ : ∃ d, s.blocks[j]? = some d := ⟨_, List.getElem?_eq_getElem hi⟩
          simp only [go_sem, reduceIte, Nat.reduceEqDiff, Nat.reduceAdd, Nat.reduceLT, Nat.reduceLeDiff, Nat.reduceSub, Nat.reduceMul, Nat.reducePow, Int.reduceToNat, Int.reduceLT, Int.reduceLE, Int.reduceEq, Int.reduceNeg, decide_true, decide_false, Bool.not_true, Bool.not_false, hd5, hbb, hf, hf1 S n3, hf1 b1 n1, n1, n2, n3, hb1, hS1, hS, hb, hj, hi]
          refine fin _ _ ⟨hs.new, .sl b 1 0 (s.blocks.map bytesA).length cap, aC, ?_, ⟨(by (repeat (first | (refine AHeap.le_set' ?_ (by first | (simp only [*]; done) | (refine AHeap.le_none (by assumption) ?_; simp only [*]))) | (refine AHeap.le_del ?_ (by first | (simp only [*]; done) | (refine AHeap.le_none (by assumption) ?_; simp only [*]))))); first | exact AHeap.le_refl _ | assumption), .inr ⟨b, cap, hb0, by simp, ?_⟩⟩, hC.move (by (repeat (first | (refine AHeap.le_set' ?_ (by first | (simp only [*]; done) | (refine AHeap.le_none (by assumption) ?_; simp only [*]))) | (refine AHeap.le_del ?_ (by first | (simp only [*]; done) | (refine AHeap.le_none (by assumption) ?_; simp only [*]))))); first | exact AHeap.le_refl _ | assumption) (fun c hc => ?_), hne⟩ rfl
          · simp only [set_get, del_get, hS1, n3, reduceIte]
            rw [if_neg (fun e => by rw [← e, hS] at hb; simp at hb)]
            exact hS
          · simp [set_get, List.map_set]
          · have c1 : c ≠ b1 := fun e => by subst e; exact hC.ne_new hb1 hc
            have c2 : c ≠ b := fun e => by subst e; exact hne c rfl hc
            have c3 : c ≠ b2 := fun e => by subst e; exact hC.ne_new hb2.2.2 hc
            simp only [set_get, del_get, c1, c2, c3, reduceIte]
        · have e4 : doS s x = (s, true) := by simp [doS, w5, hj, inB, hi]
          rw [e4] at fin
          simp only [go_sem, reduceIte, Nat.reduceEqDiff, Nat.reduceAdd, Nat.reduceLT, Nat.reduceLeDiff, Nat.reduceSub, Nat.reduceMul, Nat.reducePow, Int.reduceToNat, Int.reduceLT, Int.reduceLE, Int.reduceEq, Int.reduceNeg, decide_true, decide_false, Bool.not_true, Bool.not_false, hj, hi, w5, hb1, hS, hS1, lB, lC]
          exact fin _ _ (hs.mono (by (repeat (first | (refine AHeap.le_set' ?_ (by first | (simp only [*]; done) | (refine AHeap.le_none (by assumption) ?_; simp only [*]))) | (refine AHeap.le_del ?_ (by first | (simp only [*]; done) | (refine AHeap.le_none (by assumption) ?_; simp only [*]))))); first | exact AHeap.le_refl _ | assumption)) rfl
      · have e4 : doS s x = (s, true) := by simp [doS, w5, inB, hz]
        rw [e4] at fin
        simp only [go_sem, reduceIte, Nat.reduceEqDiff, Nat.reduceAdd, Nat.reduceLT, Nat.reduceLeDiff, Nat.reduceSub, Nat.reduceMul, Nat.reducePow, Int.reduceToNat, Int.reduceLT, Int.reduceLE, Int.reduceEq, Int.reduceNeg, decide_true, decide_false, Bool.not_true, Bool.not_false, hz, w5, hb1, hS, hS1, lB, lC]
        exact fin _ _ (hs.mono (by (repeat (first | (refine AHeap.le_set' ?_ (by first | (simp only [*]; done) | (refine AHeap.le_none (by assumption) ?_; simp only [*]))) | (refine AHeap.le_del ?_ (by first | (simp only [*]; done) | (refine AHeap.le_none (by assumption) ?_; simp only [*]))))); first | exact AHeap.le_refl _ | assumption)) rfl
    · by_cases w6 : x.what = 6
      · by_cases hz : 0 ≤ x.at_
        · obtain ⟨j, hj⟩ : ∃ j : Nat, x.at_ = j := ⟨x.at_.toNat, by omega⟩
          by_cases hi : j < s.counters.length
          · obtain ⟨d, hd⟩ : ∃ d, s.counters[j]? = some d := ⟨_, List.getElem?_eq_getElem hi⟩; obtain ⟨_, hd'⟩ := List.getElem?_eq_some_iff.1 hd
            have e4 : doS s x = ({ s with counters := s.counters.set j (IntKind.i64.wrap (d + x.value)) }, true) := by simp [doS, w6, hj, inB, hi, hd']
            rw [e4] at fin
            obtain ⟨b, cap, rfl, hb0, hb⟩ := hC.sl_of (by intro e; simp at e; rw [e] at hi; simp at hi)
            have hbb : b ≠ b1 := fun e => by subst e; rw [hb] at hb1; cases hb1
            simp only [go_sem, reduceIte, Nat.reduceEqDiff, Nat.reduceAdd, Nat.reduceLT, Nat.reduceLeDiff, Nat.reduceSub, Nat.reduceMul, Nat.reducePow, Int.reduceToNat, Int.reduceLT, Int.reduceLE, Int.reduceEq, Int.reduceNeg, decide_true, decide_false, Bool.not_true, Bool.not_false, hj, hi, w6, hb1, hS, hS1, lB, lC, hb, hbb, hd]
            refine fin _ _ ⟨hs.new, aB, .sl b 1 0 (s.counters.map AVal.i).length cap, ?_, hB.move (by (repeat (first | (refine AHeap.le_set' ?_ (by first | (simp only [*]; done) | (refine AHeap.le_none (by assumption) ?_; simp only [*]))) | (refine AHeap.le_del ?_ (by first | (simp only [*]; done) | (refine AHeap.le_none (by assumption) ?_; simp only [*]))))); first | exact AHeap.le_refl _ | assumption) (fun c hc => ?_), ⟨(by (repeat (first | (refine AHeap.le_set' ?_ (by first | (simp only [*]; done) | (refine AHeap.le_none (by assumption) ?_; simp only [*]))) | (refine AHeap.le_del ?_ (by first | (simp only [*]; done) | (refine AHeap.le_none (by assumption) ?_; simp only [*]))))); first | exact AHeap.le_refl _ | assumption), .inr ⟨b, cap, hb0, by simp, ?_⟩⟩, hne⟩ rfl
            · simp only [set_get, hS1, reduceIte]
              rw [if_neg (fun e => by rw [← e, hS] at hb; simp at hb)]
              exact hS
            · have c1 : c ≠ b1 := fun e => by subst e; exact hB.ne_new hb1 hc
              have c2 : c ≠ b := fun e => by subst e; exact hne c hc rfl
              simp only [set_get, c1, c2, reduceIte]
            · simp [set_get, List.map_set]
          · have e4 : doS s x = (s, true) := by simp [doS, w6, hj, inB, hi]
            rw [e4] at fin
            simp only [go_sem, reduceIte, Nat.reduceEqDiff, Nat.reduceAdd, Nat.reduceLT, Nat.reduceLeDiff, Nat.reduceSub, Nat.reduceMul, Nat.reducePow, Int.reduceToNat, Int.reduceLT, Int.reduceLE, Int.reduceEq, Int.reduceNeg, decide_true, decide_false, Bool.not_true, Bool.not_false, hj, hi, w6, hb1, hS, hS1, lB, lC]
            exact fin _ _ (hs.mono (by (repeat (first | (refine AHeap.le_set' ?_ (by first | (simp only [*]; done) | (refine AHeap.le_none (by assumption) ?_; simp only [*]))) | (refine AHeap.le_del ?_ (by first | (simp only [*]; done) | (refine AHeap.le_none (by assumption) ?_; simp only [*]))))); first | exact AHeap.le_refl _ | assumption)) rfl
        · have e4 : doS s x = (s, true) := by simp [doS, w6, inB, hz]
          rw [e4] at fin
          simp only [go_sem, reduceIte, Nat.reduceEqDiff, Nat.reduceAdd, Nat.reduceLT, Nat.reduceLeDiff, Nat.reduceSub, Nat.reduceMul, Nat.reducePow, Int.reduceToNat, Int.reduceLT, Int.reduceLE, Int.reduceEq, Int.reduceNeg, decide_true, decide_false, Bool.not_true, Bool.not_false, hz, w6, hb1, hS, hS1, lB, lC]
          exact fin _ _ (hs.mono (by (repeat (first | (refine AHeap.le_set' ?_ (by first | (simp only [*]; done) | (refine AHeap.le_none (by assumption) ?_; simp only [*]))) | (refine AHeap.le_del ?_ (by first | (simp only [*]; done) | (refine AHeap.le_none (by assumption) ?_; simp only [*]))))); first | exact AHeap.le_refl _ | assumption)) rfl
      · by_cases w7 : x.what = 7
        · have e4 : doS s x = (s, inB s.counters.length x.at_ && decide (s.counters[x.at_.toNat]? = some x.value)) := by simp [doS, w7]
          rw [e4] at fin
          by_cases hz : 0 ≤ x.at_
          · obtain ⟨j, hj⟩ : ∃ j : Nat, x.at_ = j := ⟨x.at_.toNat, by omega⟩
            by_cases hi : j < s.counters.length
            · obtain ⟨d, hd⟩ : ∃ d, s.counters[j]? = some d := ⟨_, List.getElem?_eq_getElem hi⟩; obtain ⟨_, hd'⟩ := List.getElem?_eq_some_iff.1 hd
              obtain ⟨b, cap, rfl, hb0, hb⟩ := hC.sl_of (by intro e; simp at e; rw [e] at hi; simp at hi)
              have hbb : b ≠ b1 := fun e => by subst e; rw [hb] at hb1; cases hb1
              simp only [go_sem, reduceIte, Nat.reduceEqDiff, Nat.reduceAdd, Nat.reduceLT, Nat.reduceLeDiff, Nat.reduceSub, Nat.reduceMul, Nat.reducePow, Int.reduceToNat, Int.reduceLT, Int.reduceLE, Int.reduceEq, Int.reduceNeg, decide_true, decide_false, Bool.not_true, Bool.not_false, hj, hi, w7, hb1, hS, hS1, lB, lC, hb, hbb, hd]
              exact fin _ _ (hs.mono (by (repeat (first | (refine AHeap.le_set' ?_ (by first | (simp only [*]; done) | (refine AHeap.le_none (by assumption) ?_; simp only [*]))) | (refine AHeap.le_del ?_ (by first | (simp only [*]; done) | (refine AHeap.le_none (by assumption) ?_; simp only [*]))))); first | exact AHeap.le_refl _ | assumption)) (by simp [inB, hi, hd', hj])
            · simp only [go_sem, reduceIte, Nat.reduceEqDiff, Nat.reduceAdd, Nat.reduceLT, Nat.reduceLeDiff, Nat.reduceSub, Nat.reduceMul, Nat.reducePow, Int.reduceToNat, Int.reduceLT, Int.reduceLE, Int.reduceEq, Int.reduceNeg, decide_true, decide_false, Bool.not_true, Bool.not_false, hj, hi, w7, hb1, hS, hS1, lB, lC]
              exact fin _ _ (hs.mono (by (repeat (first | (refine AHeap.le_set' ?_ (by first | (simp only [*]; done) | (refine AHeap.le_none (by assumption) ?_; simp only [*]))) | (refine AHeap.le_del ?_ (by first | (simp only [*]; done) | (refine AHeap.le_none (by assumption) ?_; simp only [*]))))); first | exact AHeap.le_refl _ | assumption)) (by simp [inB, hi, hj])
          · simp only [go_sem, reduceIte, Nat.reduceEqDiff, Nat.reduceAdd, Nat.reduceLT, Nat.reduceLeDiff, Nat.reduceSub, Nat.reduceMul, Nat.reducePow, Int.reduceToNat, Int.reduceLT, Int.reduceLE, Int.reduceEq, Int.reduceNeg, decide_true, decide_false, Bool.not_true, Bool.not_false, hz, w7, hb1, hS, hS1, lB, lC]
            exact fin _ _ (hs.mono (by (repeat (first | (refine AHeap.le_set' ?_ (by first | (simp only [*]; done) | (refine AHeap.le_none (by assumption) ?_; simp only [*]))) | (refine AHeap.le_del ?_ (by first | (simp only [*]; done) | (refine AHeap.le_none (by assumption) ?_; simp only [*]))))); first | exact AHeap.le_refl _ | assumption)) (by simp [inB, hz])
        · have e4 : doS s x = (s, true) := by simp [doS, w4, w5, w6, w7]
          rw [e4] at fin
          by_cases hz : 0 ≤ x.at_
          · simp only [go_sem, reduceIte, Nat.reduceEqDiff, Nat.reduceAdd, Nat.reduceLT, Nat.reduceLeDiff, Nat.reduceSub, Nat.reduceMul, Nat.reducePow, Int.reduceToNat, Int.reduceLT, Int.reduceLE, Int.reduceEq, Int.reduceNeg, decide_true, decide_false, Bool.not_true, Bool.not_false, hz, w4, w5, w6, w7, hb1, hS, hS1, lB, lC]
            exact fin _ _ (hs.mono (by (repeat (first | (refine AHeap.le_set' ?_ (by first | (simp only [*]; done) | (refine AHeap.le_none (by assumption) ?_; simp only [*]))) | (refine AHeap.le_del ?_ (by first | (simp only [*]; done) | (refine AHeap.le_none (by assumption) ?_; simp only [*]))))); first | exact AHeap.le_refl _ | assumption)) rfl
          · simp only [go_sem, reduceIte, Nat.reduceEqDiff, Nat.reduceAdd, Nat.reduceLT, Nat.reduceLeDiff, Nat.reduceSub, Nat.reduceMul, Nat.reducePow, Int.reduceToNat, Int.reduceLT, Int.reduceLE, Int.reduceEq, Int.reduceNeg, decide_true, decide_false, Bool.not_true, Bool.not_false, hz, w4, w5, w6, w7, hb1, hS, hS1, lB, lC]
            exact fin _ _ (hs.mono (by (repeat (first | (refine AHeap.le_set' ?_ (by first | (simp only [*]; done) | (refine AHeap.le_none (by assumption) ?_; simp only [*]))) | (refine AHeap.le_del ?_ (by first | (simp only [*]; done) | (refine AHeap.le_none (by assumption) ?_; simp only [*]))))); first | exact AHeap.le_refl _ | assumption)) rfl
end Go.Proofs.Ytaeanhonfoakeaa
end

section
namespace Go.Proofs.Ytaeanhonfoakeaa
open Go Heron
set_option linter.unusedSimpArgs false
set_option linter.unusedVariables false

def nextF (b : Bool) (f : Int) (k : Nat) : Int := cond (!b && decide (f < 0)) (k : Int) f
/-- Events done, one behind the other: the state, and the first that is not so. -/
def replayS (s : Stt) : List Ev → Nat → Int → Stt × Int
  | [], _, f => (s, f)
  | x :: r, k, f => replayS (doS s x).1 r (k + 1) (nextF (doS s x).2 f k)

theorem replayS_snoc (l : List Ev) (x : Ev) : ∀ (s : Stt) (k : Nat) (f : Int), replayS s (l ++ [x]) k f = ((doS (replayS s l k f).1 x).1, nextF (doS (replayS s l k f).1 x).2 (replayS s l k f).2 (k + l.length)) := by
  induction l with
  | nil => intro s k f; simp [replayS]
  | cons y l ih =>
    intro s k f
    simp only [List.cons_append, replayS, ih, List.length_cons]
    rw [show k + 1 + l.length = k + (l.length + 1) by omega]

@[go_sem] theorem len_evsA {l : List Ev} : aLen (evsA l) = some (l.length : Int) := by simp [evsA, aLen]

theorem mkState {Hb Hx Hy H2 H3 H4 : AHeap} {S : Nat} {s : Stt} {aB aC : AVal} (hb : Hb.le Hx) (hB : Acc Hx 1 (s.blocks.map bytesA) aB H2) (h2 : H2.le Hy) (hC : Acc Hy 1 (s.counters.map AVal.i) aC H3) (hle : Hb.le H4) (hS0 : Hb S = none)
    (h34 : ∀ c, c ≠ S → H4 c = H3 c) (hS2 : aB.blk ≠ some S) (hS3 : aC.blk ≠ some S) (hS : H4 S = some (.rows 2 [.agg [aB, aC]])) : StateAt Hb S s H4 := by
  have hby : Hb.le Hy := AHeap.le_trans' hb (AHeap.le_trans' hB.le h2)
  refine ⟨hS0, aB, aC, hS, ?_, ?_, fun b hb1 hb2 => ?_⟩
  · refine ((hB.rebase hb).mono (AHeap.le_trans' h2 hC.le)).move hle (fun c hc => h34 c (fun e => by subst e; exact hS2 hc))
  · refine (hC.rebase hby).move hle (fun c hc => h34 c (fun e => by subst e; exact hS3 hc))
  · have := (hC.blk_none hb2).1
    rw [h2 _ _ (hB.blk_none hb1).2] at this
    cases this

theorem f10_c (s : Stt) (l : List Ev) (h1 : s.blocks.length ≤ 2 ^ 20) (h2 : s.counters.length ≤ 2 ^ 20) (h3 : l.length ≤ 2 ^ 20) (hd : ∀ x, x ∈ l → x.data.length ≤ 2 ^ 20) :
    Gives Try.prog 10 [sttA s, evsA l] (.tup [sttA (replayS s l 0 (-1)).1, .i (replayS s l 0 (-1)).2]) := by
  intro H
  refine callP_body mixed Try.func10 a10_ok (by simp [a10]) ?_; simp only [a10, go_sem, reduceIte, Nat.reduceEqDiff, Nat.reduceAdd, Nat.reduceLT, Nat.reduceLeDiff, Nat.reduceSub, Nat.reduceMul, Nat.reducePow, Int.reduceToNat, Int.reduceLT, Int.reduceLE, Int.reduceEq, Int.reduceNeg, decide_true, decide_false, Bool.not_true, Bool.not_false]
  simp only [go_sem, reduceIte, Nat.reduceEqDiff, Nat.reduceAdd, Nat.reduceLT, Nat.reduceLeDiff, Nat.reduceSub, Nat.reduceMul, Nat.reducePow, Int.reduceToNat, Int.reduceLT, Int.reduceLE, Int.reduceEq, Int.reduceNeg, decide_true, decide_false, Bool.not_true, Bool.not_false, sttA]
  refine allocK_i fun b1 hb1 => ?_
  try simp only [set_none] at hb1
  simp only [go_sem, reduceIte, Nat.reduceEqDiff, Nat.reduceAdd, Nat.reduceLT, Nat.reduceLeDiff, Nat.reduceSub, Nat.reduceMul, Nat.reducePow, Int.reduceToNat, Int.reduceLT, Int.reduceLE, Int.reduceEq, Int.reduceNeg, decide_true, decide_false, Bool.not_true, Bool.not_false]
  refine allocK_i fun b2 hb2 => ?_
  try simp only [set_none] at hb2
  simp only [go_sem, reduceIte, Nat.reduceEqDiff, Nat.reduceAdd, Nat.reduceLT, Nat.reduceLeDiff, Nat.reduceSub, Nat.reduceMul, Nat.reducePow, Int.reduceToNat, Int.reduceLT, Int.reduceLE, Int.reduceEq, Int.reduceNeg, decide_true, decide_false, Bool.not_true, Bool.not_false, hb2]
  have key : ∀ (H1 : AHeap) (S : Nat), StateAt ((H.set b1 (.rows 2 [sttA s])).set b2 (.rows 2 [.agg [.raw (.slice none 0 0), .raw (.slice none 0 0)]])) S s H1 →
      loopC Try.prog a10_L0 (blockK 0 (seqK (symb Try.prog (.seq (.rg [⟨some 33, none, .q (.load (some 2) (.t 6))⟩, ⟨some 34, none, .q (.mv (.t 7))⟩, ⟨none, none, .store 2 (.t 4) (.t 33)⟩, ⟨some 5, none, .q (.mv (.t 34))⟩] [4, 5]) .ret)) (endK [.cell 4 (some 2), .tmp 5] fun v1 H1 => GhV v1 H1 (.tup [sttA (replayS s l 0 (-1)).1, .i (replayS s l 0 (-1)).2]) H)))
        (ofL [(4, .ptr b2 2 0 0), (6, .ptr S 2 0 0), (7, .i (-1)), (17, evsA l), (18, .i l.length), (19, .i 0)]) H1 := by
    intro H1 S hs
    refine loop_upto (k := 0) l.length (fun k R H1 => StateAt ((H.set b1 (.rows 2 [sttA s])).set b2 (.rows 2 [.agg [.raw (.slice none 0 0), .raw (.slice none 0 0)]])) S (replayS s (l.take k) 0 (-1)).1 H1 ∧
      R = ofL [(4, .ptr b2 2 0 0), (6, .ptr S 2 0 0), (7, .i (replayS s (l.take k) 0 (-1)).2), (17, evsA l), (18, .i l.length), (19, .i k)]) ?_ (Nat.zero_le _) ⟨by simpa [replayS] using hs, by simp [replayS]⟩
    clear hs H1
    rintro k R H1 X hk ⟨hs, rfl⟩ ih
    unfold a10_L0
    simp only [go_sem, reduceIte, Nat.reduceEqDiff, Nat.reduceAdd, Nat.reduceLT, Nat.reduceLeDiff, Nat.reduceSub, Nat.reduceMul, Nat.reducePow, Int.reduceToNat, Int.reduceLT, Int.reduceLE, Int.reduceEq, Int.reduceNeg, decide_true, decide_false, Bool.not_true, Bool.not_false]
    by_cases hlt : k < l.length
    · obtain ⟨x, hx⟩ : ∃ x, l[k]? = some x := ⟨_, List.getElem?_eq_getElem hlt⟩
      simp only [go_sem, reduceIte, Nat.reduceEqDiff, Nat.reduceAdd, Nat.reduceLT, Nat.reduceLeDiff, Nat.reduceSub, Nat.reduceMul, Nat.reducePow, Int.reduceToNat, Int.reduceLT, Int.reduceLE, Int.reduceEq, Int.reduceNeg, decide_true, decide_false, Bool.not_true, Bool.not_false, hlt, hx, evsA, evA]
      refine allocK_i fun b4 hb4 => ?_
      try simp only [set_none] at hb4
      simp only [go_sem, reduceIte, Nat.reduceEqDiff, Nat.reduceAdd, Nat.reduceLT, Nat.reduceLeDiff, Nat.reduceSub, Nat.reduceMul, Nat.reducePow, Int.reduceToNat, Int.reduceLT, Int.reduceLE, Int.reduceEq, Int.reduceNeg, decide_true, decide_false, Bool.not_true, Bool.not_false]
      have hm : x ∈ l := List.mem_of_getElem? hx
      refine f26_c _ S _ x _ _ (hs.mono (by (repeat (first | (refine AHeap.le_set' ?_ (by first | (simp only [*]; done) | (refine AHeap.le_none (by assumption) ?_; simp only [*]))) | (refine AHeap.le_del ?_ (by first | (simp only [*]; done) | (refine AHeap.le_none (by assumption) ?_; simp only [*]))))); first | exact AHeap.le_refl _ | assumption)) (hd x hm) (fun H2 hs2 => ?_)
      have hsn := replayS_snoc (l.take k) x s 0 (-1)
      have htk : l.take (k + 1) = l.take k ++ [x] := by rw [List.take_add_one, hx]; rfl
      have hkl : (l.take k).length = k := by simp; omega
      cases hr : (doS (replayS s (l.take k) 0 (-1)).1 x).2 with
      | true =>
        simp only [go_sem, reduceIte, Nat.reduceEqDiff, Nat.reduceAdd, Nat.reduceLT, Nat.reduceLeDiff, Nat.reduceSub, Nat.reduceMul, Nat.reducePow, Int.reduceToNat, Int.reduceLT, Int.reduceLE, Int.reduceEq, Int.reduceNeg, decide_true, decide_false, Bool.not_true, Bool.not_false, hr]
        refine ih _ _ hlt ⟨by rw [htk, hsn]; exact hs2, ?_⟩
        rw [wrap_up (by omega), htk, hsn, hr]
        rfl
      | false =>
        by_cases hf : (replayS s (l.take k) 0 (-1)).2 < 0
        · simp only [go_sem, reduceIte, Nat.reduceEqDiff, Nat.reduceAdd, Nat.reduceLT, Nat.reduceLeDiff, Nat.reduceSub, Nat.reduceMul, Nat.reducePow, Int.reduceToNat, Int.reduceLT, Int.reduceLE, Int.reduceEq, Int.reduceNeg, decide_true, decide_false, Bool.not_true, Bool.not_false, hr, hf]
          refine ih _ _ hlt ⟨by rw [htk, hsn]; exact hs2, ?_⟩
          rw [wrap_up (by omega), htk, hsn, hr]
          simp [nextF, hf, hkl]
          rfl
        · simp only [go_sem, reduceIte, Nat.reduceEqDiff, Nat.reduceAdd, Nat.reduceLT, Nat.reduceLeDiff, Nat.reduceSub, Nat.reduceMul, Nat.reducePow, Int.reduceToNat, Int.reduceLT, Int.reduceLE, Int.reduceEq, Int.reduceNeg, decide_true, decide_false, Bool.not_true, Bool.not_false, hr, hf]
          refine ih _ _ hlt ⟨by rw [htk, hsn]; exact hs2, ?_⟩
          rw [wrap_up (by omega), htk, hsn, hr]
          simp [nextF, hf]
          rfl
    · simp only [go_sem, reduceIte, Nat.reduceEqDiff, Nat.reduceAdd, Nat.reduceLT, Nat.reduceLeDiff, Nat.reduceSub, Nat.reduceMul, Nat.reducePow, Int.reduceToNat, Int.reduceLT, Int.reduceLE, Int.reduceEq, Int.reduceNeg, decide_true, decide_false, Bool.not_true, Bool.not_false, hlt]
      have : k = l.length := by omega
      subst this
      rw [List.take_length] at hs ⊢
      obtain ⟨aB, aC, hS, hB, hC, hne⟩ := hs.is
      have h2 : H1 b2 = some (.rows 2 [.agg [.raw (.slice none 0 0), .raw (.slice none 0 0)]]) := hs.le _ _ (by simp [set_get])
      have hle : H.le H1 := AHeap.le_trans' (by (repeat (first | (refine AHeap.le_set' ?_ (by first | (simp only [*]; done) | (refine AHeap.le_none (by assumption) ?_; simp only [*]))) | (refine AHeap.le_del ?_ (by first | (simp only [*]; done) | (refine AHeap.le_none (by assumption) ?_; simp only [*]))))); first | exact AHeap.le_refl _ | assumption) hs.le
      have hle0 : H.le ((H.set b1 (.rows 2 [sttA s])).set b2 (.rows 2 [.agg [.raw (.slice none 0 0), .raw (.slice none 0 0)]])) := (by (repeat (first | (refine AHeap.le_set' ?_ (by first | (simp only [*]; done) | (refine AHeap.le_none (by assumption) ?_; simp only [*]))) | (refine AHeap.le_del ?_ (by first | (simp only [*]; done) | (refine AHeap.le_none (by assumption) ?_; simp only [*]))))); first | exact AHeap.le_refl _ | assumption)
      have hS2 : S ≠ b2 := fun e => by subst e; have := hs.new; simp [set_get] at this
      simp only [go_sem, reduceIte, Nat.reduceEqDiff, Nat.reduceAdd, Nat.reduceLT, Nat.reduceLeDiff, Nat.reduceSub, Nat.reduceMul, Nat.reducePow, Int.reduceToNat, Int.reduceLT, Int.reduceLE, Int.reduceEq, Int.reduceNeg, decide_true, decide_false, Bool.not_true, Bool.not_false, hS, h2, hB.cellOk, hC.cellOk, hS2, sttA]
      have hkB : aB.blk ≠ some b2 := hB.ne_obj h2 (by simp)
      have hkC : aC.blk ≠ some b2 := hC.ne_obj h2 (by simp)
      have hB' := (hB.rebase hle0).move (H' := H1.set b2 (.rows 2 [.agg [aB, aC]])) (by (repeat (first | (refine AHeap.le_set' ?_ (by first | (simp only [*]; done) | (refine AHeap.le_none (by assumption) ?_; simp only [*]))) | (refine AHeap.le_del ?_ (by first | (simp only [*]; done) | (refine AHeap.le_none (by assumption) ?_; simp only [*]))))); first | exact AHeap.le_refl _ | assumption) (fun c hc => by rw [set_get, if_neg (fun e => by subst e; exact hkB hc)])
      have hC' := (hC.rebase hle0).move (H' := H1.set b2 (.rows 2 [.agg [aB, aC]])) (by (repeat (first | (refine AHeap.le_set' ?_ (by first | (simp only [*]; done) | (refine AHeap.le_none (by assumption) ?_; simp only [*]))) | (refine AHeap.le_del ?_ (by first | (simp only [*]; done) | (refine AHeap.le_none (by assumption) ?_; simp only [*]))))); first | exact AHeap.le_refl _ | assumption) (fun c hc => by rw [set_get, if_neg (fun e => by subst e; exact hkC hc)])
      exact GhV.tup2 (hB'.two hC' hne [.i (replayS s l 0 (-1)).2])
  refine ⟨?_, ?_, ?_, ?_, ?_, ?_⟩
  · refine f24_c _ (by omega) _ _ (fun aB H2 hB => ?_)
    have q1 := hB.le b1 (.rows 2 [.agg [matA s.blocks, intsA s.counters]]) (by simp only [set_get, reduceIte, *])
    simp only [go_sem, reduceIte, Nat.reduceEqDiff, Nat.reduceAdd, Nat.reduceLT, Nat.reduceLeDiff, Nat.reduceSub, Nat.reduceMul, Nat.reducePow, Int.reduceToNat, Int.reduceLT, Int.reduceLE, Int.reduceEq, Int.reduceNeg, decide_true, decide_false, Bool.not_true, Bool.not_false, q1]
    refine f25_c _ (by omega) _ _ (fun aC H3 hC => ?_)
    simp only [go_sem, reduceIte, Nat.reduceEqDiff, Nat.reduceAdd, Nat.reduceLT, Nat.reduceLeDiff, Nat.reduceSub, Nat.reduceMul, Nat.reducePow, Int.reduceToNat, Int.reduceLT, Int.reduceLE, Int.reduceEq, Int.reduceNeg, decide_true, decide_false, Bool.not_true, Bool.not_false, hB.flat, hB.cellOk, hC.flat, hC.cellOk]
    refine allocK_i fun S hS => ?_
    try simp only [set_none] at hS
    simp only [go_sem, reduceIte, Nat.reduceEqDiff, Nat.reduceAdd, Nat.reduceLT, Nat.reduceLeDiff, Nat.reduceSub, Nat.reduceMul, Nat.reducePow, Int.reduceToNat, Int.reduceLT, Int.reduceLE, Int.reduceEq, Int.reduceNeg, decide_true, decide_false, Bool.not_true, Bool.not_false, hB.flat, hB.cellOk, hC.flat, hC.cellOk]
    have hbS := AHeap.le_none hB.le (AHeap.le_none hC.le hS)
    exact key _ S (mkState (AHeap.le_refl _) hB (AHeap.le_refl _) hC (AHeap.le_set' (AHeap.le_set' (AHeap.le_trans' hB.le hC.le) hbS) hbS) hbS (fun c hc => by simp only [set_get, hc, reduceIte]) (hB.mono hC.le |>.ne_new hS) (hC.ne_new hS) (by simp [set_get]))
  · refine f24_c _ (by omega) _ _ (fun aB H2 hB => ?_)
    have q1 := hB.le b1 (.rows 2 [.agg [matA s.blocks, intsA s.counters]]) (by simp only [set_get, reduceIte, *])
    simp only [go_sem, reduceIte, Nat.reduceEqDiff, Nat.reduceAdd, Nat.reduceLT, Nat.reduceLeDiff, Nat.reduceSub, Nat.reduceMul, Nat.reducePow, Int.reduceToNat, Int.reduceLT, Int.reduceLE, Int.reduceEq, Int.reduceNeg, decide_true, decide_false, Bool.not_true, Bool.not_false, q1]
    refine allocK_i fun S hS => ?_
    try simp only [set_none] at hS
    simp only [go_sem, reduceIte, Nat.reduceEqDiff, Nat.reduceAdd, Nat.reduceLT, Nat.reduceLeDiff, Nat.reduceSub, Nat.reduceMul, Nat.reducePow, Int.reduceToNat, Int.reduceLT, Int.reduceLE, Int.reduceEq, Int.reduceNeg, decide_true, decide_false, Bool.not_true, Bool.not_false, q1]
    refine f25_c _ (by omega) _ _ (fun aC H3 hC => ?_)
    have q3 := hC.le S (.rows 2 [.agg [.raw (.slice none 0 0), .raw (.slice none 0 0)]]) (by simp only [set_get, reduceIte])
    simp only [go_sem, reduceIte, Nat.reduceEqDiff, Nat.reduceAdd, Nat.reduceLT, Nat.reduceLeDiff, Nat.reduceSub, Nat.reduceMul, Nat.reducePow, Int.reduceToNat, Int.reduceLT, Int.reduceLE, Int.reduceEq, Int.reduceNeg, decide_true, decide_false, Bool.not_true, Bool.not_false, q3, hB.flat, hB.cellOk, hC.flat, hC.cellOk]
    have hbS := AHeap.le_none hB.le hS
    exact key _ S (mkState (AHeap.le_refl _) hB (AHeap.le_setN (AHeap.le_refl _) hS) hC (AHeap.le_set' (AHeap.le_trans' (AHeap.le_trans' hB.le (AHeap.le_setN (AHeap.le_refl _) hS)) hC.le) hbS) hbS (fun c hc => by simp only [set_get, hc, reduceIte]) (hB.ne_new hS) (fun e => by have := (hC.blk_none e).1; simp [set_get] at this) (by simp [set_get]))
  · skip
    refine allocK_i fun S hS => ?_
    try simp only [set_none] at hS
    simp only [go_sem, reduceIte, Nat.reduceEqDiff, Nat.reduceAdd, Nat.reduceLT, Nat.reduceLeDiff, Nat.reduceSub, Nat.reduceMul, Nat.reducePow, Int.reduceToNat, Int.reduceLT, Int.reduceLE, Int.reduceEq, Int.reduceNeg, decide_true, decide_false, Bool.not_true, Bool.not_false, hS, hb2]
    refine f24_c _ (by omega) _ _ (fun aB H2 hB => ?_)
    have n1 : b1 ≠ S := fun e => by rw [e] at hS; exact absurd hS.2.2.1 (by simp)
    have q1 := hB.le b1 (.rows 2 [.agg [matA s.blocks, intsA s.counters]]) (by simp only [set_get, reduceIte, n1, hb2])
    have q3 := hB.le S (.rows 2 [.agg [.raw (.slice none 0 0), .raw (.slice none 0 0)]]) (by simp only [set_get, reduceIte])
    simp only [go_sem, reduceIte, Nat.reduceEqDiff, Nat.reduceAdd, Nat.reduceLT, Nat.reduceLeDiff, Nat.reduceSub, Nat.reduceMul, Nat.reducePow, Int.reduceToNat, Int.reduceLT, Int.reduceLE, Int.reduceEq, Int.reduceNeg, decide_true, decide_false, Bool.not_true, Bool.not_false, q1]
    refine f25_c _ (by omega) _ _ (fun aC H3 hC => ?_)
    have q4 := hC.le S _ q3
    simp only [go_sem, reduceIte, Nat.reduceEqDiff, Nat.reduceAdd, Nat.reduceLT, Nat.reduceLeDiff, Nat.reduceSub, Nat.reduceMul, Nat.reducePow, Int.reduceToNat, Int.reduceLT, Int.reduceLE, Int.reduceEq, Int.reduceNeg, decide_true, decide_false, Bool.not_true, Bool.not_false, q4, hB.flat, hB.cellOk, hC.flat, hC.cellOk]
    have hbS : ((H.set b1 (.rows 2 [.agg [matA s.blocks, intsA s.counters]])).set b2 (.rows 2 [.agg [.raw (.slice none 0 0), .raw (.slice none 0 0)]])) S = none := by simp only [set_get, hS, reduceIte]
    have hl := AHeap.le_setN (AHeap.le_refl _) hbS (o := .rows 2 [.agg [.raw (.slice none 0 0), .raw (.slice none 0 0)]])
    exact key _ S (mkState hl hB (AHeap.le_refl _) hC (AHeap.le_set' (AHeap.le_trans' (AHeap.le_trans' hl hB.le) hC.le) hbS) hbS (fun c hc => by simp only [set_get, hc, reduceIte]) (fun e => by have := (hB.blk_none e).1; simp [set_get] at this) (fun e => by have := (hC.blk_none e).1; rw [q3] at this; cases this) (by simp [set_get]))
  · refine f24_c _ (by omega) _ _ (fun aB H2 hB => ?_)
    have q1 := hB.le b1 (.rows 2 [.agg [matA s.blocks, intsA s.counters]]) (by simp only [set_get, reduceIte, *])
    simp only [go_sem, reduceIte, Nat.reduceEqDiff, Nat.reduceAdd, Nat.reduceLT, Nat.reduceLeDiff, Nat.reduceSub, Nat.reduceMul, Nat.reducePow, Int.reduceToNat, Int.reduceLT, Int.reduceLE, Int.reduceEq, Int.reduceNeg, decide_true, decide_false, Bool.not_true, Bool.not_false, q1]
    refine f25_c _ (by omega) _ _ (fun aC H3 hC => ?_)
    simp only [go_sem, reduceIte, Nat.reduceEqDiff, Nat.reduceAdd, Nat.reduceLT, Nat.reduceLeDiff, Nat.reduceSub, Nat.reduceMul, Nat.reducePow, Int.reduceToNat, Int.reduceLT, Int.reduceLE, Int.reduceEq, Int.reduceNeg, decide_true, decide_false, Bool.not_true, Bool.not_false, hB.flat, hB.cellOk, hC.flat, hC.cellOk]
    refine allocK_i fun S hS => ?_
    try simp only [set_none] at hS
    simp only [go_sem, reduceIte, Nat.reduceEqDiff, Nat.reduceAdd, Nat.reduceLT, Nat.reduceLeDiff, Nat.reduceSub, Nat.reduceMul, Nat.reducePow, Int.reduceToNat, Int.reduceLT, Int.reduceLE, Int.reduceEq, Int.reduceNeg, decide_true, decide_false, Bool.not_true, Bool.not_false, hB.flat, hB.cellOk, hC.flat, hC.cellOk]
    have hbS := AHeap.le_none hB.le (AHeap.le_none hC.le hS)
    exact key _ S (mkState (AHeap.le_refl _) hB (AHeap.le_refl _) hC (AHeap.le_set' (AHeap.le_set' (AHeap.le_trans' hB.le hC.le) hbS) hbS) hbS (fun c hc => by simp only [set_get, hc, reduceIte]) (hB.mono hC.le |>.ne_new hS) (hC.ne_new hS) (by simp [set_get]))
  · refine f24_c _ (by omega) _ _ (fun aB H2 hB => ?_)
    have q1 := hB.le b1 (.rows 2 [.agg [matA s.blocks, intsA s.counters]]) (by simp only [set_get, reduceIte, *])
    simp only [go_sem, reduceIte, Nat.reduceEqDiff, Nat.reduceAdd, Nat.reduceLT, Nat.reduceLeDiff, Nat.reduceSub, Nat.reduceMul, Nat.reducePow, Int.reduceToNat, Int.reduceLT, Int.reduceLE, Int.reduceEq, Int.reduceNeg, decide_true, decide_false, Bool.not_true, Bool.not_false, q1]
    refine allocK_i fun S hS => ?_
    try simp only [set_none] at hS
    simp only [go_sem, reduceIte, Nat.reduceEqDiff, Nat.reduceAdd, Nat.reduceLT, Nat.reduceLeDiff, Nat.reduceSub, Nat.reduceMul, Nat.reducePow, Int.reduceToNat, Int.reduceLT, Int.reduceLE, Int.reduceEq, Int.reduceNeg, decide_true, decide_false, Bool.not_true, Bool.not_false, q1]
    refine f25_c _ (by omega) _ _ (fun aC H3 hC => ?_)
    have q3 := hC.le S (.rows 2 [.agg [.raw (.slice none 0 0), .raw (.slice none 0 0)]]) (by simp only [set_get, reduceIte])
    simp only [go_sem, reduceIte, Nat.reduceEqDiff, Nat.reduceAdd, Nat.reduceLT, Nat.reduceLeDiff, Nat.reduceSub, Nat.reduceMul, Nat.reducePow, Int.reduceToNat, Int.reduceLT, Int.reduceLE, Int.reduceEq, Int.reduceNeg, decide_true, decide_false, Bool.not_true, Bool.not_false, q3, hB.flat, hB.cellOk, hC.flat, hC.cellOk]
    have hbS := AHeap.le_none hB.le hS
    exact key _ S (mkState (AHeap.le_refl _) hB (AHeap.le_setN (AHeap.le_refl _) hS) hC (AHeap.le_set' (AHeap.le_trans' (AHeap.le_trans' hB.le (AHeap.le_setN (AHeap.le_refl _) hS)) hC.le) hbS) hbS (fun c hc => by simp only [set_get, hc, reduceIte]) (hB.ne_new hS) (fun e => by have := (hC.blk_none e).1; simp [set_get] at this) (by simp [set_get]))
  · skip
    refine allocK_i fun S hS => ?_
    try simp only [set_none] at hS
    simp only [go_sem, reduceIte, Nat.reduceEqDiff, Nat.reduceAdd, Nat.reduceLT, Nat.reduceLeDiff, Nat.reduceSub, Nat.reduceMul, Nat.reducePow, Int.reduceToNat, Int.reduceLT, Int.reduceLE, Int.reduceEq, Int.reduceNeg, decide_true, decide_false, Bool.not_true, Bool.not_false, hS, hb2]
    refine f24_c _ (by omega) _ _ (fun aB H2 hB => ?_)
    have n1 : b1 ≠ S := fun e => by rw [e] at hS; exact absurd hS.2.2.1 (by simp)
    have q1 := hB.le b1 (.rows 2 [.agg [matA s.blocks, intsA s.counters]]) (by simp only [set_get, reduceIte, n1, hb2])
    have q3 := hB.le S (.rows 2 [.agg [.raw (.slice none 0 0), .raw (.slice none 0 0)]]) (by simp only [set_get, reduceIte])
    simp only [go_sem, reduceIte, Nat.reduceEqDiff, Nat.reduceAdd, Nat.reduceLT, Nat.reduceLeDiff, Nat.reduceSub, Nat.reduceMul, Nat.reducePow, Int.reduceToNat, Int.reduceLT, Int.reduceLE, Int.reduceEq, Int.reduceNeg, decide_true, decide_false, Bool.not_true, Bool.not_false, q1]
    refine f25_c _ (by omega) _ _ (fun aC H3 hC => ?_)
    have q4 := hC.le S _ q3
    simp only [go_sem, reduceIte, Nat.reduceEqDiff, Nat.reduceAdd, Nat.reduceLT, Nat.reduceLeDiff, Nat.reduceSub, Nat.reduceMul, Nat.reducePow, Int.reduceToNat, Int.reduceLT, Int.reduceLE, Int.reduceEq, Int.reduceNeg, decide_true, decide_false, Bool.not_true, Bool.not_false, q4, hB.flat, hB.cellOk, hC.flat, hC.cellOk]
    have hbS : ((H.set b1 (.rows 2 [.agg [matA s.blocks, intsA s.counters]])).set b2 (.rows 2 [.agg [.raw (.slice none 0 0), .raw (.slice none 0 0)]])) S = none := by simp only [set_get, hS, reduceIte]
    have hl := AHeap.le_setN (AHeap.le_refl _) hbS (o := .rows 2 [.agg [.raw (.slice none 0 0), .raw (.slice none 0 0)]])
    exact key _ S (mkState hl hB (AHeap.le_refl _) hC (AHeap.le_set' (AHeap.le_trans' (AHeap.le_trans' hl hB.le) hC.le) hbS) hbS (fun c hc => by simp only [set_get, hc, reduceIte]) (fun e => by have := (hB.blk_none e).1; simp [set_get] at this) (fun e => by have := (hC.blk_none e).1; rw [q3] at this; cases this) (by simp [set_get]))
end Go.Proofs.Ytaeanhonfoakeaa
end

/- Contracts: the sort, and what is adjacent and the same. Contracts: what is adjacent and the same. Contracts: the rounds of a history. -/
import Derived.Test.YtaeanhonfoakeaaM1
import Derived.Test.YtaeanhonfoakeaaK11
import Derived.Test.YtaeanhonfoakeaaL1
section
namespace Go.Proofs.Ytaeanhonfoakeaa
open Go Heron
set_option linter.unusedSimpArgs false
set_option linter.unusedVariables false

def sortI (l : List Int) : List Int := l.mergeSort fun x y => decide (x ≤ y)

theorem f42_sl {H : AHeap} {b cap : Nat} {l : List Int} (hb : H b = some (.rows 1 (l.map AVal.i))) (hl : l.length ≤ 2 ^ 30) {K : AVal → AHeap → Prop} (hk : K (.tup []) (H.set b (.rows 1 ((sortI l).map AVal.i)))) : callP Try.prog 42 [.sl b 1 0 l.length cap] H K :=
  sort_callP (fun blk off cap zs w h1 h2 h3 => Go.Proofs.Any.slices_Sort_int Go.Proofs.Try.lays189 blk off cap zs w h1 h2 h3) hb (by omega) hk

set_option maxRecDepth 100000 in
theorem f57_0 : Gives Try.prog 57 [.raw (.int .u64 0)] (.i 0) := by
  intro H
  refine callP_body mixed Try.func57 a57_ok (Nat.le_refl 1) ?_
  unfold a57
  simp only [go_sem, reduceIte, Nat.reduceEqDiff, Nat.reduceAdd, Nat.reduceLT, Nat.reduceLeDiff, Nat.reduceSub, Nat.reduceMul, Nat.reducePow, Int.reduceToNat, Int.reduceLT, Int.reduceLE, Int.reduceEq, Int.reduceNeg, decide_true, decide_false, Bool.not_true, Bool.not_false]
  have h0 : Go.Lib.len8tab.data[0]? = some 0 := by decide
  have h1 : IntKind.u8.wrap 0 = 0 := rfl
  simp only [qeval, h1]
  simp only [go_sem, reduceIte, Nat.reduceEqDiff, Nat.reduceAdd, Nat.reduceLT, Nat.reduceLeDiff, Nat.reduceSub, Nat.reduceMul, Nat.reducePow, Int.reduceToNat, Int.reduceLT, Int.reduceLE, Int.reduceEq, Int.reduceNeg, decide_true, decide_false, Bool.not_true, Bool.not_false]
  simp only [Int.toNat_zero, h0, Option.map_some]
  simp only [go_sem, reduceIte, Nat.reduceEqDiff, Nat.reduceAdd, Nat.reduceLT, Nat.reduceLeDiff, Nat.reduceSub, Nat.reduceMul, Nat.reducePow, Int.reduceToNat, Int.reduceLT, Int.reduceLE, Int.reduceEq, Int.reduceNeg, decide_true, decide_false, Bool.not_true, Bool.not_false]
  exact GhV.le (v := .i 0) (AHeap.le_refl _)
theorem f46_0 : Gives Try.prog 46 [.raw (.int .u64 0)] (.i 0) := by
  intro H
  refine callP_body mixed Try.func46 a46_ok (by simp [a46]) ?_; simp only [a46, go_sem, reduceIte, Nat.reduceEqDiff, Nat.reduceAdd, Nat.reduceLT, Nat.reduceLeDiff, Nat.reduceSub, Nat.reduceMul, Nat.reducePow, Int.reduceToNat, Int.reduceLT, Int.reduceLE, Int.reduceEq, Int.reduceNeg, decide_true, decide_false, Bool.not_true, Bool.not_false]
  refine f57_0.use ?_
  simp only [go_sem, reduceIte, Nat.reduceEqDiff, Nat.reduceAdd, Nat.reduceLT, Nat.reduceLeDiff, Nat.reduceSub, Nat.reduceMul, Nat.reducePow, Int.reduceToNat, Int.reduceLT, Int.reduceLE, Int.reduceEq, Int.reduceNeg, decide_true, decide_false, Bool.not_true, Bool.not_false]
  exact GhV.le (AHeap.le_refl _)
theorem f47_0 : Gives Try.prog 47 [.nil, .i 0, .i 0] (.tup []) := by
  intro H
  refine callP_body mixed Try.func47 a47_ok (by simp [a47]) ?_; simp only [a47, go_sem, reduceIte, Nat.reduceEqDiff, Nat.reduceAdd, Nat.reduceLT, Nat.reduceLeDiff, Nat.reduceSub, Nat.reduceMul, Nat.reducePow, Int.reduceToNat, Int.reduceLT, Int.reduceLE, Int.reduceEq, Int.reduceNeg, decide_true, decide_false, Bool.not_true, Bool.not_false]
  refine loop_unfold ?_
  generalize loopC Try.prog a47_L1 = Z
  unfold a47_L1
  simp only [go_sem, reduceIte, Nat.reduceEqDiff, Nat.reduceAdd, Nat.reduceLT, Nat.reduceLeDiff, Nat.reduceSub, Nat.reduceMul, Nat.reducePow, Int.reduceToNat, Int.reduceLT, Int.reduceLE, Int.reduceEq, Int.reduceNeg, decide_true, decide_false, Bool.not_true, Bool.not_false, show IntKind.i64.wrap (0 + 1) = 1 from rfl]
  exact GhV.le (AHeap.le_refl _)
theorem f45_0 : Gives Try.prog 45 [.nil, .i 0, .i 0, .i 0] (.tup []) := by
  intro H
  refine callP_body mixed Try.func45 a45_ok (by simp [a45]) ?_; simp only [a45, go_sem, reduceIte, Nat.reduceEqDiff, Nat.reduceAdd, Nat.reduceLT, Nat.reduceLeDiff, Nat.reduceSub, Nat.reduceMul, Nat.reducePow, Int.reduceToNat, Int.reduceLT, Int.reduceLE, Int.reduceEq, Int.reduceNeg, decide_true, decide_false, Bool.not_true, Bool.not_false]
  refine loop_unfold ?_
  generalize loopC Try.prog a45_L0 = Z
  unfold a45_L0
  simp only [go_sem, reduceIte, Nat.reduceEqDiff, Nat.reduceAdd, Nat.reduceLT, Nat.reduceLeDiff, Nat.reduceSub, Nat.reduceMul, Nat.reducePow, Int.reduceToNat, Int.reduceLT, Int.reduceLE, Int.reduceEq, Int.reduceNeg, decide_true, decide_false, Bool.not_true, Bool.not_false, show IntKind.i64.wrap (0 - 0) = 0 from rfl]
  refine f47_0.use ?_
  simp only [go_sem, reduceIte, Nat.reduceEqDiff, Nat.reduceAdd, Nat.reduceLT, Nat.reduceLeDiff, Nat.reduceSub, Nat.reduceMul, Nat.reducePow, Int.reduceToNat, Int.reduceLT, Int.reduceLE, Int.reduceEq, Int.reduceNeg, decide_true, decide_false, Bool.not_true, Bool.not_false]
  exact GhV.le (AHeap.le_refl _)
theorem f42_nil : Gives Try.prog 42 [.nil] (.tup []) := by
  intro H
  refine callP_body mixed Try.func42 a42_ok (by simp [a42]) ?_; simp only [a42, go_sem, reduceIte, Nat.reduceEqDiff, Nat.reduceAdd, Nat.reduceLT, Nat.reduceLeDiff, Nat.reduceSub, Nat.reduceMul, Nat.reducePow, Int.reduceToNat, Int.reduceLT, Int.reduceLE, Int.reduceEq, Int.reduceNeg, decide_true, decide_false, Bool.not_true, Bool.not_false]
  simp only [go_sem, reduceIte, Nat.reduceEqDiff, Nat.reduceAdd, Nat.reduceLT, Nat.reduceLeDiff, Nat.reduceSub, Nat.reduceMul, Nat.reducePow, Int.reduceToNat, Int.reduceLT, Int.reduceLE, Int.reduceEq, Int.reduceNeg, decide_true, decide_false, Bool.not_true, Bool.not_false, show IntKind.u64.wrap ((0 : Nat) : Int) = 0 from rfl]
  refine f46_0.use ?_
  simp only [go_sem, reduceIte, Nat.reduceEqDiff, Nat.reduceAdd, Nat.reduceLT, Nat.reduceLeDiff, Nat.reduceSub, Nat.reduceMul, Nat.reducePow, Int.reduceToNat, Int.reduceLT, Int.reduceLE, Int.reduceEq, Int.reduceNeg, decide_true, decide_false, Bool.not_true, Bool.not_false, show ((0 : Nat) : Int) = 0 from rfl]
  refine f45_0.use ?_
  simp only [go_sem, reduceIte, Nat.reduceEqDiff, Nat.reduceAdd, Nat.reduceLT, Nat.reduceLeDiff, Nat.reduceSub, Nat.reduceMul, Nat.reducePow, Int.reduceToNat, Int.reduceLT, Int.reduceLE, Int.reduceEq, Int.reduceNeg, decide_true, decide_false, Bool.not_true, Bool.not_false]
  exact GhV.le (AHeap.le_refl _)
end Go.Proofs.Ytaeanhonfoakeaa
end

section
namespace Go.Proofs.Ytaeanhonfoakeaa
open Go Heron
set_option linter.unusedSimpArgs false
set_option linter.unusedVariables false

def ddF (acc : List Int) (x : Int) : List Int := if acc.getLast? = some x then acc else acc ++ [x]
/-- Without what is adjacent and the same. -/
def dd (l : List Int) : List Int := l.foldl ddF []
theorem dd_snoc (l : List Int) (x : Int) : dd (l ++ [x]) = ddF (dd l) x := by simp [dd]
theorem list_snoc {α : Type} {l : List α} (h : l ≠ []) : ∃ r x, l = r ++ [x] := ⟨l.dropLast, l.getLast h, (List.dropLast_concat_getLast h).symm⟩
theorem dd_last : ∀ (n : Nat) (l : List Int), l.length = n → (dd l).getLast? = l.getLast?
  | 0, l, h => by
    have : l = [] := List.length_eq_zero_iff.1 h
    subst this; rfl
  | n + 1, l, h => by
    obtain ⟨r, x, rfl⟩ := list_snoc (l := l) (by intro e; subst e; simp at h)
    rw [dd_snoc, ddF]
    split
    · rename_i hx; rw [hx]; simp
    · simp
theorem dd_step {l : List Int} {k : Nat} {x y : Int} (hk : 1 ≤ k) (hx : l[k]? = some x) (hy : l[k - 1]? = some y) : dd (l.take (k + 1)) = if x = y then dd (l.take k) else dd (l.take k) ++ [x] := by
  rw [List.take_add_one, hx, Option.toList_some, dd_snoc, ddF, dd_last _ _ rfl]
  have : (l.take k).getLast? = some y := by
    rw [List.getLast?_eq_getElem?, List.length_take]
    have hlt := lt_of_get? hx
    rw [show min k l.length - 1 = k - 1 by omega, List.getElem?_take, if_pos (by omega), hy]
  rw [this]
  by_cases h : x = y
  · subst h; simp
  · simp [h, show ¬ y = x from fun e => h e.symm]
theorem dd_len : ∀ (n : Nat) (l : List Int), l.length = n → (dd l).length ≤ n
  | 0, l, h => by
    have : l = [] := List.length_eq_zero_iff.1 h
    subst this; simp [dd]
  | n + 1, l, h => by
    obtain ⟨r, x, rfl⟩ := list_snoc (l := l) (by intro e; subst e; simp at h)
    have := dd_len n r (by simpa using h)
    rw [dd_snoc, ddF]
    split
    · omega
    · simp; omega

theorem getI {l : List Int} {j : Nat} {x : Int} (h : l[j]? = some x) : (l.map AVal.i)[j]? = some (AVal.i x) := by rw [List.getElem?_map, h]; rfl

set_option maxHeartbeats 1000000 in
theorem f43_sl {H : AHeap} {b cap : Nat} {l : List Int} (hb : H b = some (.rows 1 (l.map AVal.i))) (hl : l.length ≤ 2 ^ 30) {K : AVal → AHeap → Prop}
    (hk : ∀ c : List Int, c.length = l.length → c.take (dd l).length = dd l → K (.sl b 1 0 (dd l).length cap) (H.set b (.rows 1 (c.map AVal.i)))) : callP Try.prog 43 [.sl b 1 0 l.length cap] H K := by
  refine callP_cap fun hcap => ?_
  have same : dd l = l → K (.sl b 1 0 l.length cap) H := fun e => by
    have := hk l rfl (by rw [e]; simp)
    rw [e, AHeap.set_same hb] at this
    exact this
  refine callP_body mixed Try.func43 a43_ok (by simp [a43]) ?_; simp only [a43, go_sem, reduceIte, Nat.reduceEqDiff, Nat.reduceAdd, Nat.reduceLT, Nat.reduceLeDiff, Nat.reduceSub, Nat.reduceMul, Nat.reducePow, Int.reduceToNat, Int.reduceLT, Int.reduceLE, Int.reduceEq, Int.reduceNeg, decide_true, decide_false, Bool.not_true, Bool.not_false]
  by_cases h2 : (l.length : Int) < 2
  · simp only [go_sem, reduceIte, Nat.reduceEqDiff, Nat.reduceAdd, Nat.reduceLT, Nat.reduceLeDiff, Nat.reduceSub, Nat.reduceMul, Nat.reducePow, Int.reduceToNat, Int.reduceLT, Int.reduceLE, Int.reduceEq, Int.reduceNeg, decide_true, decide_false, Bool.not_true, Bool.not_false, h2]
    refine same ?_
    match l, h2 with
    | [], _ => rfl
    | [x], _ => rfl
    | _ :: _ :: r, h2 => simp at h2; omega
  · simp only [go_sem, reduceIte, Nat.reduceEqDiff, Nat.reduceAdd, Nat.reduceLT, Nat.reduceLeDiff, Nat.reduceSub, Nat.reduceMul, Nat.reducePow, Int.reduceToNat, Int.reduceLT, Int.reduceLE, Int.reduceEq, Int.reduceNeg, decide_true, decide_false, Bool.not_true, Bool.not_false, h2]
    refine loop_upto (k := 1) l.length (fun k R H1 => 1 ≤ k ∧ H1 = H ∧ dd (l.take k) = l.take k ∧ R = ofL [(0, .sl b 1 0 l.length cap), (3, .i k)]) ?_ (by omega) ⟨Nat.le_refl _, rfl, by cases l with
      | nil => rfl
      | cons x r => rfl, rfl⟩
    rintro k R H1 X hkl ⟨hk1, hH, hdd, rfl⟩ ih
    subst H1
    unfold a43_L1
    simp only [go_sem, reduceIte, Nat.reduceEqDiff, Nat.reduceAdd, Nat.reduceLT, Nat.reduceLeDiff, Nat.reduceSub, Nat.reduceMul, Nat.reducePow, Int.reduceToNat, Int.reduceLT, Int.reduceLE, Int.reduceEq, Int.reduceNeg, decide_true, decide_false, Bool.not_true, Bool.not_false]
    by_cases hlt : k < l.length
    · obtain ⟨x, hx⟩ : ∃ x, l[k]? = some x := ⟨_, List.getElem?_eq_getElem hlt⟩
      obtain ⟨y, hy⟩ : ∃ y, l[k - 1]? = some y := ⟨_, List.getElem?_eq_getElem (by omega)⟩
      have hw : IntKind.i64.wrap ((k : Int) - 1) = ((k - 1 : Nat) : Int) := by rw [wrap_nat (by omega) (by omega)]; omega
      have hlt1 : k - 1 < l.length := by omega
      simp only [go_sem, reduceIte, Nat.reduceEqDiff, Nat.reduceAdd, Nat.reduceLT, Nat.reduceLeDiff, Nat.reduceSub, Nat.reduceMul, Nat.reducePow, Int.reduceToNat, Int.reduceLT, Int.reduceLE, Int.reduceEq, Int.reduceNeg, decide_true, decide_false, Bool.not_true, Bool.not_false, hlt, hlt1, hw, hb, getI hx, getI hy]
      by_cases hxy : x = y
      · have hn1 : ((l.length : Int) - (k : Int)).toNat = l.length - k := by omega
        have hn2 : ((cap : Int) - (k : Int)).toNat = cap - k := by omega
        have hkn : k ≤ l.length := by omega
        have e1 : dd (l.take (k + 1)) = l.take k := by rw [dd_step hk1 hx hy, if_pos hxy, hdd]
        simp only [go_sem, reduceIte, Nat.reduceEqDiff, Nat.reduceAdd, Nat.reduceLT, Nat.reduceLeDiff, Nat.reduceSub, Nat.reduceMul, Nat.reducePow, Int.reduceToNat, Int.reduceLT, Int.reduceLE, Int.reduceEq, Int.reduceNeg, decide_true, decide_false, Bool.not_true, Bool.not_false, hxy, hn1, hn2, hkn, hcap]
        clear ih
        refine loop_upto (k := 1) (l.length - k) (fun j R H1 => 1 ≤ j ∧ ∃ c : List Int, c.length = l.length ∧ H1 = H.set b (.rows 1 (c.map AVal.i)) ∧ c.take (dd (l.take (k + j))).length = dd (l.take (k + j)) ∧ (dd (l.take (k + j))).length + 1 ≤ k + j ∧ (∀ i, k + j ≤ i + 1 → c[i]? = l[i]?) ∧
          R = ofL [(0, .sl b 1 0 l.length cap), (3, .i ((dd (l.take (k + j))).length : Nat)), (4, .sl b 1 k (l.length - k) (cap - k)), (5, .i j)]) ?_ (by omega) ⟨Nat.le_refl _, l, rfl, by rw [AHeap.set_same hb], by rw [e1]; simp, by rw [e1, List.length_take]; omega, fun i _ => rfl, ?_⟩
        rotate_left
        · simp [e1, List.length_take, Nat.min_eq_left hkn]
        rintro j R _ Y hjn ⟨hj1, c, hcl, rfl, hct, hlen, hci, rfl⟩ ih
        unfold a43_L0
        simp only [go_sem, reduceIte, Nat.reduceEqDiff, Nat.reduceAdd, Nat.reduceLT, Nat.reduceLeDiff, Nat.reduceSub, Nat.reduceMul, Nat.reducePow, Int.reduceToNat, Int.reduceLT, Int.reduceLE, Int.reduceEq, Int.reduceNeg, decide_true, decide_false, Bool.not_true, Bool.not_false]
        by_cases hjl : j < l.length - k
        · obtain ⟨u, hu⟩ : ∃ u, l[k + j]? = some u := ⟨_, List.getElem?_eq_getElem (by omega)⟩
          obtain ⟨v, hv⟩ : ∃ v, l[k + (j - 1)]? = some v := ⟨_, List.getElem?_eq_getElem (by omega)⟩
          have hcu : c[k + j]? = some u := by rw [hci _ (by omega), hu]
          have hcv : c[k + (j - 1)]? = some v := by rw [hci _ (by omega), hv]
          have hw2 : IntKind.i64.wrap ((j : Int) - 1) = ((j - 1 : Nat) : Int) := by rw [wrap_nat (by omega) (by omega)]; omega
          have hjl1 : j - 1 < l.length - k := by omega
          have est := dd_step (l := l) (k := k + j) (x := u) (y := v) (by omega) hu (by rw [show k + j - 1 = k + (j - 1) by omega]; exact hv)
          by_cases huv : u = v
          · simp only [go_sem, reduceIte, Nat.reduceEqDiff, Nat.reduceAdd, Nat.reduceLT, Nat.reduceLeDiff, Nat.reduceSub, Nat.reduceMul, Nat.reducePow, Int.reduceToNat, Int.reduceLT, Int.reduceLE, Int.reduceEq, Int.reduceNeg, decide_true, decide_false, Bool.not_true, Bool.not_false, hjl, hjl1, hw2, getI hcu, getI hcv, huv, not_true_eq_false]
            rw [if_pos huv] at est
            refine ih _ _ hjl ⟨by omega, c, hcl, rfl, ?_, ?_, fun i hi => hci i (by omega), ?_⟩
            · rw [show k + (j + 1) = k + j + 1 by omega, est]; exact hct
            · rw [show k + (j + 1) = k + j + 1 by omega, est]; omega
            · rw [show k + (j + 1) = k + j + 1 by omega, est, wrap_up (by omega)]
          · rw [if_neg huv] at est
            have hkk : (dd (l.take (k + j))).length < l.length := by omega
            have hkc : (dd (l.take (k + j))).length < (c.map AVal.i).length := by simp; omega
            obtain ⟨z, hz⟩ : ∃ z, c[(dd (l.take (k + j))).length]? = some z := ⟨_, List.getElem?_eq_getElem (by omega)⟩
            simp only [go_sem, reduceIte, Nat.reduceEqDiff, Nat.reduceAdd, Nat.reduceLT, Nat.reduceLeDiff, Nat.reduceSub, Nat.reduceMul, Nat.reducePow, Int.reduceToNat, Int.reduceLT, Int.reduceLE, Int.reduceEq, Int.reduceNeg, decide_true, decide_false, Bool.not_true, Bool.not_false, hjl, hjl1, hw2, getI hcu, getI hcv, huv, not_false_eq_true, hkk, getI hz]
            have hset : (c.map AVal.i).set (dd (l.take (k + j))).length (AVal.i u) = (c.set (dd (l.take (k + j))).length u).map AVal.i := by rw [List.map_set]
            refine ih _ _ hjl ⟨by omega, c.set (dd (l.take (k + j))).length u, by simpa using hcl, by rw [AHeap.set_set, ← hset], ?_, ?_, fun i hi => ?_, ?_⟩
            · rw [show k + (j + 1) = k + j + 1 by omega, est, List.length_append, List.length_singleton, List.take_add_one, List.take_set_of_le (Nat.le_refl _), hct, List.getElem?_set_self (by omega)]
              rfl
            · rw [show k + (j + 1) = k + j + 1 by omega, est]; simp; omega
            · rw [List.getElem?_set_ne (by omega)]; exact hci i (by omega)
            · rw [show k + (j + 1) = k + j + 1 by omega, est, wrap_up (by omega), wrap_up (by omega)]; simp
        · have hjj : k + j = l.length := by omega
          rw [hjj, List.take_length] at hct hlen
          rw [hjj, List.take_length]
          have hdl := dd_len _ l rfl
          have hn3 : ((l.length : Int) - ((dd l).length : Int)).toNat = l.length - (dd l).length := by omega
          have hdc : (dd l).length ≤ cap := by omega
          simp only [go_sem, reduceIte, Nat.reduceEqDiff, Nat.reduceAdd, Nat.reduceLT, Nat.reduceLeDiff, Nat.reduceSub, Nat.reduceMul, Nat.reducePow, Int.reduceToNat, Int.reduceLT, Int.reduceLE, Int.reduceEq, Int.reduceNeg, decide_true, decide_false, Bool.not_true, Bool.not_false, hjl, hdl, hcap, hn3]
          refine clrsK_sl (by rw [set_get, if_pos rfl]) (by simp; omega) (fun e he => by simp at he; subst he; rfl) ?_
          simp only [go_sem, reduceIte, Nat.reduceEqDiff, Nat.reduceAdd, Nat.reduceLT, Nat.reduceLeDiff, Nat.reduceSub, Nat.reduceMul, Nat.reducePow, Int.reduceToNat, Int.reduceLT, Int.reduceLE, Int.reduceEq, Int.reduceNeg, decide_true, decide_false, Bool.not_true, Bool.not_false, hdc]
          have hfin := hk (c.take (dd l).length ++ List.replicate (l.length - (dd l).length) 0) (by simp; omega) (by rw [List.take_append_of_le_length (by simp; omega)]; rw [List.take_take, Nat.min_self, hct])
          rw [AHeap.set_set]
          rw [List.map_append, List.map_replicate, List.map_take] at hfin
          rw [List.drop_of_length_le (by simp; omega), List.append_nil]
          exact hfin
      · simp only [go_sem, reduceIte, Nat.reduceEqDiff, Nat.reduceAdd, Nat.reduceLT, Nat.reduceLeDiff, Nat.reduceSub, Nat.reduceMul, Nat.reducePow, Int.reduceToNat, Int.reduceLT, Int.reduceLE, Int.reduceEq, Int.reduceNeg, decide_true, decide_false, Bool.not_true, Bool.not_false, hxy]
        refine ih _ _ hlt ⟨by omega, rfl, ?_, by rw [wrap_up (by omega)]⟩
        rw [dd_step hk1 hx hy, if_neg hxy, hdd, List.take_add_one, hx]
        rfl
    · simp only [go_sem, reduceIte, Nat.reduceEqDiff, Nat.reduceAdd, Nat.reduceLT, Nat.reduceLeDiff, Nat.reduceSub, Nat.reduceMul, Nat.reducePow, Int.reduceToNat, Int.reduceLT, Int.reduceLE, Int.reduceEq, Int.reduceNeg, decide_true, decide_false, Bool.not_true, Bool.not_false, hlt]
      have : k = l.length := by omega
      subst this
      rw [List.take_length] at hdd
      exact same hdd
end Go.Proofs.Ytaeanhonfoakeaa
end

section
namespace Go.Proofs.Ytaeanhonfoakeaa
open Go Heron
set_option linter.unusedSimpArgs false
set_option linter.unusedVariables false

theorem f43_nil : Gives Try.prog 43 [.nil] .nil := by
  intro H
  refine callP_body mixed Try.func43 a43_ok (by simp [a43]) ?_; simp only [a43, go_sem, reduceIte, Nat.reduceEqDiff, Nat.reduceAdd, Nat.reduceLT, Nat.reduceLeDiff, Nat.reduceSub, Nat.reduceMul, Nat.reducePow, Int.reduceToNat, Int.reduceLT, Int.reduceLE, Int.reduceEq, Int.reduceNeg, decide_true, decide_false, Bool.not_true, Bool.not_false]
  exact GhV.le (AHeap.le_refl _)

/-- The rounds of a history. -/
def rds (h : List Ev) : List Int := dd (sortI (h.map Ev.round))
theorem sortI_len (l : List Int) : (sortI l).length = l.length := List.length_mergeSort l

theorem ptr_rows {b : Nat} {H : AHeap} {c : List Int} {n cap : Nat} (hn : n ≤ c.length) {H0 : AHeap} (hb : H0 b = none) (h : H0.le H) : GhV (.sl b 1 0 n cap) (H.set b (.rows 1 (c.map AVal.i))) (intsA (c.take n)) H0 := by
  have hbb : (H.set b (.rows 1 (c.map AVal.i))) b = some (.rows 1 (c.map AVal.i)) := by rw [set_get, if_pos rfl]
  have hle : H0.le (H.set b (.rows 1 (c.map AVal.i))) := fun d o e => by
    rw [set_get, if_neg (fun e2 => by subst e2; rw [hb] at e; cases e)]
    exact h d o e
  have := GhA.freezeTo («as» := [.sl b 1 0 n cap]) (as' := [intsA (c.take n)]) (H' := H0) hbb rfl (fun i a a' h1 h2 => by
    cases i with
    | zero =>
      simp at h1 h2
      subst h1; subst h2
      right
      simp [frzE, frzA, frzV, hn, intsA, List.map_take]
    | succ i => simp at h1) (fun c o e => ⟨(fun ec => by subst ec; rw [hb] at e; cases e), .inl (hle c o e)⟩)
  exact this

theorem f39_c {H : AHeap} {B : Nat} {M : AVal} (h : List Ev) (hB : H B = some (.rows 2 [.agg [evsA h, M]])) (hl : h.length ≤ 2 ^ 20) {K : AVal → AHeap → Prop} (hk : K (intsA (rds h)) H) : callP Try.prog 39 [.ptr B 2 0 0] H K := by
  refine callP_post (K' := fun v1 H1 => GhV v1 H1 (intsA (rds h)) H) ?_ fun v1 H1 g => ⟨_, _, g, hk⟩
  clear hk
  refine callP_body mixed Try.func39 a39_ok (by simp [a39]) ?_; simp only [a39, go_sem, reduceIte, Nat.reduceEqDiff, Nat.reduceAdd, Nat.reduceLT, Nat.reduceLeDiff, Nat.reduceSub, Nat.reduceMul, Nat.reducePow, Int.reduceToNat, Int.reduceLT, Int.reduceLE, Int.reduceEq, Int.reduceNeg, decide_true, decide_false, Bool.not_true, Bool.not_false]
  simp only [go_sem, reduceIte, Nat.reduceEqDiff, Nat.reduceAdd, Nat.reduceLT, Nat.reduceLeDiff, Nat.reduceSub, Nat.reduceMul, Nat.reducePow, Int.reduceToNat, Int.reduceLT, Int.reduceLE, Int.reduceEq, Int.reduceNeg, decide_true, decide_false, Bool.not_true, Bool.not_false, hB, evsA]
  refine loop_upto (k := 0) h.length (fun k R H1 => ∃ a, Acc H 1 ((h.take k).map fun x => AVal.i x.round) a H1 ∧ R = ofL [(3, a), (9, .ro 7 (h.map evA)), (10, .i h.length), (11, .i k)]) ?_ (Nat.zero_le _) ⟨_, Acc.nil H.le_refl, rfl⟩
  rintro k R H1 X hk ⟨a, hacc, rfl⟩ ih
  unfold a39_L0
  simp only [go_sem, reduceIte, Nat.reduceEqDiff, Nat.reduceAdd, Nat.reduceLT, Nat.reduceLeDiff, Nat.reduceSub, Nat.reduceMul, Nat.reducePow, Int.reduceToNat, Int.reduceLT, Int.reduceLE, Int.reduceEq, Int.reduceNeg, decide_true, decide_false, Bool.not_true, Bool.not_false]
  by_cases hlt : k < h.length
  · obtain ⟨x, hx⟩ : ∃ x, h[k]? = some x := ⟨_, List.getElem?_eq_getElem hlt⟩
    simp only [go_sem, reduceIte, Nat.reduceEqDiff, Nat.reduceAdd, Nat.reduceLT, Nat.reduceLeDiff, Nat.reduceSub, Nat.reduceMul, Nat.reducePow, Int.reduceToNat, Int.reduceLT, Int.reduceLE, Int.reduceEq, Int.reduceNeg, decide_true, decide_false, Bool.not_true, Bool.not_false, hlt, hx, evA]
    (repeat' (first | (refine opG_cases (fun hc => ?_) (fun hc => ?_) <;> simp only [go_sem, reduceIte, Nat.reduceEqDiff, Nat.reduceAdd, Nat.reduceLT, Nat.reduceLeDiff, Nat.reduceSub, Nat.reduceMul, Nat.reducePow, Int.reduceToNat, Int.reduceLT, Int.reduceLE, Int.reduceEq, Int.reduceNeg, decide_true, decide_false, Bool.not_true, Bool.not_false, hx, evA, *]) | (refine ifP_cases (fun hc => ?_) (fun hc => ?_) <;> simp only [go_sem, reduceIte, Nat.reduceEqDiff, Nat.reduceAdd, Nat.reduceLT, Nat.reduceLeDiff, Nat.reduceSub, Nat.reduceMul, Nat.reducePow, Int.reduceToNat, Int.reduceLT, Int.reduceLE, Int.reduceEq, Int.reduceNeg, decide_true, decide_false, Bool.not_true, Bool.not_false, hx, evA, *]) | (refine allocK_i fun nb hnb => ?_; (try simp only [set_none] at hnb); simp only [go_sem, reduceIte, Nat.reduceEqDiff, Nat.reduceAdd, Nat.reduceLT, Nat.reduceLeDiff, Nat.reduceSub, Nat.reduceMul, Nat.reducePow, Int.reduceToNat, Int.reduceLT, Int.reduceLE, Int.reduceEq, Int.reduceNeg, decide_true, decide_false, Bool.not_true, Bool.not_false, hx, evA, *])))
    refine Acc.app (hacc.mono (by (repeat (first | (refine AHeap.le_set' ?_ (by first | (simp only [*]; done) | (refine AHeap.le_none (by assumption) ?_; simp only [*]))) | (refine AHeap.le_del ?_ (by first | (simp only [*]; done) | (refine AHeap.le_none (by assumption) ?_; simp only [*]))))); first | exact AHeap.le_refl _ | assumption)) (by simp; omega) (fun e he => by simp at he; subst he; rfl) (fun a' H' h' => ?_)
    simp only [go_sem, reduceIte, Nat.reduceEqDiff, Nat.reduceAdd, Nat.reduceLT, Nat.reduceLeDiff, Nat.reduceSub, Nat.reduceMul, Nat.reducePow, Int.reduceToNat, Int.reduceLT, Int.reduceLE, Int.reduceEq, Int.reduceNeg, decide_true, decide_false, Bool.not_true, Bool.not_false]
    refine ih _ _ hlt ⟨a', ?_, by rw [wrap_up (by omega)]⟩
    rw [← take_map_succ (fun x => AVal.i x.round) hx]
    exact h'
  · simp only [go_sem, reduceIte, Nat.reduceEqDiff, Nat.reduceAdd, Nat.reduceLT, Nat.reduceLeDiff, Nat.reduceSub, Nat.reduceMul, Nat.reducePow, Int.reduceToNat, Int.reduceLT, Int.reduceLE, Int.reduceEq, Int.reduceNeg, decide_true, decide_false, Bool.not_true, Bool.not_false, hlt]
    have : k = h.length := by omega
    subst this
    rw [List.take_length] at hacc
    have hmm : h.map (fun x => AVal.i x.round) = (h.map Ev.round).map AVal.i := by simp
    rw [hmm] at hacc
    rcases hacc.is with ⟨he, rfl⟩ | ⟨b, cap, hb, rfl, hbb⟩
    · have : h = [] := by simpa using he
      subst this
      refine f42_nil.use ?_
      simp only [go_sem, reduceIte, Nat.reduceEqDiff, Nat.reduceAdd, Nat.reduceLT, Nat.reduceLeDiff, Nat.reduceSub, Nat.reduceMul, Nat.reducePow, Int.reduceToNat, Int.reduceLT, Int.reduceLE, Int.reduceEq, Int.reduceNeg, decide_true, decide_false, Bool.not_true, Bool.not_false]
      refine f43_nil.use ?_
      simp only [go_sem, reduceIte, Nat.reduceEqDiff, Nat.reduceAdd, Nat.reduceLT, Nat.reduceLeDiff, Nat.reduceSub, Nat.reduceMul, Nat.reducePow, Int.reduceToNat, Int.reduceLT, Int.reduceLE, Int.reduceEq, Int.reduceNeg, decide_true, decide_false, Bool.not_true, Bool.not_false]
      rw [show rds [] = [] by simp [rds, sortI, dd]]
      exact GhV.wk (wk_nil 1) hacc.le
    · rw [List.length_map] at *
      refine f42_sl hbb (by simp; omega) ?_
      simp only [go_sem, reduceIte, Nat.reduceEqDiff, Nat.reduceAdd, Nat.reduceLT, Nat.reduceLeDiff, Nat.reduceSub, Nat.reduceMul, Nat.reducePow, Int.reduceToNat, Int.reduceLT, Int.reduceLE, Int.reduceEq, Int.reduceNeg, decide_true, decide_false, Bool.not_true, Bool.not_false]
      have e1 : h.length = (sortI (h.map Ev.round)).length := by rw [sortI_len]; simp
      rw [e1]
      refine f43_sl (l := sortI (h.map Ev.round)) (by rw [set_get, if_pos rfl]) (by rw [sortI_len]; simp; omega) fun c hc ht => ?_
      simp only [go_sem, reduceIte, Nat.reduceEqDiff, Nat.reduceAdd, Nat.reduceLT, Nat.reduceLeDiff, Nat.reduceSub, Nat.reduceMul, Nat.reducePow, Int.reduceToNat, Int.reduceLT, Int.reduceLE, Int.reduceEq, Int.reduceNeg, decide_true, decide_false, Bool.not_true, Bool.not_false]
      rw [AHeap.set_set]
      have := ptr_rows (cap := cap) (n := (dd (sortI (h.map Ev.round))).length) (c := c) (by rw [hc]; exact dd_len _ _ rfl) hb hacc.le
      rw [ht] at this
      exact this
end Go.Proofs.Ytaeanhonfoakeaa
end

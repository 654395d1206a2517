/- The plain law of the rounds: rising, each once. Contracts: the accesses, one behind the other. Contracts: what is explained; what is awake. -/
import Derived.Test.YtaeanhonfoakeaaM4
import Derived.Test.YtaeanhonfoakeaaM1
import Derived.Test.YtaeanhonfoakeaaL1
section
namespace Go.Proofs.Ytaeanhonfoakeaa
open Go Heron
set_option linter.unusedSimpArgs false
set_option linter.unusedVariables false

theorem dd_mem (x : Int) : ∀ (n : Nat) (l : List Int), l.length = n → (x ∈ dd l ↔ x ∈ l)
  | 0, l, h => by
    have : l = [] := List.length_eq_zero_iff.1 h
    subst this; simp [dd]
  | n + 1, l, h => by
    obtain ⟨r, y, rfl⟩ := list_snoc (l := l) (by intro e; subst e; simp at h)
    have ih := dd_mem x n r (by simpa using h)
    rw [dd_snoc, ddF]
    split
    · rename_i hl
      have hy : y ∈ dd r := List.mem_of_getLast? hl
      rw [ih, List.mem_append, List.mem_singleton]
      constructor
      · exact .inl
      · rintro (h1 | rfl)
        · exact h1
        · exact (dd_mem x n r (by simpa using h)).1 hy
    · rw [List.mem_append, List.mem_append, ih]
theorem dd_lt : ∀ (n : Nat) (l : List Int), l.length = n → l.Pairwise (· ≤ ·) → (dd l).Pairwise (· < ·)
  | 0, l, h, hs => by
    have : l = [] := List.length_eq_zero_iff.1 h
    subst this; exact List.Pairwise.nil
  | n + 1, l, h, hs => by
    obtain ⟨r, y, rfl⟩ := list_snoc (l := l) (by intro e; subst e; simp at h)
    have hn : r.length = n := by simpa using h
    rw [List.pairwise_append] at hs
    have ih := dd_lt n r hn hs.1
    rw [dd_snoc, ddF]
    split
    · exact ih
    · rename_i hl
      rw [List.pairwise_append]
      refine ⟨ih, List.pairwise_singleton _ _, fun a ha b hb => ?_⟩
      simp only [List.mem_singleton] at hb
      subst hb
      have h1 := hs.2.2 a ((dd_mem a n r hn).1 ha) b (by simp)
      by_cases e : a = b
      · subst e
        exfalso
        have hne : dd r ≠ [] := fun e => by rw [e] at ha; cases ha
        have hlast := List.getLast?_eq_some_getLast hne
        have hin : (dd r).getLast hne ∈ r := (dd_mem _ n r hn).1 (List.getLast_mem hne)
        have h2 := hs.2.2 _ hin a (by simp)
        obtain ⟨q, z, hq⟩ := list_snoc hne
        have hz : (dd r).getLast hne = z := by simp [hq]
        rw [hz] at hlast h2
        rw [hq] at ha ih
        rw [List.mem_append, List.mem_singleton] at ha
        rcases ha with ha | rfl
        · rw [List.pairwise_append] at ih
          have := ih.2.2 a ha z (by simp)
          omega
        · exact hl hlast
      · omega
theorem sortI_le (l : List Int) : (sortI l).Pairwise (· ≤ ·) := by
  have := List.pairwise_mergeSort (le := fun x y : Int => decide (x ≤ y)) (fun a b c h1 h2 => by simp at *; omega) (fun a b => by simp; omega) l
  exact this.imp fun h => by simpa using h
theorem rds_lt (h : List Ev) : (rds h).Pairwise (· < ·) := dd_lt _ _ rfl (sortI_le _)
theorem rds_mem (h : List Ev) (r : Int) : r ∈ rds h ↔ ∃ x ∈ h, x.round = r := by
  unfold rds
  rw [dd_mem r _ _ rfl, sortI, List.mem_mergeSort, List.mem_map]

/-- The places that are told, one behind the other. -/
def serialP (h : List Ev) : List Nat := (rds h).flatMap fun r => toldP h (fates h) r (h.length + 2) (-1)
def serial (h : List Ev) : List Ev := (serialP h).map (evP h)
theorem serialP_lt (h : List Ev) : ∀ p ∈ serialP h, p < h.length := fun p hp => by
  obtain ⟨r, _, hr⟩ := List.mem_flatMap.1 hp
  exact (told_mem .top hr).1
theorem serialP_nodup (h : List Ev) : (serialP h).Nodup := by
  rw [serialP, List.Nodup, List.pairwise_flatMap]
  refine ⟨fun r _ => told_nodup .top, (rds_lt h).imp fun {r r'} hlt x hx y hy e => ?_⟩
  subst e
  have h1 := (told_mem .top hx).2.1
  have h2 := (told_mem .top hy).2.1
  omega
theorem serialP_len (h : List Ev) : (serialP h).length ≤ h.length := nodup_bound (serialP_nodup h) (serialP_lt h)
end Go.Proofs.Ytaeanhonfoakeaa
end

section
namespace Go.Proofs.Ytaeanhonfoakeaa
open Go Heron
set_option linter.unusedSimpArgs false
set_option linter.unusedVariables false

theorem evA_flat (x : Ev) : (evA x).cells.length = 7 := rfl

theorem f38_c {l c cB B : Nat} {o : AObj} {h : List Ev} (htk : Takes l o c h) (hl : h.length ≤ 2 ^ 19) {H0 H : AHeap} {K : AVal → AHeap → Prop} (hcB : H0 cB = some (.rows 1 [.ptr B 2 0 0])) (hb : Book H0 B h) (hs : Sink l o c h H0 [] H)
    (hk : ∀ v H', Sink l o c h H0 (serialP h) H' → K v H') : callP Try.prog 38 [.yd l, .ptr cB 1 0 0] H K := by
  obtain ⟨m, es, clock, h1, h2, h3⟩ := id hb
  refine callP_body mixed Try.func38 a38_ok (by simp [a38]) ?_; simp only [a38, go_sem, reduceIte, Nat.reduceEqDiff, Nat.reduceAdd, Nat.reduceLT, Nat.reduceLeDiff, Nat.reduceSub, Nat.reduceMul, Nat.reducePow, Int.reduceToNat, Int.reduceLT, Int.reduceLE, Int.reduceEq, Int.reduceNeg, decide_true, decide_false, Bool.not_true, Bool.not_false]
  simp only [go_sem, reduceIte, Nat.reduceEqDiff, Nat.reduceAdd, Nat.reduceLT, Nat.reduceLeDiff, Nat.reduceSub, Nat.reduceMul, Nat.reducePow, Int.reduceToNat, Int.reduceLT, Int.reduceLE, Int.reduceEq, Int.reduceNeg, decide_true, decide_false, Bool.not_true, Bool.not_false, hs.le _ _ hcB]
  refine f39_c h (hs.le _ _ h1) (by omega) ?_
  simp only [go_sem, reduceIte, Nat.reduceEqDiff, Nat.reduceAdd, Nat.reduceLT, Nat.reduceLeDiff, Nat.reduceSub, Nat.reduceMul, Nat.reducePow, Int.reduceToNat, Int.reduceLT, Int.reduceLE, Int.reduceEq, Int.reduceNeg, decide_true, decide_false, Bool.not_true, Bool.not_false]
  refine loop_upto (k := 0) (rds h).length (fun k R H1 => Sink l o c h H0 (((rds h).take k).flatMap fun r => toldP h (fates h) r (h.length + 2) (-1)) H1 ∧ R = ofL [(0, .yd l), (1, .ptr cB 1 0 0), (6, intsA (rds h)), (7, .i (rds h).length), (8, .i k)]) ?_ (Nat.zero_le _) ⟨by simpa using hs, rfl⟩
  rintro k R H1 X hkl ⟨hs1, rfl⟩ ih
  unfold a38_L0
  simp only [go_sem, reduceIte, Nat.reduceEqDiff, Nat.reduceAdd, Nat.reduceLT, Nat.reduceLeDiff, Nat.reduceSub, Nat.reduceMul, Nat.reducePow, Int.reduceToNat, Int.reduceLT, Int.reduceLE, Int.reduceEq, Int.reduceNeg, decide_true, decide_false, Bool.not_true, Bool.not_false]
  have hrl : (rds h).length ≤ h.length := by
    have := dd_len _ (sortI (h.map Ev.round)) rfl
    rw [sortI_len, List.length_map] at this
    exact this
  by_cases hlt : k < (rds h).length
  · obtain ⟨r, hr⟩ : ∃ r, (rds h)[k]? = some r := ⟨_, List.getElem?_eq_getElem hlt⟩
    have et : ((rds h).take (k + 1)).flatMap (fun r => toldP h (fates h) r (h.length + 2) (-1)) = ((rds h).take k).flatMap (fun r => toldP h (fates h) r (h.length + 2) (-1)) ++ toldP h (fates h) r (h.length + 2) (-1) := by
      rw [List.take_add_one, hr]; simp
    simp only [go_sem, reduceIte, Nat.reduceEqDiff, Nat.reduceAdd, Nat.reduceLT, Nat.reduceLeDiff, Nat.reduceSub, Nat.reduceMul, Nat.reducePow, Int.reduceToNat, Int.reduceLT, Int.reduceLE, Int.reduceEq, Int.reduceNeg, decide_true, decide_false, Bool.not_true, Bool.not_false, hlt, hr, hs1.le _ _ hcB]
    refine f40_c htk (by omega) r (h.length + 2) (-1) [] .top (by simp) (by omega) H0 _ _ _ hb hs1 ?_ fun H' hs2 => ?_
    · have e1 : (((rds h).take (k + 1)).flatMap fun r => toldP h (fates h) r (h.length + 2) (-1)).length ≤ (serialP h).length := by
        unfold serialP
        rw [show (rds h).flatMap (fun r => toldP h (fates h) r (h.length + 2) (-1)) = ((rds h).take (k + 1) ++ (rds h).drop (k + 1)).flatMap (fun r => toldP h (fates h) r (h.length + 2) (-1)) by rw [List.take_append_drop], List.flatMap_append, List.length_append]
        omega
      have e2 := serialP_len h
      rw [et, List.length_append] at e1
      omega
    · rw [← et] at hs2
      simp only [go_sem, reduceIte, Nat.reduceEqDiff, Nat.reduceAdd, Nat.reduceLT, Nat.reduceLeDiff, Nat.reduceSub, Nat.reduceMul, Nat.reducePow, Int.reduceToNat, Int.reduceLT, Int.reduceLE, Int.reduceEq, Int.reduceNeg, decide_true, decide_false, Bool.not_true, Bool.not_false]
      exact ih _ _ hlt ⟨hs2, by rw [wrap_up (by omega)]⟩
  · simp only [go_sem, reduceIte, Nat.reduceEqDiff, Nat.reduceAdd, Nat.reduceLT, Nat.reduceLeDiff, Nat.reduceSub, Nat.reduceMul, Nat.reducePow, Int.reduceToNat, Int.reduceLT, Int.reduceLE, Int.reduceEq, Int.reduceNeg, decide_true, decide_false, Bool.not_true, Bool.not_false, hlt]
    have : k = (rds h).length := by omega
    subst this
    rw [List.take_length] at hs1
    exact hk _ _ hs1

theorem f28_c {B : Nat} {H : AHeap} {K : AVal → AHeap → Prop} (hk : ∀ cB, H cB = none → K (.fn 38 [.ptr cB 1 0 0]) (H.set cB (.rows 1 [.ptr B 2 0 0]))) : callP Try.prog 28 [.ptr B 2 0 0] H K := by
  refine callP_body mixed Try.func28 a28_ok (by simp [a28]) ?_; simp only [a28, go_sem, reduceIte, Nat.reduceEqDiff, Nat.reduceAdd, Nat.reduceLT, Nat.reduceLeDiff, Nat.reduceSub, Nat.reduceMul, Nat.reducePow, Int.reduceToNat, Int.reduceLT, Int.reduceLE, Int.reduceEq, Int.reduceNeg, decide_true, decide_false, Bool.not_true, Bool.not_false]
  refine allocK_i fun cB hcB => ?_
  try simp only [set_none] at hcB
  try simp only [go_sem, reduceIte, Nat.reduceEqDiff, Nat.reduceAdd, Nat.reduceLT, Nat.reduceLeDiff, Nat.reduceSub, Nat.reduceMul, Nat.reducePow, Int.reduceToNat, Int.reduceLT, Int.reduceLE, Int.reduceEq, Int.reduceNeg, decide_true, decide_false, Bool.not_true, Bool.not_false]
  exact hk cB hcB

theorem enter38 : enterable Try.prog 38 = true := by kernel_rfl

theorem rfP_i {P : Program} {keep ps : List Nat} {fa fb : Regs → AHeap → AQ → Prop} {f : FuncId} {cap : List AVal} {R : Regs} {H : AHeap} {Q : AQ} (he : enterable P f = true)
    (h : ∀ l r, H l = none → Rounds P ps fa fb l r (prune R keep) → callP P f (.yd l :: cap) (H.set l (.loop (loopAt r 0) (prune R keep))) fun _ H' => ∃ st, H' l = some (.loop (loopAt r st) (prune R keep)) ∧ Q (leftAs st) R (H'.del l)) : rfP P keep ps fa fb (some (.fn f cap)) R H Q := ⟨he, h⟩

theorem set_del_self {H : AHeap} {l : Nat} {o : AObj} (h : H l = some o) : (H.del l).set l o = H := by
  funext b
  unfold AHeap.set AHeap.del
  by_cases hb : b = l
  · subst hb; simp [h]
  · simp [hb]

def fa11 : Regs → AHeap → AQ → Prop := symb Try.prog (ACode.rg [⟨some 4, none, .alloc 7 (.agg [(.raw (.int .i64 0)), (.raw (.int .i64 0)), (.raw (.int .i64 0)), (.raw (.int .i64 0)), (.raw (.int .i64 0)), (.raw (.slice none 0 0)), (.raw (.slice none 0 0))])⟩,
    ⟨none, none, .store 7 (.t 4) (.t 8)⟩] [3, 4])
def fb11 : Regs → AHeap → AQ → Prop := symb Try.prog (ACode.block 1 (.rg [⟨some 9, none, .q (.load none (.t 3))⟩,
    ⟨some 10, none, .q (.load (some 7) (.t 4))⟩,
    ⟨some 11, none, .bsl 7 1 (.agg [(.raw (.int .i64 0)), (.raw (.int .i64 0)), (.raw (.int .i64 0)), (.raw (.int .i64 0)), (.raw (.int .i64 0)), (.raw (.slice none 0 0)), (.raw (.slice none 0 0))]) [(0, (.t 10))]⟩,
    ⟨some 12, none, .app 7 88 (.t 9) (.t 11)⟩,
    ⟨none, none, .store 1 (.t 3) (.t 12)⟩] []))

theorem takes11 {l c : Nat} {r : Loop} {h : List Ev} (hr : Rounds Try.prog [8] fa11 fb11 l r [(3, .ptr c 1 0 0)]) : Takes l (.loop (loopAt r 0) [(3, .ptr c 1 0 0)]) c h := by
  intro H0 ps p H K hps hs hk
  obtain ⟨a, ha, hacc⟩ := hs.is
  refine hr [evA (evP h p)] H K rfl hs.rec_ ?_
  have hle := hs.le
  have hl0 := hs.l0
  have hc0 := hs.c0
  have hne := hs.ne
  have hdc : (H.del l) c = some (.rows 1 [a]) := by simp [AHeap.del, Ne.symm hne, ha]
  have hdl : (H.del l) l = none := by simp [AHeap.del]
  have hacc1 : Acc H0 7 (ps.map fun p => evA (evP h p)) a (H.del l) := hacc.away (o := some l) fun b e => by
    cases e
    refine ⟨hl0, fun e2 => ?_⟩
    have := (hacc.blk_none e2).2
    rw [hs.rec_] at this
    cases this
  clear hr ha hacc
  generalize H.del l = Hd at hdc hdl hacc1 ⊢
  simp only [fa11, fb11, putArgs]
  simp only [go_sem, reduceIte, Nat.reduceEqDiff, Nat.reduceAdd, Nat.reduceLT, Nat.reduceLeDiff, Nat.reduceSub, Nat.reduceMul, Nat.reducePow, Int.reduceToNat, Int.reduceLT, Int.reduceLE, Int.reduceEq, Int.reduceNeg, decide_true, decide_false, Bool.not_true, Bool.not_false]
  refine allocK_i fun b4 hb4 => ?_
  try simp only [set_none] at hb4
  have n1 : c ≠ b4 := ne_new hdc hb4
  have hfl := hacc1.flat
  simp only [go_sem, reduceIte, Nat.reduceEqDiff, Nat.reduceAdd, Nat.reduceLT, Nat.reduceLeDiff, Nat.reduceSub, Nat.reduceMul, Nat.reducePow, Int.reduceToNat, Int.reduceLT, Int.reduceLE, Int.reduceEq, Int.reduceNeg, decide_true, decide_false, Bool.not_true, Bool.not_false, n1, hdc, hb4, evA, hfl, AHeap.set_set]
  refine allocK_i fun b5 hb5 => ?_
  try simp only [set_none] at hb5
  have n2 : c ≠ b5 := ne_new hdc (by simp only [hb5])
  have hb5' : Hd b5 = none := by simp only [hb5]
  simp only [go_sem, reduceIte, Nat.reduceEqDiff, Nat.reduceAdd, Nat.reduceLT, Nat.reduceLeDiff, Nat.reduceSub, Nat.reduceMul, Nat.reducePow, Int.reduceToNat, Int.reduceLT, Int.reduceLE, Int.reduceEq, Int.reduceNeg, decide_true, decide_false, Bool.not_true, Bool.not_false, hb5, n2]
  refine Acc.app' (hacc1.mono (H' := (Hd.set b4 _).set b5 _) (AHeap.le_set' (AHeap.le_set' Hd.le_refl hb4) hb5')) (by simp; omega) (fun e he => by simp at he; subst he; rfl) fun a' H' h' hkeep hnew => ?_
  have hc' : H' c = some (.rows 1 [a]) := hkeep c _ (by simp [set_get, n1, n2, hdc]) (hacc1.ne_obj hdc (by simp))
  have hok := h'.cellOk
  have hfl' := h'.flat
  simp only [go_sem, reduceIte, Nat.reduceEqDiff, Nat.reduceAdd, Nat.reduceLT, Nat.reduceLeDiff, Nat.reduceSub, Nat.reduceMul, Nat.reducePow, Int.reduceToNat, Int.reduceLT, Int.reduceLE, Int.reduceEq, Int.reduceNeg, decide_true, decide_false, Bool.not_true, Bool.not_false, hc', hok, hfl']
  intro hln
  refine hk _ ⟨hl0, hc0, by rw [set_get, if_pos rfl], hne, a', by simp [set_get, Ne.symm hne], ?_⟩
  have he : evA (evP h p) = AVal.agg [AVal.i (evP h p).what, AVal.i (evP h p).round, AVal.i (evP h p).tx, AVal.i (evP h p).at_, AVal.i (evP h p).value, bytesA (evP h p).data, intsA (evP h p).gone] := rfl
  rw [List.map_append, List.map_singleton, he]
  have hln' : H' l = none := by
    rw [if_neg hne] at hln
    exact hln
  refine h'.move (AHeap.le_setN (AHeap.le_set' h'.le hc0) (by rw [set_get]; exact hln)) fun d hd => ?_
  have e1 : d ≠ c := fun e => h'.ne_obj hc' (by simp) (e ▸ hd)
  have e2 : d ≠ l := fun e => h'.ne_new hln' (e ▸ hd)
  simp [set_get, e1, e2]

set_option maxHeartbeats 1000000 in
theorem f11_c (h : List Ev) (hl : h.length ≤ 2 ^ 19) (hg : ∀ x ∈ h, x.gone.length ≤ 2 ^ 20) (H : AHeap) : callP Try.prog 11 [evsA h] H fun v H1 => Acc H 7 ((serial h).map evA) v H1 := by
  refine callP_body mixed Try.func11 a11_ok (by simp [a11]) ?_; simp only [a11, go_sem, reduceIte, Nat.reduceEqDiff, Nat.reduceAdd, Nat.reduceLT, Nat.reduceLeDiff, Nat.reduceSub, Nat.reduceMul, Nat.reducePow, Int.reduceToNat, Int.reduceLT, Int.reduceLE, Int.reduceEq, Int.reduceNeg, decide_true, decide_false, Bool.not_true, Bool.not_false]
  refine allocK_i fun c hc => ?_
  try simp only [set_none] at hc
  simp only [go_sem, reduceIte, Nat.reduceEqDiff, Nat.reduceAdd, Nat.reduceLT, Nat.reduceLeDiff, Nat.reduceSub, Nat.reduceMul, Nat.reducePow, Int.reduceToNat, Int.reduceLT, Int.reduceLE, Int.reduceEq, Int.reduceNeg, decide_true, decide_false, Bool.not_true, Bool.not_false]
  refine f27_c h (by omega) hg fun B H1 hle hb => ?_
  simp only [go_sem, reduceIte, Nat.reduceEqDiff, Nat.reduceAdd, Nat.reduceLT, Nat.reduceLeDiff, Nat.reduceSub, Nat.reduceMul, Nat.reducePow, Int.reduceToNat, Int.reduceLT, Int.reduceLE, Int.reduceEq, Int.reduceNeg, decide_true, decide_false, Bool.not_true, Bool.not_false]
  refine f28_c fun cB hcB => ?_
  simp only [go_sem, reduceIte, Nat.reduceEqDiff, Nat.reduceAdd, Nat.reduceLT, Nat.reduceLeDiff, Nat.reduceSub, Nat.reduceMul, Nat.reducePow, Int.reduceToNat, Int.reduceLT, Int.reduceLE, Int.reduceEq, Int.reduceNeg, decide_true, decide_false, Bool.not_true, Bool.not_false]
  have hc1 := hle c _ (by rw [set_get, if_pos rfl])
  have n1 : c ≠ cB := ne_new hc1 hcB
  refine rfP_i enter38 fun l r hl0 hr => ?_
  simp only [go_sem, reduceIte, Nat.reduceEqDiff, Nat.reduceAdd, Nat.reduceLT, Nat.reduceLeDiff, Nat.reduceSub, Nat.reduceMul, Nat.reducePow, Int.reduceToNat, Int.reduceLT, Int.reduceLE, Int.reduceEq, Int.reduceNeg, decide_true, decide_false, Bool.not_true, Bool.not_false] at hr ⊢
  have n2 : c ≠ l := ne_new (H := H1.set cB (.rows 1 [.ptr B 2 0 0])) (o := .rows 1 [.raw (.slice none 0 0)]) (by rw [set_get, if_neg n1]; exact hc1) hl0
  have hB := hb
  refine f38_c (B := B) (H0 := (H1.set cB (.rows 1 [.ptr B 2 0 0])).del c) (takes11 hr) hl ?_ ?_ ?_ fun v H' hs => ?_
  · simp [AHeap.del, Ne.symm n1, set_get]
  · obtain ⟨m, es, clock, h1, h2, h3⟩ := hb
    have q1 : B ≠ cB := ne_new h1 hcB
    have q2 : m ≠ cB := ne_new h2 hcB
    have q3 : B ≠ c := fun e => by rw [e, hc1] at h1; cases h1
    have q4 : m ≠ c := fun e => by rw [e, hc1] at h2; cases h2
    exact ⟨m, es, clock, by simp [AHeap.del, set_get, q1, q3, h1], by simp [AHeap.del, set_get, q2, q4, h2], h3⟩
  · have d1 : ((H1.set cB (.rows 1 [.ptr B 2 0 0])).del c) c = none := by simp [AHeap.del]
    have d2 : ((H1.set cB (.rows 1 [.ptr B 2 0 0])).del c) l = none := by simp [AHeap.del, hl0]
    refine ⟨d2, d1, by rw [set_get, if_pos rfl], Ne.symm n2, .nil, by simp [set_get, n2, n1, hc1], ?_⟩
    refine Acc.nil fun b o e => ?_
    have hbc : b ≠ c := fun e2 => by rw [e2, d1] at e; cases e
    have hbl : b ≠ l := fun e2 => by rw [e2, d2] at e; cases e
    rw [set_get, if_neg hbl]
    unfold AHeap.del at e
    rw [if_neg hbc] at e
    exact e
  · obtain ⟨a, h1, h2⟩ := hs.is
    refine ⟨0, hs.rec_, ?_⟩
    have hcl : c ≠ l := n2
    have hfl := h2.flat
    simp only [leftAs]
    have e1 : (H'.del l) c = some (.rows 1 [a]) := by simp [AHeap.del, hcl, h1]
    simp only [go_sem, reduceIte, Nat.reduceEqDiff, Nat.reduceAdd, Nat.reduceLT, Nat.reduceLeDiff, Nat.reduceSub, Nat.reduceMul, Nat.reducePow, Int.reduceToNat, Int.reduceLT, Int.reduceLE, Int.reduceEq, Int.reduceNeg, decide_true, decide_false, Bool.not_true, Bool.not_false, e1, hfl]
    have hle0 : H.le ((H1.set cB (.rows 1 [.ptr B 2 0 0])).del c) := fun b o e => by
      have hbc : b ≠ c := fun e2 => by rw [e2, hc] at e; cases e
      have e3 : H1 b = some o := hle b o (by rw [set_get, if_neg hbc]; exact e)
      unfold AHeap.del
      rw [if_neg hbc, set_get, if_neg (fun e4 => by rw [e4, hcB] at e3; cases e3)]
      exact e3
    have h3 := h2.rebase hle0
    have hl1 : H l = none := AHeap.le_none hle0 hs.l0
    have := h3.away (o := some l) fun b e => by
      cases e
      refine ⟨hl1, fun e2 => ?_⟩
      have := (h3.blk_none e2).2
      rw [hs.rec_] at this
      cases this
    rw [serial, List.map_map]
    exact this
end Go.Proofs.Ytaeanhonfoakeaa
end

section
namespace Go.Proofs.Ytaeanhonfoakeaa
open Go Heron
set_option linter.unusedSimpArgs false
set_option linter.unusedVariables false

theorem f11_g (h : List Ev) (hl : h.length ≤ 2 ^ 19) (hg : ∀ x ∈ h, x.gone.length ≤ 2 ^ 20) : Gives Try.prog 11 [evsA h] (evsA (serial h)) := fun H => callP_mono (f11_c h hl hg H) fun v H1 h => h.gives
theorem serial_len (h : List Ev) : (serial h).length ≤ h.length := by
  unfold serial
  rw [List.length_map]
  exact serialP_len h
theorem serial_mem {h : List Ev} {x : Ev} (hx : x ∈ serial h) : x ∈ h := by
  obtain ⟨p, hp, rfl⟩ := List.mem_map.1 hx
  have := serialP_lt h p hp
  rw [evP, List.getElem?_eq_getElem this]
  exact List.getElem_mem this

def explains (s : Stt) (h : List Ev) : Bool := decide ((replayS s (serial h) 0 (-1)).2 < 0)
theorem f8_c (s : Stt) (h : List Ev) (hb : s.blocks.length ≤ 2 ^ 20) (hc : s.counters.length ≤ 2 ^ 20) (hl : h.length ≤ 2 ^ 19) (hg : ∀ x ∈ h, x.gone.length ≤ 2 ^ 20) (hd : ∀ x ∈ h, x.data.length ≤ 2 ^ 20) : Gives Try.prog 8 [sttA s, evsA h] (.b (explains s h)) := by
  intro H
  refine callP_body mixed Try.func8 a8_ok (by simp [a8]) ?_; simp only [a8, go_sem, reduceIte, Nat.reduceEqDiff, Nat.reduceAdd, Nat.reduceLT, Nat.reduceLeDiff, Nat.reduceSub, Nat.reduceMul, Nat.reducePow, Int.reduceToNat, Int.reduceLT, Int.reduceLE, Int.reduceEq, Int.reduceNeg, decide_true, decide_false, Bool.not_true, Bool.not_false]
  simp only [go_sem, reduceIte, Nat.reduceEqDiff, Nat.reduceAdd, Nat.reduceLT, Nat.reduceLeDiff, Nat.reduceSub, Nat.reduceMul, Nat.reducePow, Int.reduceToNat, Int.reduceLT, Int.reduceLE, Int.reduceEq, Int.reduceNeg, decide_true, decide_false, Bool.not_true, Bool.not_false, sttA]
  refine allocK_i fun b1 hb1 => ?_
  try simp only [set_none] at hb1
  simp only [go_sem, reduceIte, Nat.reduceEqDiff, Nat.reduceAdd, Nat.reduceLT, Nat.reduceLeDiff, Nat.reduceSub, Nat.reduceMul, Nat.reducePow, Int.reduceToNat, Int.reduceLT, Int.reduceLE, Int.reduceEq, Int.reduceNeg, decide_true, decide_false, Bool.not_true, Bool.not_false]
  refine ⟨_, (f11_g h hl hg).q, ?_⟩
  refine ⟨_, (f10_c s (serial h) hb hc (Nat.le_trans (serial_len h) (by omega)) (fun x hx => hd x (serial_mem hx))).q, ?_⟩
  simp only [go_sem, reduceIte, Nat.reduceEqDiff, Nat.reduceAdd, Nat.reduceLT, Nat.reduceLeDiff, Nat.reduceSub, Nat.reduceMul, Nat.reducePow, Int.reduceToNat, Int.reduceLT, Int.reduceLE, Int.reduceEq, Int.reduceNeg, decide_true, decide_false, Bool.not_true, Bool.not_false, sttA]
  refine allocK_i fun b2 hb2 => ?_
  try simp only [set_none] at hb2
  simp only [go_sem, reduceIte, Nat.reduceEqDiff, Nat.reduceAdd, Nat.reduceLT, Nat.reduceLeDiff, Nat.reduceSub, Nat.reduceMul, Nat.reducePow, Int.reduceToNat, Int.reduceLT, Int.reduceLE, Int.reduceEq, Int.reduceNeg, decide_true, decide_false, Bool.not_true, Bool.not_false, sttA]
  exact GhV.le (by (repeat (first | (refine AHeap.le_set' ?_ (by first | (simp only [*]; done) | (refine AHeap.le_none (by assumption) ?_; simp only [*]))) | (refine AHeap.le_del ?_ (by first | (simp only [*]; done) | (refine AHeap.le_none (by assumption) ?_; simp only [*]))))); first | exact AHeap.le_refl _ | assumption)
theorem gh_gh {N : Regs → AHeap → Prop} {R : Regs} {H : AHeap} (h : ghP (ghP N) R H) : ghP N R H := by
  obtain ⟨R1, H1, g1, R2, H2, g2, hn⟩ := h
  exact ⟨R2, H2, g1.trans g2, hn⟩

theorem wk_ro {sz : Nat} {es es' : List AVal} (hl : es'.length = es.length) (h : ∀ (i : Nat) e e', es[i]? = some e → es'[i]? = some e' → WkL e.cells e'.cells) : Wk (.ro sz es) (.ro sz es') := fun G v hv => by
  cases hv with
  | ro _ _ a cap hlc hsz ha he hh =>
    have get : ∀ {i j : Nat} {c' : AVal}, cellAt es' i j = some c' → ∃ c, cellAt es i j = some c ∧ Wk c c' := fun {i j c'} hc => by
      obtain ⟨e', h1, h2⟩ := cellAt_inv hc
      have hi : i < es.length := by rw [← hl]; exact lt_of_get? h1
      have hw := (h i es[i] e' (by simp [hi]) h1).get
      have hj : j < es[i].cells.length := by rw [← hw.1]; exact lt_of_get? h2
      exact ⟨_, cellAt_some (List.getElem?_eq_getElem hi) (List.getElem?_eq_getElem hj), hw.2 j (es[i].cells[j]) c' (List.getElem?_eq_getElem hj) h2⟩
    rw [← hl]
    refine .ro sz es' a cap (by omega) (fun e' he' => ?_) (fun hne => ha (fun e => hne (by rw [e] at hl; exact List.length_eq_zero_iff.1 hl))) (fun b off e i j c hc => ?_) (fun b off e i j c v hc hg => ?_)
    · obtain ⟨i, hi'⟩ := List.getElem?_of_mem he'
      have hi : i < es.length := by rw [← hl]; exact lt_of_get? hi'
      rw [(h i es[i] e' (by simp [hi]) hi').get.1]
      exact hsz _ (List.getElem_mem hi)
    · obtain ⟨c0, h1, _⟩ := get hc
      exact he b off e i j c0 h1
    · obtain ⟨c0, h1, h2⟩ := get hc
      exact h2 G v (hh b off e i j c0 v h1 hg)
/-- The same, row by row. -/
inductive WkE : List AVal → List AVal → Prop
  | nil : WkE [] []
  | cons {a a' : AVal} {r r' : List AVal} (h : WkL a.cells a'.cells) (t : WkE r r') : WkE (a :: r) (a' :: r')
theorem WkE.get : ∀ {l l' : List AVal}, WkE l l' → l'.length = l.length ∧ ∀ (i : Nat) c c', l[i]? = some c → l'[i]? = some c' → WkL c.cells c'.cells
  | _, _, .nil => ⟨rfl, fun i c c' h => by simp at h⟩
  | _, _, .cons h t => by
    obtain ⟨h1, h2⟩ := t.get
    refine ⟨by simp [h1], fun i c c' e1 e2 => ?_⟩
    cases i with
    | zero => simp at e1 e2; subst e1; subst e2; exact h
    | succ i => exact h2 i c c' (by simpa using e1) (by simpa using e2)
theorem WkE.ro {sz : Nat} {es es' : List AVal} (h : WkE es es') : Wk (.ro sz es) (.ro sz es') := wk_ro h.get.1 h.get.2
/-- A register, said otherwise. -/
theorem gh_wk {N : Regs → AHeap → Prop} {t : Nat} {a a' : AVal} {pre post : List (Nat × AVal)} {H : AHeap} (hw : Wk a a') (h : N (ofL (pre ++ (t, a') :: post)) H) : ghP N (ofL (pre ++ (t, a) :: post)) H := by
  refine ⟨_, _, Gh.conv (fun u b e => ?_) (fun c o e => ⟨o, e, OWk.refl c o⟩), h⟩
  clear h
  induction pre with
  | nil =>
    simp only [List.nil_append, ofL] at e ⊢
    by_cases hu : u = t
    · simp only [hu, if_true] at e ⊢; cases e; exact ⟨a, rfl, hw⟩
    · simp only [hu, if_false] at e ⊢; exact ⟨b, e, Wk.refl b⟩
  | cons p pre ih =>
    simp only [List.cons_append, ofL] at e ⊢
    by_cases hu : u = p.1
    · simp only [hu, if_true] at e ⊢; exact ⟨b, e, Wk.refl b⟩
    · simp only [hu, if_false] at e ⊢; exact ih e

theorem gh_less {N : Regs → AHeap → Prop} {R : Regs} {H H' : AHeap} (hl : H'.le H) (h : N R H') : ghP N R H := ⟨_, _, Gh.less hl, h⟩

def awakeH : List Ev := [⟨1, 0, 0, -1, 0, [], []⟩, ⟨1, 0, 1, -1, 0, [], []⟩, ⟨6, 0, 0, 0, 4, [], []⟩, ⟨6, 0, 1, 0, 1, [], []⟩, ⟨3, 0, 1, 0, 0, [], [1]⟩, ⟨2, 0, 0, 0, 0, [], []⟩]

theorem rds_one {h : List Ev} {r : Int} (hne : h ≠ []) (hall : ∀ x ∈ h, x.round = r) : rds h = [r] := by
  have h1 := rds_lt h
  have h2 : ∀ q, q ∈ rds h → q = r := fun q hq => by
    obtain ⟨x, hx, rfl⟩ := (rds_mem h q).1 hq
    exact hall x hx
  have h3 : r ∈ rds h := by
    obtain ⟨x, hx⟩ := List.exists_mem_of_ne_nil h hne
    exact (rds_mem h r).2 ⟨x, hx, hall x hx⟩
  match e : rds h, h1, h2, h3 with
  | [], _, _, h3 => cases h3
  | [x], _, h2, _ => rw [h2 x (by simp)]
  | x :: y :: l, h1, h2, _ =>
    have e1 := h2 x (by simp)
    have e2 := h2 y (by simp)
    rw [List.pairwise_cons] at h1
    have := h1.1 y (by simp)
    omega
theorem serial_one {h : List Ev} {r : Int} (hne : h ≠ []) (hall : ∀ x ∈ h, x.round = r) : serial h = (toldP h (fates h) r (h.length + 2) (-1)).map (evP h) := by
  rw [serial, serialP, rds_one hne hall]; simp
theorem awake_serial : serial awakeH = [⟨6, 0, 0, 0, 4, [], []⟩] := by
  rw [serial_one (r := 0) (by simp [awakeH]) (by decide)]
  decide
theorem awake_fixed : fixed awakeH 0 0 = true := by decide
theorem awake_not : fixed awakeH 0 1 = false := by decide
theorem awake_replay : replayS (blankS 1 1) [⟨6, 0, 0, 0, 4, [], []⟩] 0 (-1) = (⟨[zs32], [4]⟩, -1) := by decide

set_option maxHeartbeats 1000000 in
theorem f7_c : Gives Try.prog 7 [] (.b true) := by
  intro H
  refine callP_body mixed Try.func7 a7g_ok (by simp [a7g]) ?_
  simp only [a7g]
  simp only [go_sem, reduceIte, Nat.reduceEqDiff, Nat.reduceAdd, Nat.reduceLT, Nat.reduceLeDiff, Nat.reduceSub, Nat.reduceMul, Nat.reducePow, Int.reduceToNat, Int.reduceLT, Int.reduceLE, Int.reduceEq, Int.reduceNeg, decide_true, decide_false, Bool.not_true, Bool.not_false]
  refine allocK_i fun b1 hb1 => ?_
  try simp only [set_none] at hb1
  simp only [go_sem, reduceIte, Nat.reduceEqDiff, Nat.reduceAdd, Nat.reduceLT, Nat.reduceLeDiff, Nat.reduceSub, Nat.reduceMul, Nat.reducePow, Int.reduceToNat, Int.reduceLT, Int.reduceLE, Int.reduceEq, Int.reduceNeg, decide_true, decide_false, Bool.not_true, Bool.not_false]
  refine allocK_i fun b2 hb2 => ?_
  try simp only [set_none] at hb2
  simp only [go_sem, reduceIte, Nat.reduceEqDiff, Nat.reduceAdd, Nat.reduceLT, Nat.reduceLeDiff, Nat.reduceSub, Nat.reduceMul, Nat.reducePow, Int.reduceToNat, Int.reduceLT, Int.reduceLE, Int.reduceEq, Int.reduceNeg, decide_true, decide_false, Bool.not_true, Bool.not_false]
  have n1 : b1 ≠ b2 := fun e => by subst e; simp at hb2
  refine gh_gh (gh_frzIn (b := b1) (c := b2) (sz := 1) (es := [AVal.i 1]) (by simp [set_get, n1]) (by rw [set_get, if_pos rfl]) (Ne.symm n1) ?_)
  simp [frzO, frzC, frzV]
  refine gh_gh (gh_frz (b := b2) (sz := 7) (by rw [set_get, if_pos rfl]) ?_)
  simp [frzE, frzA, frzV]
  refine gh_gh (gh_less (H' := H) (by (repeat (first | (refine AHeap.le_set' ?_ (by first | (simp only [*]; done) | (refine AHeap.le_none (by assumption) ?_; simp only [*]))) | (refine AHeap.le_del ?_ (by first | (simp only [*]; done) | (refine AHeap.le_none (by assumption) ?_; simp only [*]))))); first | exact AHeap.le_refl _ | assumption) ?_)
  refine gh_wk (pre := []) (post := []) (a' := evsA awakeH) (WkE.ro ?_) ?_
  · repeat (first | exact WkE.nil | refine WkE.cons (by repeat (first | exact WkL.nil | refine WkL.cons (by first | exact Wk.refl _ | exact wk_nil _) ?_)) ?_)
  simp only [go_sem, reduceIte, Nat.reduceEqDiff, Nat.reduceAdd, Nat.reduceLT, Nat.reduceLeDiff, Nat.reduceSub, Nat.reduceMul, Nat.reducePow, Int.reduceToNat, Int.reduceLT, Int.reduceLE, Int.reduceEq, Int.reduceNeg, decide_true, decide_false, Bool.not_true, Bool.not_false, List.nil_append]
  refine (f11_g awakeH (by decide) (by decide)).use ?_
  rw [awake_serial]
  simp only [go_sem, reduceIte, Nat.reduceEqDiff, Nat.reduceAdd, Nat.reduceLT, Nat.reduceLeDiff, Nat.reduceSub, Nat.reduceMul, Nat.reducePow, Int.reduceToNat, Int.reduceLT, Int.reduceLE, Int.reduceEq, Int.reduceNeg, decide_true, decide_false, Bool.not_true, Bool.not_false]
  refine (f9_c 1 1 (by omega) (by omega)).use ?_
  simp only [go_sem, reduceIte, Nat.reduceEqDiff, Nat.reduceAdd, Nat.reduceLT, Nat.reduceLeDiff, Nat.reduceSub, Nat.reduceMul, Nat.reducePow, Int.reduceToNat, Int.reduceLT, Int.reduceLE, Int.reduceEq, Int.reduceNeg, decide_true, decide_false, Bool.not_true, Bool.not_false]
  refine (f10_c (blankS 1 1) [⟨6, 0, 0, 0, 4, [], []⟩] (by decide) (by decide) (by decide) (by decide)).use ?_
  rw [awake_replay]
  simp only [go_sem, reduceIte, Nat.reduceEqDiff, Nat.reduceAdd, Nat.reduceLT, Nat.reduceLeDiff, Nat.reduceSub, Nat.reduceMul, Nat.reducePow, Int.reduceToNat, Int.reduceLT, Int.reduceLE, Int.reduceEq, Int.reduceNeg, decide_true, decide_false, Bool.not_true, Bool.not_false, sttA]
  refine allocK_i fun b3 hb3 => ?_
  try simp only [set_none] at hb3
  have h11 : ((1 : Nat) : Int) = 1 := rfl
  have h00 : (0 : Int) < 1 := by decide
  simp only [go_sem, reduceIte, Nat.reduceEqDiff, Nat.reduceAdd, Nat.reduceLT, Nat.reduceLeDiff, Nat.reduceSub, Nat.reduceMul, Nat.reducePow, Int.reduceToNat, Int.reduceLT, Int.reduceLE, Int.reduceEq, Int.reduceNeg, decide_true, decide_false, Bool.not_true, Bool.not_false, evsA, sttA, matA, evA, hb3, h11, h00]
  refine (f18_c awakeH (by decide) (by decide) 0 0).use ?_
  rw [awake_fixed]
  simp only [go_sem, reduceIte, Nat.reduceEqDiff, Nat.reduceAdd, Nat.reduceLT, Nat.reduceLeDiff, Nat.reduceSub, Nat.reduceMul, Nat.reducePow, Int.reduceToNat, Int.reduceLT, Int.reduceLE, Int.reduceEq, Int.reduceNeg, decide_true, decide_false, Bool.not_true, Bool.not_false]
  refine (f18_c awakeH (by decide) (by decide) 0 1).use ?_
  rw [awake_not]
  simp only [go_sem, reduceIte, Nat.reduceEqDiff, Nat.reduceAdd, Nat.reduceLT, Nat.reduceLeDiff, Nat.reduceSub, Nat.reduceMul, Nat.reducePow, Int.reduceToNat, Int.reduceLT, Int.reduceLE, Int.reduceEq, Int.reduceNeg, decide_true, decide_false, Bool.not_true, Bool.not_false]
  exact GhV.le (by (repeat (first | (refine AHeap.le_set' ?_ (by first | (simp only [*]; done) | (refine AHeap.le_none (by assumption) ?_; simp only [*]))) | (refine AHeap.le_del ?_ (by first | (simp only [*]; done) | (refine AHeap.le_none (by assumption) ?_; simp only [*]))))); first | exact AHeap.le_refl _ | assumption)
end Go.Proofs.Ytaeanhonfoakeaa
end

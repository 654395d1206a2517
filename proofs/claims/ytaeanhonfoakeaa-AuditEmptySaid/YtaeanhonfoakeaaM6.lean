/- The law AuditTells: the plain part. The law AuditTells: walk. -/
import Derived.Test.YtaeanhonfoakeaaM5
import Derived.KernelRfl
import Derived.Test.YtaeanhonfoakeaaL2
section
namespace Go.Proofs.Ytaeanhonfoakeaa
open Go Heron
set_option linter.unusedSimpArgs false
set_option linter.unusedVariables false

def goodL (b : UInt8) : List UInt8 := b :: List.replicate 31 0
def eB : Ev := ⟨1, 0, 0, -1, 0, [], []⟩
def eW (j : Nat) (b : UInt8) : Ev := ⟨5, 0, 0, j, 0, [b], []⟩
def eR (j : Nat) (d : List UInt8) : Ev := ⟨4, 0, 0, j, 0, d, []⟩
def eC : Ev := ⟨2, 0, 0, 0, 0, [], []⟩
def hT0 (j : Nat) (b : UInt8) : List Ev := [eB, eW j b, eR j (goodL b)]
def hT1 (j : Nat) (b : UInt8) : List Ev := [eB, eW j b, eR j (goodL b), eR j (goodL (b + 1))]

theorem told_T0 (j : Nat) (b : UInt8) : toldP (hT0 j b) (fates (hT0 j b)) 0 5 (-1) = [] := by kernel_rfl
theorem told_T1 (j : Nat) (b : UInt8) : toldP (hT1 j b) (fates (hT1 j b)) 0 6 (-1) = [] := by kernel_rfl
theorem told_T0c (j : Nat) (b : UInt8) : toldP (hT0 j b ++ [eC]) (fates (hT0 j b ++ [eC])) 0 6 (-1) = [1, 2] := by kernel_rfl
theorem told_T1c (j : Nat) (b : UInt8) : toldP (hT1 j b ++ [eC]) (fates (hT1 j b ++ [eC])) 0 7 (-1) = [1, 2, 3] := by kernel_rfl
theorem serial_T0 (j : Nat) (b : UInt8) : serial (hT0 j b) = [] := by
  rw [serial_one (r := 0) (by simp [hT0]) (fun x hx => by simp [hT0] at hx; rcases hx with rfl | rfl | rfl <;> rfl)]
  show (toldP (hT0 j b) (fates (hT0 j b)) 0 5 (-1)).map _ = _
  rw [told_T0]; rfl
theorem serial_T1 (j : Nat) (b : UInt8) : serial (hT1 j b) = [] := by
  rw [serial_one (r := 0) (by simp [hT1]) (fun x hx => by simp [hT1] at hx; rcases hx with rfl | rfl | rfl | rfl <;> rfl)]
  show (toldP (hT1 j b) (fates (hT1 j b)) 0 6 (-1)).map _ = _
  rw [told_T1]; rfl
theorem serial_T0c (j : Nat) (b : UInt8) : serial (hT0 j b ++ [eC]) = [eW j b, eR j (goodL b)] := by
  rw [serial_one (r := 0) (by simp [hT0]) (fun x hx => by simp [hT0] at hx; rcases hx with rfl | rfl | rfl | rfl <;> rfl)]
  show (toldP (hT0 j b ++ [eC]) (fates (hT0 j b ++ [eC])) 0 6 (-1)).map _ = _
  rw [told_T0c]; rfl
theorem serial_T1c (j : Nat) (b : UInt8) : serial (hT1 j b ++ [eC]) = [eW j b, eR j (goodL b), eR j (goodL (b + 1))] := by
  rw [serial_one (r := 0) (by simp [hT1]) (fun x hx => by simp [hT1] at hx; rcases hx with rfl | rfl | rfl | rfl | rfl <;> rfl)]
  show (toldP (hT1 j b ++ [eC]) (fates (hT1 j b ++ [eC])) 0 7 (-1)).map _ = _
  rw [told_T1c]; rfl
theorem pad_good (b : UInt8) : pad [b] = goodL b := rfl
theorem good_ne (b : UInt8) : ¬ goodL b = goodL (b + 1) := fun e => by
  have h : b = b + 1 := (List.cons.inj e).1
  have := congrArg UInt8.toNat h
  rw [UInt8.toNat_add] at this
  have hb := b.toNat_lt
  simp at this
  omega
def st4 (j : Nat) (b : UInt8) : Stt := { blankS 4 0 with blocks := (blankS 4 0).blocks.set j (goodL b) }
theorem replay_T0 (j : Nat) (hj : j < 4) (b : UInt8) : replayS (blankS 4 0) [eW j b, eR j (goodL b)] 0 (-1) = (st4 j b, -1) := by
  have : j = 0 ∨ j = 1 ∨ j = 2 ∨ j = 3 := by omega
  rcases this with rfl | rfl | rfl | rfl <;> simp [replayS, doS, eW, eR, inB, blankS, st4, pad_good, nextF, List.replicate]
theorem replay_T1 (j : Nat) (hj : j < 4) (b : UInt8) : replayS (blankS 4 0) [eW j b, eR j (goodL b), eR j (goodL (b + 1))] 0 (-1) = (st4 j b, 2) := by
  have : j = 0 ∨ j = 1 ∨ j = 2 ∨ j = 3 := by omega
  rcases this with rfl | rfl | rfl | rfl <;> simp [replayS, doS, eW, eR, inB, blankS, st4, pad_good, nextF, List.replicate, good_ne]
theorem st4_len (j : Nat) (b : UInt8) : (st4 j b).blocks.length = 4 := by simp [st4, blankS]
theorem st4_get (j : Nat) (hj : j < 4) (b : UInt8) : (st4 j b).blocks[j]? = some (goodL b) := by
  simp [st4, blankS, hj]
theorem open_T0 (j : Nat) (b : UInt8) : explains (blankS 4 0) (hT0 j b) = true := by
  rw [explains, serial_T0]; rfl
theorem open_T1 (j : Nat) (b : UInt8) : explains (blankS 4 0) (hT1 j b) = true := by
  rw [explains, serial_T1]; rfl
theorem shut_T0 (j : Nat) (hj : j < 4) (b : UInt8) : explains (blankS 4 0) (hT0 j b ++ [eC]) = true := by
  rw [explains, serial_T0c, replay_T0 j hj]; rfl
theorem shut_T1 (j : Nat) (hj : j < 4) (b : UInt8) : explains (blankS 4 0) (hT1 j b ++ [eC]) = false := by
  rw [explains, serial_T1c, replay_T1 j hj]; rfl
end Go.Proofs.Ytaeanhonfoakeaa
end

section
namespace Go.Proofs.Ytaeanhonfoakeaa
open Go Heron
set_option linter.unusedSimpArgs false
set_option linter.unusedVariables false


theorem and3 (x : Int) : ∃ j : Nat, j < 4 ∧ iand .i64 x 3 = j := by
  have h : (BitVec.ofInt 64 x &&& BitVec.ofInt 64 3).toNat ≤ 3 := by
    rw [BitVec.toNat_and]
    exact Nat.and_le_right
  show ∃ j : Nat, j < 4 ∧ IntKind.i64.wrap ((BitVec.ofInt 64 x &&& BitVec.ofInt 64 3).toNat : Int) = j
  generalize (BitVec.ofInt 64 x &&& _).toNat = q at h ⊢
  exact ⟨q, by omega, wrap_nat (by omega) (by omega)⟩
theorem and1 (x : Int) : ∃ j : Nat, j < 2 ∧ iand .i64 x 1 = j := by
  have h : (BitVec.ofInt 64 x &&& BitVec.ofInt 64 1).toNat ≤ 1 := by
    rw [BitVec.toNat_and]
    exact Nat.and_le_right
  show ∃ j : Nat, j < 2 ∧ IntKind.i64.wrap ((BitVec.ofInt 64 x &&& BitVec.ofInt 64 1).toNat : Int) = j
  generalize (BitVec.ofInt 64 x &&& _).toNat = q at h ⊢
  exact ⟨q, by omega, wrap_nat (by omega) (by omega)⟩

theorem AHeap.le_same {H H' : AHeap} {b : Nat} {o : AObj} (h : H.le H') : (H.set b o).le (H'.set b o) := fun d o' e => by
  rw [set_get] at e ⊢
  split
  · rename_i hd; rw [if_pos hd] at e; exact e
  · rename_i hd; rw [if_neg hd] at e; exact h d o' e
abbrev xB : AVal := .agg [.raw (.int .i64 1), .raw (.int .i64 0), .raw (.int .i64 0), .raw (.int .i64 (-1)), .raw (.int .i64 0), .raw (.slice none 0 0), .raw (.slice none 0 0)]
abbrev xW (j : Nat) (b : UInt8) : AVal := .agg [.raw (.int .i64 5), .raw (.int .i64 0), .raw (.int .i64 0), .raw (.int .i64 j), .raw (.int .i64 0), .ro 1 [ub b], .raw (.slice none 0 0)]
abbrev xR (j : Nat) (b : UInt8) : AVal := .agg [.raw (.int .i64 4), .raw (.int .i64 0), .raw (.int .i64 0), .raw (.int .i64 j), .raw (.int .i64 0), .ro 1 ((goodL b).map ub), .raw (.slice none 0 0)]
theorem WkE.app {l l' m m' : List AVal} (h : WkE l l') (k : WkE m m') : WkE (l ++ m) (l' ++ m') := by
  induction h with
  | nil => exact k
  | cons h1 _ ih => exact .cons h1 ih

set_option maxHeartbeats 1000000 in
theorem f3_T {H0 H : AHeap} {R : Regs} {a : AVal} {xs : List AVal} {h : List Ev} {n i : Int} {j q : Nat} {b : UInt8} {l : List Ev} {K : AVal → AHeap → Prop}
    (r2 : R 2 = some (.i n)) (r7 : R 7 = some (.b true)) (r8 : R 8 = some (.i j)) (r9 : R 9 = some (.ro 1 ((goodL b).map ub))) (r11 : R 11 = some a) (hacc : Acc H0 7 xs a H) (hw : WkE xs (h.map evA)) (hl : h.length ≤ 4) (hg : ∀ x ∈ h, x.gone = []) (hd : ∀ x ∈ h, x.data.length ≤ 32)
    (hj : j < 4) (eq : iand .i64 n 1 = (q : Int)) (e1 : explains (blankS 4 0) h = true) (e2 : serial (h ++ [eC]) = l) (e3 : replayS (blankS 4 0) l 0 (-1) = (st4 j b, i)) (e4 : explains (blankS 4 0) (h ++ [eC]) = decide ((q : Int) = 0)) (e5 : decide (i = -1) = decide ((q : Int) = 0)) (hl2 : l.length ≤ 2 ^ 20) (hd2 : ∀ x ∈ l, x.data.length ≤ 2 ^ 20)
    (hk : ∀ H', H0.le H' → K (.b true) H') : symb Try.prog a3g_T R H (endK [.tmp 6] K) := by
  unfold a3g_T
  simp only [go_sem, reduceIte, Nat.reduceEqDiff, Nat.reduceAdd, Nat.reduceLT, Nat.reduceLeDiff, Nat.reduceSub, Nat.reduceMul, Nat.reducePow, Int.reduceToNat, Int.reduceLT, Int.reduceLE, Int.reduceEq, Int.reduceNeg, decide_true, decide_false, Bool.not_true, Bool.not_false, r2, r7, r8, r9, r11]
  refine (f9_c 4 0 (by omega) (by omega)).use ?_
  simp only [go_sem, reduceIte, Nat.reduceEqDiff, Nat.reduceAdd, Nat.reduceLT, Nat.reduceLeDiff, Nat.reduceSub, Nat.reduceMul, Nat.reducePow, Int.reduceToNat, Int.reduceLT, Int.reduceLE, Int.reduceEq, Int.reduceNeg, decide_true, decide_false, Bool.not_true, Bool.not_false, r11]
  have hd1 : ∀ x ∈ h, x.data.length ≤ 2 ^ 20 := fun x hx => Nat.le_trans (hd x hx) (by omega)
  have hg1 : ∀ x ∈ h, x.gone.length ≤ 2 ^ 20 := fun x hx => by rw [hg x hx]; simp
  refine (f8_c (blankS 4 0) h (by simp [blankS]) (by simp [blankS]) (by omega) hg1 hd1).lend (bare_raw _) ((hacc.handed [sttA (blankS 4 0)] []).trans (GhA.wk (WkL.cons (Wk.refl _) (WkL.cons hw.ro WkL.nil)))) ?_
  rw [e1]
  simp only [go_sem, reduceIte, Nat.reduceEqDiff, Nat.reduceAdd, Nat.reduceLT, Nat.reduceLeDiff, Nat.reduceSub, Nat.reduceMul, Nat.reducePow, Int.reduceToNat, Int.reduceLT, Int.reduceLE, Int.reduceEq, Int.reduceNeg, decide_true, decide_false, Bool.not_true, Bool.not_false, r2, r7, r8, r9, r11]
  refine allocK_i fun bc hbc => ?_
  try simp only [set_none] at hbc
  simp only [go_sem, reduceIte, Nat.reduceEqDiff, Nat.reduceAdd, Nat.reduceLT, Nat.reduceLeDiff, Nat.reduceSub, Nat.reduceMul, Nat.reducePow, Int.reduceToNat, Int.reduceLT, Int.reduceLE, Int.reduceEq, Int.reduceNeg, decide_true, decide_false, Bool.not_true, Bool.not_false, set_get]
  refine Acc.app (hacc.set hbc) (by simp; have := hw.get.1; simp at this; omega) (fun e he => by simp at he; subst he; rfl) fun a' H' h' => ?_
  simp only [go_sem, reduceIte, Nat.reduceEqDiff, Nat.reduceAdd, Nat.reduceLT, Nat.reduceLeDiff, Nat.reduceSub, Nat.reduceMul, Nat.reducePow, Int.reduceToNat, Int.reduceLT, Int.reduceLE, Int.reduceEq, Int.reduceNeg, decide_true, decide_false, Bool.not_true, Bool.not_false]
  obtain ⟨b', cap, rfl, hb0, hb'⟩ := h'.sl_of (by simp)
  refine gh_gh (gh_frz (b := b') (sz := 7) hb' ?_)
  simp only [List.map_cons, List.map_nil, frzE, frzA, frzV, and_self, if_true, Nat.zero_add, Nat.le_refl, List.drop_zero, List.take_length]
  refine gh_gh (gh_less (H' := H0) (AHeap.le_del h'.le hb0) ?_)
  have hw2 : WkE (xs ++ [AVal.agg [AVal.raw (Value.int IntKind.i64 2), AVal.raw (Value.int IntKind.i64 0), AVal.raw (Value.int IntKind.i64 0), AVal.raw (Value.int IntKind.i64 0), AVal.raw (Value.int IntKind.i64 0), AVal.raw (Value.slice none 0 0), AVal.raw (Value.slice none 0 0)]]) ((h ++ [eC]).map evA) := by
    rw [List.map_append]
    exact hw.app (WkE.cons (by repeat (first | exact WkL.nil | refine WkL.cons (by first | exact Wk.refl _ | exact wk_nil _) ?_)) WkE.nil)
  refine gh_wk (pre := [(2, .i n), (7, .b true), (8, .i j), (9, .ro 1 ((goodL b).map ub))]) (post := [(12, .b true)]) (a' := evsA (h ++ [eC])) hw2.ro ?_
  simp only [List.cons_append, List.nil_append]
  have hl3 : (h ++ [eC]).length ≤ 2 ^ 19 := by simp; omega
  have hg3 : ∀ x ∈ h ++ [eC], x.gone.length ≤ 2 ^ 20 := fun x hx => by
    rw [List.mem_append, List.mem_singleton] at hx
    rcases hx with hx | rfl
    · exact hg1 x hx
    · simp [eC]
  have hd3 : ∀ x ∈ h ++ [eC], x.data.length ≤ 2 ^ 20 := fun x hx => by
    rw [List.mem_append, List.mem_singleton] at hx
    rcases hx with hx | rfl
    · exact hd1 x hx
    · simp [eC]
  simp only [go_sem, reduceIte, Nat.reduceEqDiff, Nat.reduceAdd, Nat.reduceLT, Nat.reduceLeDiff, Nat.reduceSub, Nat.reduceMul, Nat.reducePow, Int.reduceToNat, Int.reduceLT, Int.reduceLE, Int.reduceEq, Int.reduceNeg, decide_true, decide_false, Bool.not_true, Bool.not_false]
  refine (f9_c 4 0 (by omega) (by omega)).use ?_
  simp only [go_sem, reduceIte, Nat.reduceEqDiff, Nat.reduceAdd, Nat.reduceLT, Nat.reduceLeDiff, Nat.reduceSub, Nat.reduceMul, Nat.reducePow, Int.reduceToNat, Int.reduceLT, Int.reduceLE, Int.reduceEq, Int.reduceNeg, decide_true, decide_false, Bool.not_true, Bool.not_false]
  refine (f11_g (h ++ [eC]) hl3 hg3).use ?_
  simp only [go_sem, reduceIte, Nat.reduceEqDiff, Nat.reduceAdd, Nat.reduceLT, Nat.reduceLeDiff, Nat.reduceSub, Nat.reduceMul, Nat.reducePow, Int.reduceToNat, Int.reduceLT, Int.reduceLE, Int.reduceEq, Int.reduceNeg, decide_true, decide_false, Bool.not_true, Bool.not_false]
  rw [e2]
  refine (f10_c (blankS 4 0) l (by simp [blankS]) (by simp [blankS]) hl2 hd2).use ?_
  rw [e3]
  simp only [go_sem, reduceIte, Nat.reduceEqDiff, Nat.reduceAdd, Nat.reduceLT, Nat.reduceLeDiff, Nat.reduceSub, Nat.reduceMul, Nat.reducePow, Int.reduceToNat, Int.reduceLT, Int.reduceLE, Int.reduceEq, Int.reduceNeg, decide_true, decide_false, Bool.not_true, Bool.not_false, sttA]
  refine allocK_i fun b13 hb13 => ?_
  try simp only [set_none] at hb13
  simp only [go_sem, reduceIte, Nat.reduceEqDiff, Nat.reduceAdd, Nat.reduceLT, Nat.reduceLeDiff, Nat.reduceSub, Nat.reduceMul, Nat.reducePow, Int.reduceToNat, Int.reduceLT, Int.reduceLE, Int.reduceEq, Int.reduceNeg, decide_true, decide_false, Bool.not_true, Bool.not_false, sttA]
  refine ⟨_, (f9_c 4 0 (by omega) (by omega)).q, ?_⟩
  try simp only [go_sem, reduceIte, Nat.reduceEqDiff, Nat.reduceAdd, Nat.reduceLT, Nat.reduceLeDiff, Nat.reduceSub, Nat.reduceMul, Nat.reducePow, Int.reduceToNat, Int.reduceLT, Int.reduceLE, Int.reduceEq, Int.reduceNeg, decide_true, decide_false, Bool.not_true, Bool.not_false]
  refine ⟨_, (f8_c (blankS 4 0) (h ++ [eC]) (by simp [blankS]) (by simp [blankS]) (by omega) hg3 hd3).q, ?_⟩
  rw [e4]
  have h44 : ((4 : Nat) : Int) = 4 := rfl
  have hget := st4_get j hj b
  have hlen := st4_len j b
  simp only [go_sem, reduceIte, Nat.reduceEqDiff, Nat.reduceAdd, Nat.reduceLT, Nat.reduceLeDiff, Nat.reduceSub, Nat.reduceMul, Nat.reducePow, Int.reduceToNat, Int.reduceLT, Int.reduceLE, Int.reduceEq, Int.reduceNeg, decide_true, decide_false, Bool.not_true, Bool.not_false, eq, e5, beq_self_eq_true, set_get, matA, hlen, h44, hget, hj, bytesA]
  exact hk _ (by (repeat (first | (refine AHeap.le_set' ?_ (by first | (simp only [*]; done) | (refine AHeap.le_none (by assumption) ?_; simp only [*]))) | (refine AHeap.le_del ?_ (by first | (simp only [*]; done) | (refine AHeap.le_none (by assumption) ?_; simp only [*]))))); first | exact AHeap.le_refl _ | assumption)

set_option maxHeartbeats 1000000 in
theorem f3_c (block n : Int) (b : UInt8) : Gives Try.prog 3 [.i block, ub b, .i n] (.b true) := by
  intro H
  refine callP_body mixed Try.func3 a3g_ok (by simp [a3g]) ?_
  rw [a3g_cut]
  simp only [a3g]
  simp only [go_sem, reduceIte, Nat.reduceEqDiff, Nat.reduceAdd, Nat.reduceLT, Nat.reduceLeDiff, Nat.reduceSub, Nat.reduceMul, Nat.reducePow, Int.reduceToNat, Int.reduceLT, Int.reduceLE, Int.reduceEq, Int.reduceNeg, decide_true, decide_false, Bool.not_true, Bool.not_false]
  refine f7_c.use ?_
  simp only [go_sem, reduceIte, Nat.reduceEqDiff, Nat.reduceAdd, Nat.reduceLT, Nat.reduceLeDiff, Nat.reduceSub, Nat.reduceMul, Nat.reducePow, Int.reduceToNat, Int.reduceLT, Int.reduceLE, Int.reduceEq, Int.reduceNeg, decide_true, decide_false, Bool.not_true, Bool.not_false]
  obtain ⟨j, hj, ej⟩ := and3 block
  rw [ej]
  have h32 : (0 : Int) < ((32 : Nat) : Int) := by decide
  have hz : (List.replicate 32 (AVal.raw (Value.int IntKind.u8 0)))[0]? = some (AVal.raw (Value.int IntKind.u8 0)) := rfl
  have hgood : (List.replicate 32 (AVal.raw (Value.int IntKind.u8 0))).set 0 (ub b) = (goodL b).map ub := rfl
  have hw : IntKind.u8.wrap ((b.toNat : Int) + 1) = ((b + 1).toNat : Int) := by
    have hb := b.toNat_lt
    simp [IntKind.wrap, IntKind.signed, IntKind.bits, UInt8.toNat_add]
  have hbad : (List.replicate 32 (AVal.raw (Value.int IntKind.u8 0))).set 0 (AVal.raw (Value.int IntKind.u8 ((b + 1).toNat : Int))) = (goodL (b + 1)).map ub := rfl
  have hgl : ∀ x, (goodL x).length = 32 := fun x => rfl
  have htk : ∀ x, ((goodL x).map ub).take 32 = (goodL x).map ub := fun x => rfl
  refine allocK_i fun bg hbg => ?_
  try simp only [set_none] at hbg
  simp only [go_sem, reduceIte, Nat.reduceEqDiff, Nat.reduceAdd, Nat.reduceLT, Nat.reduceLeDiff, Nat.reduceSub, Nat.reduceMul, Nat.reducePow, Int.reduceToNat, Int.reduceLT, Int.reduceLE, Int.reduceEq, Int.reduceNeg, decide_true, decide_false, Bool.not_true, Bool.not_false, h32, hz, hgood]
  refine gh_gh (gh_frz (b := bg) (sz := 1) (by rw [set_get, if_pos rfl]) ?_)
  simp only [List.map_cons, List.map_nil, frzE, frzA, frzV, ub, and_self, if_true, Nat.zero_add, List.length_map, List.drop_zero]
  refine gh_less (H' := H) (by (repeat (first | (refine AHeap.le_set' ?_ (by first | (simp only [*]; done) | (refine AHeap.le_none (by assumption) ?_; simp only [*]))) | (refine AHeap.le_del ?_ (by first | (simp only [*]; done) | (refine AHeap.le_none (by assumption) ?_; simp only [*]))))); first | exact AHeap.le_refl _ | assumption) ?_
  simp only [go_sem, reduceIte, Nat.reduceEqDiff, Nat.reduceAdd, Nat.reduceLT, Nat.reduceLeDiff, Nat.reduceSub, Nat.reduceMul, Nat.reducePow, Int.reduceToNat, Int.reduceLT, Int.reduceLE, Int.reduceEq, Int.reduceNeg, decide_true, decide_false, Bool.not_true, Bool.not_false, hgl, htk]
  refine allocK_i fun bb hbb => ?_
  try simp only [set_none] at hbb
  simp only [go_sem, reduceIte, Nat.reduceEqDiff, Nat.reduceAdd, Nat.reduceLT, Nat.reduceLeDiff, Nat.reduceSub, Nat.reduceMul, Nat.reducePow, Int.reduceToNat, Int.reduceLT, Int.reduceLE, Int.reduceEq, Int.reduceNeg, decide_true, decide_false, Bool.not_true, Bool.not_false, h32, hz, hw, hbad]
  refine gh_gh (gh_frz (b := bb) (sz := 1) (by rw [set_get, if_pos rfl]) ?_)
  simp only [List.map_cons, List.map_nil, frzE, frzA, frzV, ub, and_self, if_true, Nat.zero_add, List.length_map, List.drop_zero]
  refine gh_less (H' := H) (by (repeat (first | (refine AHeap.le_set' ?_ (by first | (simp only [*]; done) | (refine AHeap.le_none (by assumption) ?_; simp only [*]))) | (refine AHeap.le_del ?_ (by first | (simp only [*]; done) | (refine AHeap.le_none (by assumption) ?_; simp only [*]))))); first | exact AHeap.le_refl _ | assumption) ?_
  simp only [go_sem, reduceIte, Nat.reduceEqDiff, Nat.reduceAdd, Nat.reduceLT, Nat.reduceLeDiff, Nat.reduceSub, Nat.reduceMul, Nat.reducePow, Int.reduceToNat, Int.reduceLT, Int.reduceLE, Int.reduceEq, Int.reduceNeg, decide_true, decide_false, Bool.not_true, Bool.not_false, hgl, htk]
  refine allocK_i fun bd hbd => ?_
  try simp only [set_none] at hbd
  simp only [go_sem, reduceIte, Nat.reduceEqDiff, Nat.reduceAdd, Nat.reduceLT, Nat.reduceLeDiff, Nat.reduceSub, Nat.reduceMul, Nat.reducePow, Int.reduceToNat, Int.reduceLT, Int.reduceLE, Int.reduceEq, Int.reduceNeg, decide_true, decide_false, Bool.not_true, Bool.not_false]
  refine allocK_i fun bh hbh => ?_
  try simp only [set_none] at hbh
  have n1 : bd ≠ bh := fun e => by subst e; simp at hbh
  simp only [go_sem, reduceIte, Nat.reduceEqDiff, Nat.reduceAdd, Nat.reduceLT, Nat.reduceLeDiff, Nat.reduceSub, Nat.reduceMul, Nat.reducePow, Int.reduceToNat, Int.reduceLT, Int.reduceLE, Int.reduceEq, Int.reduceNeg, decide_true, decide_false, Bool.not_true, Bool.not_false]
  refine gh_gh (gh_frzIn (b := bd) (c := bh) (sz := 1) (es := [ub b]) (by simp [set_get, n1, ub]) (by rw [set_get, if_pos rfl]) (Ne.symm n1) ?_)
  simp only [List.map_cons, List.map_nil, frzO, frzC, frzV, frzA, and_self, if_true, Nat.zero_add, List.length_cons, List.length_nil, Nat.le_refl, List.drop_zero, List.take_succ_cons, List.take_zero, Nat.reduceAdd, List.take]
  obtain ⟨q, hq, eq⟩ := and1 n
  have hbh0 : H bh = none := by simp only [hbh]
  refine gh_less (H' := H.set bh (.rows 7 [xB, xW j b, xR j b])) (AHeap.le_same (by (repeat (first | (refine AHeap.le_set' ?_ (by first | (simp only [*]; done) | (refine AHeap.le_none (by assumption) ?_; simp only [*]))) | (refine AHeap.le_del ?_ (by first | (simp only [*]; done) | (refine AHeap.le_none (by assumption) ?_; simp only [*]))))); first | exact AHeap.le_refl _ | assumption)) ?_
  have hacc : Acc H 7 [xB, xW j b, xR j b] (.sl bh 7 0 3 3) (H.set bh (.rows 7 [xB, xW j b, xR j b])) := ⟨AHeap.le_setN H.le_refl hbh0, .inr ⟨bh, 3, hbh0, rfl, by rw [set_get, if_pos rfl]⟩⟩
  have hw0 : WkE [xB, xW j b, xR j b] ((hT0 j b).map evA) := by
    repeat (first | exact WkE.nil | refine WkE.cons (by repeat (first | exact WkL.nil | refine WkL.cons (by first | exact Wk.refl _ | exact wk_nil _) ?_)) ?_)
  have hw1 : WkE ([xB, xW j b, xR j b] ++ [xR j (b + 1)]) ((hT1 j b).map evA) := by
    repeat (first | exact WkE.nil | refine WkE.cons (by repeat (first | exact WkL.nil | refine WkL.cons (by first | exact Wk.refl _ | exact wk_nil _) ?_)) ?_)
  clear hbd hbh n1
  generalize H.set bh (.rows 7 [xB, xW j b, xR j b]) = Hx at hacc ⊢
  simp only [go_sem, reduceIte, Nat.reduceEqDiff, Nat.reduceAdd, Nat.reduceLT, Nat.reduceLeDiff, Nat.reduceSub, Nat.reduceMul, Nat.reducePow, Int.reduceToNat, Int.reduceLT, Int.reduceLE, Int.reduceEq, Int.reduceNeg, decide_true, decide_false, Bool.not_true, Bool.not_false, eq]
  have hq2 : q = 0 ∨ q = 1 := by omega
  rcases hq2 with rfl | rfl
  · simp only [go_sem, reduceIte, Nat.reduceEqDiff, Nat.reduceAdd, Nat.reduceLT, Nat.reduceLeDiff, Nat.reduceSub, Nat.reduceMul, Nat.reducePow, Int.reduceToNat, Int.reduceLT, Int.reduceLE, Int.reduceEq, Int.reduceNeg, decide_true, decide_false, Bool.not_true, Bool.not_false, show ((0 : Nat) : Int) = 0 from rfl, show ((0 : Int) = 1) = False by simp]
    refine f3_T (h := hT0 j b) (i := -1) (q := 0) (b := b) rfl rfl rfl rfl rfl hacc hw0 (by simp [hT0]) ?_ ?_ hj eq (open_T0 j b) (serial_T0c j b) (replay_T0 j hj b) (shut_T0 j hj b) (by decide) (by simp) ?_ fun H' hle => GhV.le hle
    all_goals (intro x hx; simp [hT0] at hx; rcases hx with rfl | rfl | rfl <;> simp [eB, eW, eR, goodL])
  · simp only [go_sem, reduceIte, Nat.reduceEqDiff, Nat.reduceAdd, Nat.reduceLT, Nat.reduceLeDiff, Nat.reduceSub, Nat.reduceMul, Nat.reducePow, Int.reduceToNat, Int.reduceLT, Int.reduceLE, Int.reduceEq, Int.reduceNeg, decide_true, decide_false, Bool.not_true, Bool.not_false, show ((1 : Nat) : Int) = 1 from rfl]
    refine allocK_i fun be hbe => ?_
    try simp only [set_none] at hbe
    simp only [go_sem, reduceIte, Nat.reduceEqDiff, Nat.reduceAdd, Nat.reduceLT, Nat.reduceLeDiff, Nat.reduceSub, Nat.reduceMul, Nat.reducePow, Int.reduceToNat, Int.reduceLT, Int.reduceLE, Int.reduceEq, Int.reduceNeg, decide_true, decide_false, Bool.not_true, Bool.not_false, set_get]
    refine Acc.app (hacc.set hbe) (by simp) (fun e he => by simp at he; subst he; rfl) fun a' H' h' => ?_
    simp only [go_sem, reduceIte, Nat.reduceEqDiff, Nat.reduceAdd, Nat.reduceLT, Nat.reduceLeDiff, Nat.reduceSub, Nat.reduceMul, Nat.reducePow, Int.reduceToNat, Int.reduceLT, Int.reduceLE, Int.reduceEq, Int.reduceNeg, decide_true, decide_false, Bool.not_true, Bool.not_false]
    refine f3_T (h := hT1 j b) (i := 2) (q := 1) (b := b) rfl rfl rfl rfl rfl h' hw1 (by simp [hT1]) ?_ ?_ hj eq (open_T1 j b) (serial_T1c j b) (replay_T1 j hj b) (shut_T1 j hj b) (by decide) (by simp) ?_ fun H' hle => GhV.le hle
    all_goals (intro x hx; simp [hT1] at hx; rcases hx with rfl | rfl | rfl | rfl <;> simp [eB, eW, eR, goodL])
end Go.Proofs.Ytaeanhonfoakeaa
end

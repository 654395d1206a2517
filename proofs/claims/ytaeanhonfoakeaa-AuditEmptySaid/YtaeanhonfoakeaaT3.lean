/- AuditEmpty is proved whole: for every input the law returns true, and the input reads as it did. No condition. -/
import Derived.Test.YtaeanhonfoakeaaRows
import Derived.Test.YtaeanhonfoakeaaK9
import Derived.Test.YtaeanhonfoakeaaM0
import Derived.Test.YtaeanhonfoakeaaM5
import Derived.Test.YtaeanhonfoakeaaM6
section
namespace Go.Proofs.Ytaeanhonfoakeaa
open Go Heron
theorem laidOut : laidOutB Try.prog = true := by kernel_rfl
theorem bulk_pos {H : Type} (d : DataW H) : 1 ≤ Rows.uptoBulk d := by
  unfold Rows.uptoBulk
  split <;> omega
noncomputable def bulkFn : BulkFn := { f := fun d => Rows.uptoBulk d, fs := fun l => Rows.uptoBulkAll l, str := fun bs => by simp [Rows.uptoBulk], slice := fun es sp => by simp [Rows.uptoBulk], agg := fun ps => by simp [Rows.uptoBulk], nil := by simp [Rows.uptoBulkAll], pos := fun d => bulk_pos d, cons := fun d r => by simp [Rows.uptoBulkAll] }
end Go.Proofs.Ytaeanhonfoakeaa
end

section
namespace Go.Proofs.Ytaeanhonfoakeaa
open Go Heron
set_option linter.unusedSimpArgs false
set_option linter.unusedVariables false
def flds (P : Program) (t : TypeId) : Array Field := match P.underlying t with
  | some (.struct fs) => fs
  | _ => #[]
theorem flds63 : Go.Proofs.Try.prog.underlying 63 = some (.struct (flds Go.Proofs.Try.prog 63)) := by kernel_rfl
theorem flds38 : Go.Proofs.Try.prog.underlying 38 = some (.struct (flds Go.Proofs.Try.prog 38)) := by kernel_rfl
/-- Places and types of fields. -/
def lays (l : List Field) : List (Nat × TypeId) := l.map fun f => (f.offset, f.type)
theorem lays63 : lays (flds Go.Proofs.Try.prog 63).toList = [(0, 3), (1, 3), (2, 3), (3, 3), (4, 3), (5, 23), (6, 24)] := by kernel_rfl
theorem lays38 : lays (flds Go.Proofs.Try.prog 38).toList = [(0, 29), (1, 24)] := by kernel_rfl
theorem opensF_at {B : BulkFn} {P : Program} {l : List Field} {r : List (Nat × TypeId)} {off k n : Nat} {t : TypeId} (hl : lays l = (off, t) :: r) (hk : P.cellsOf t = k) {α β : Type} {e1 : α → AVal} {ok1 : α → Prop} {bulk1 : α → Nat} (h1 : Opens B P t e1 ok1 bulk1)
    {e2 : β → List AVal} {ok2 : β → Prop} {bulk2 : β → Nat} (h2 : ∀ l', lays l' = r → OpensF B P l' (off + k) n e2 ok2 bulk2) :
    OpensF B P l off (k + n) (α := α × β) (fun x => (e1 x.1).cells ++ e2 x.2) (fun x => ok1 x.1 ∧ ok2 x.2) (fun x => bulk1 x.1 + bulk2 x.2) := by
  cases l with
  | nil => cases hl
  | cons f l' =>
    simp only [lays, List.map_cons, List.cons.injEq, Prod.mk.injEq] at hl
    obtain ⟨⟨rfl, rfl⟩, h3⟩ := hl
    exact opensF_cons rfl hk h1 (h2 l' h3)
theorem opensF_end {B : BulkFn} {P : Program} {off : Nat} {l : List Field} (hl : lays l = []) : OpensF B P l off 0 (α := Unit) (fun _ => []) (fun _ => True) (fun _ => 0) := by
  cases l with
  | nil => exact opensF_nil
  | cons f l => cases hl
theorem opens_map' {B : BulkFn} {P : Program} {t : TypeId} {α β : Type} {e : α → AVal} {ok : α → Prop} {bulk : α → Nat} (h : Opens B P t e ok bulk) (f : α → β) {e' : β → AVal} {bulk' : β → Nat}
    (he : ∀ x, ok x → e' (f x) = e x) (hlen : ∀ y, (e' y).cells.length = P.cellsOf t) : Opens B P t e' (fun _ => True) (fun _ => 0) :=
  ⟨hlen, fun ht => let ⟨x, a, b, c⟩ := h.opn ht; ⟨f x, by rw [he x b]; exact a, trivial, Nat.zero_le _⟩⟩

theorem open_int : Opens bulkFn Go.Proofs.Try.prog 3 (fun n : Int => .i n) (fun _ => True) (fun _ => 0) :=
  opens_map' (bulk' := fun _ => 0) (opens_int (k := .i64) (by kernel_rfl) (by kernel_rfl)) id (fun _ _ => rfl) (fun y => by show 1 = _; kernel_rfl)
theorem open_byte : Opens bulkFn Go.Proofs.Try.prog 5 ub (fun _ => True) (fun _ => 0) :=
  opens_map' (bulk' := fun _ => 0) (opens_int (k := .u8) (by kernel_rfl) (by kernel_rfl)) (fun n => UInt8.ofNat n.toNat) (fun n ⟨h1, h2⟩ => by
    have a1 : (0 : Int) ≤ n := h1
    have a2 : n ≤ 255 := h2
    have : (UInt8.ofNat n.toNat).toNat = n.toNat := by show n.toNat % 256 = n.toNat; omega
    show AVal.raw (.int .u8 _) = _
    rw [this]
    congr
    omega) (fun y => by show 1 = _; kernel_rfl)
theorem open_bytes : Opens bulkFn Go.Proofs.Try.prog 23 bytesA (fun _ => True) (fun _ => 0) :=
  opens_map' (bulk' := fun _ => 0) (opens_slice (te := 5) (by kernel_rfl) (by kernel_rfl) (of_decide_eq_true (by kernel_rfl)) open_byte) id (fun x _ => by
    have : Go.Proofs.Try.prog.cellsOf 5 = 1 := by kernel_rfl
    rw [this]; rfl) (fun y => by show 1 = _; kernel_rfl)
theorem open_ints : Opens bulkFn Go.Proofs.Try.prog 24 intsA (fun _ => True) (fun _ => 0) :=
  opens_map' (bulk' := fun _ => 0) (opens_slice (te := 3) (by kernel_rfl) (by kernel_rfl) (of_decide_eq_true (by kernel_rfl)) open_int) id (fun x _ => by
    have : Go.Proofs.Try.prog.cellsOf 3 = 1 := by kernel_rfl
    rw [this]; rfl) (fun y => by show 1 = _; kernel_rfl)
theorem open_mat : Opens bulkFn Go.Proofs.Try.prog 29 matA (fun _ => True) (fun _ => 0) :=
  opens_map' (bulk' := fun _ => 0) (opens_slice (te := 23) (by kernel_rfl) (by kernel_rfl) (of_decide_eq_true (by kernel_rfl)) open_bytes) id (fun x _ => by
    have : Go.Proofs.Try.prog.cellsOf 23 = 1 := by kernel_rfl
    rw [this]; rfl) (fun y => by show 1 = _; kernel_rfl)
theorem open_ev : Opens bulkFn Go.Proofs.Try.prog 63 evA (fun _ => True) (fun _ => 0) :=
  opens_map' (bulk' := fun _ => 0) (opens_struct flds63 (n := 1 + (1 + (1 + (1 + (1 + (1 + (1 + 0))))))) (by kernel_rfl) (opensF_at (k := 1) lays63 (by kernel_rfl) open_int fun l h => opensF_at (k := 1) h (by kernel_rfl) open_int fun l h => opensF_at (k := 1) h (by kernel_rfl) open_int fun l h =>
    opensF_at (k := 1) h (by kernel_rfl) open_int fun l h => opensF_at (k := 1) h (by kernel_rfl) open_int fun l h => opensF_at (k := 1) h (by kernel_rfl) open_bytes fun l h => opensF_at (k := 1) h (by kernel_rfl) open_ints fun l h => opensF_end h))
    (fun (x : Int × Int × Int × Int × Int × List UInt8 × List Int × Unit) => (⟨x.1, x.2.1, x.2.2.1, x.2.2.2.1, x.2.2.2.2.1, x.2.2.2.2.2.1, x.2.2.2.2.2.2.1⟩ : Ev)) (fun x _ => rfl) (fun y => by show 7 = _; kernel_rfl)
theorem open_evs : Opens bulkFn Go.Proofs.Try.prog 37 evsA (fun _ => True) (fun _ => 0) :=
  opens_map' (bulk' := fun _ => 0) (opens_slice (te := 63) (by kernel_rfl) (by kernel_rfl) (of_decide_eq_true (by kernel_rfl)) open_ev) id (fun x _ => by
    have : Go.Proofs.Try.prog.cellsOf 63 = 7 := by kernel_rfl
    rw [this]; rfl) (fun y => by show 1 = _; kernel_rfl)
theorem opensV_weak {B : BulkFn} {P : Program} {t : TypeId} {α : Type} {e : α → AVal} {ok : α → Prop} {bulk : α → Nat} (h : OpensV B P t e ok bulk) : OpensV B P t e (fun _ => True) (fun _ => 0) :=
  ⟨fun a b => let ⟨x, q1, q2, q3⟩ := h.opn a b; ⟨x, q1, trivial, Nat.zero_le _⟩⟩
theorem openV_st : OpensV bulkFn Go.Proofs.Try.prog 38 (fun x : List (List UInt8) × List Int × Unit => .agg ((matA x.1).cells ++ ((intsA x.2.1).cells ++ []))) (fun _ => True) (fun _ => 0) :=
  opensV_weak (opensV_struct flds38 (opens_struct (B := bulkFn) flds38 (n := 1 + (1 + 0)) (by kernel_rfl) (opensF_at (k := 1) lays38 (by kernel_rfl) open_mat fun l h => opensF_at (k := 1) h (by kernel_rfl) open_ints fun l h => opensF_end h)))
end Go.Proofs.Ytaeanhonfoakeaa
end

section
namespace Go.Proofs.Ytaeanhonfoakeaa
open Go Heron
set_option linter.unusedSimpArgs false
set_option linter.unusedVariables false

def firstBad (s : Stt) : List Ev → Option Nat
  | [] => none
  | x :: r => if (doS s x).2 then (firstBad (doS s x).1 r).map (· + 1) else some 0
theorem replay_st (l : List Ev) : ∀ (s : Stt) (i j : Nat) (f g : Int), (replayS s l i f).1 = (replayS s l j g).1 := by
  induction l with
  | nil => intros; rfl
  | cons x r ih => intro s i j f g; exact ih _ _ _ _ _
theorem replay_bad (l : List Ev) : ∀ (s : Stt) (i : Nat) (f : Int), (replayS s l i f).2 = if f < 0 then (match firstBad s l with | none => f | some q => ((i + q : Nat) : Int)) else f := by
  induction l with
  | nil => intro s i f; simp [replayS, firstBad]
  | cons x r ih =>
    intro s i f
    rw [replayS, ih, firstBad]
    by_cases hb : (doS s x).2 = true
    · simp only [hb, nextF, Bool.not_true, Bool.false_and, cond_false, if_true]
      by_cases hf : f < 0
      · simp only [hf, if_true]
        cases firstBad (doS s x).1 r with
        | none => rfl
        | some q =>
          show ((i + 1 + q : Nat) : Int) = ((i + (q + 1) : Nat) : Int)
          omega
      · simp [hf]
    · have hb' : (doS s x).2 = false := by simpa using hb
      by_cases hf : f < 0
      · have : ¬ (i : Int) < 0 := by omega
        simp [hb', nextF, hf, this]
      · simp [hb', nextF, hf]
theorem replay_app (l m : List Ev) : ∀ (s : Stt) (i : Nat) (f : Int), replayS s (l ++ m) i f = replayS (replayS s l i f).1 m (i + l.length) (replayS s l i f).2 := by
  induction l with
  | nil => intros; rfl
  | cons x r ih =>
    intro s i f
    rw [List.cons_append, replayS, ih, replayS]
    congr 1
    simp; omega
theorem do_len (s : Stt) (x : Ev) : (doS s x).1.blocks.length = s.blocks.length ∧ (doS s x).1.counters.length = s.counters.length := by
  unfold doS
  repeat' split
  all_goals simp
theorem replay_len (l : List Ev) : ∀ (s : Stt) (i : Nat) (f : Int), (replayS s l i f).1.blocks.length = s.blocks.length ∧ (replayS s l i f).1.counters.length = s.counters.length := by
  induction l with
  | nil => intros; exact ⟨rfl, rfl⟩
  | cons x r ih =>
    intro s i f
    have h1 := do_len s x
    have h2 := ih (doS s x).1 (i + 1) (nextF (doS s x).2 f i)
    rw [replayS]
    exact ⟨h2.1.trans h1.1, h2.2.trans h1.2⟩
theorem firstBad_lt (l : List Ev) : ∀ (s : Stt) (q : Nat), firstBad s l = some q → q < l.length := by
  induction l with
  | nil => intro s q h; cases h
  | cons x r ih =>
    intro s q h
    rw [firstBad] at h
    split at h
    · rw [Option.map_eq_some_iff] at h
      obtain ⟨a, h1, rfl⟩ := h
      have := ih _ _ h1
      simp; omega
    · cases h; simp
/-- Parts: the state, and the first that is not so. -/
theorem parts_st (s : Stt) (l : List Ev) (k : Nat) : (replayS s l 0 (-1)).1 = (replayS (replayS s (l.take k) 0 (-1)).1 (l.drop k) 0 (-1)).1 := by
  conv => lhs; rw [← List.take_append_drop k l]
  rw [replay_app]
  exact replay_st _ _ _ _ _ _
theorem parts_bad (s : Stt) (l : List Ev) (k : Nat) (hk : k ≤ l.length) {y z : Int} (hy : (replayS s (l.take k) 0 (-1)).2 = y) (hz : (replayS (replayS s (l.take k) 0 (-1)).1 (l.drop k) 0 (-1)).2 = z) :
    (replayS s l 0 (-1)).2 = (if y < 0 ∧ 0 ≤ z then z + k else y) ∧ z ≤ l.length ∧ -1 ≤ z := by
  have e : (replayS s l 0 (-1)).2 = (replayS (replayS s (l.take k) 0 (-1)).1 (l.drop k) (0 + (l.take k).length) (replayS s (l.take k) 0 (-1)).2).2 := by
    conv => lhs; rw [← List.take_append_drop k l]
    rw [replay_app]
  rw [hy] at e
  rw [e, replay_bad]
  rw [replay_bad] at hz
  have hy2 := hy
  rw [replay_bad] at hy2
  simp only [show (-1 : Int) < 0 by decide, if_true] at hz hy2
  have hkl : (l.take k).length = k := by simp; omega
  rw [hkl]
  cases hfb : firstBad (replayS s (l.take k) 0 (-1)).1 (l.drop k) with
  | none =>
    rw [hfb] at hz
    simp only at hz
    subst hz
    simp
  | some q =>
    rw [hfb] at hz
    simp only at hz
    have := firstBad_lt _ _ _ hfb
    rw [List.length_drop] at this
    subst hz
    by_cases hy0 : y < 0
    · simp [hy0] <;> omega
    · simp [hy0] <;> omega

theorem few_is {h : List Ev} (hf : few h = true) : h.length ≤ 40 ∧ ∀ x ∈ h, x.data.length ≤ 60 ∧ x.gone.length ≤ 10 := by
  unfold few at hf
  rw [Bool.and_eq_true] at hf
  refine ⟨of_decide_eq_true hf.1, fun x hx => ?_⟩
  have := List.all_eq_true.1 hf.2 x hx
  exact of_decide_eq_true this
theorem and16 (x : Int) : ∃ j : Nat, j ≤ 65535 ∧ iand .i64 x 65535 = j := by
  have h : (BitVec.ofInt 64 x &&& BitVec.ofInt 64 65535).toNat ≤ 65535 := by
    rw [BitVec.toNat_and]
    exact Nat.and_le_right
  show ∃ j : Nat, j ≤ 65535 ∧ IntKind.i64.wrap ((BitVec.ofInt 64 x &&& BitVec.ofInt 64 65535).toNat : Int) = j
  generalize (BitVec.ofInt 64 x &&& _).toNat = q at h ⊢
  exact ⟨q, by omega, wrap_nat (by omega) (by omega)⟩

set_option maxHeartbeats 2000000 in
theorem f4_c (h : List Ev) (s : Stt) (at_ : Int) : Gives Try.prog 4 [evsA h, sttA s, .i at_] (.b true) := by
  intro H
  refine callP_body mixed Try.func4 a4_ok (by simp [a4]) ?_; simp only [a4, go_sem, reduceIte, Nat.reduceEqDiff, Nat.reduceAdd, Nat.reduceLT, Nat.reduceLeDiff, Nat.reduceSub, Nat.reduceMul, Nat.reducePow, Int.reduceToNat, Int.reduceLT, Int.reduceLE, Int.reduceEq, Int.reduceNeg, decide_true, decide_false, Bool.not_true, Bool.not_false]
  simp only [go_sem, reduceIte, Nat.reduceEqDiff, Nat.reduceAdd, Nat.reduceLT, Nat.reduceLeDiff, Nat.reduceSub, Nat.reduceMul, Nat.reducePow, Int.reduceToNat, Int.reduceLT, Int.reduceLE, Int.reduceEq, Int.reduceNeg, decide_true, decide_false, Bool.not_true, Bool.not_false, sttA]
  refine allocK_i fun b1 hb1 => ?_
  try simp only [set_none] at hb1
  simp only [go_sem, reduceIte, Nat.reduceEqDiff, Nat.reduceAdd, Nat.reduceLT, Nat.reduceLeDiff, Nat.reduceSub, Nat.reduceMul, Nat.reducePow, Int.reduceToNat, Int.reduceLT, Int.reduceLE, Int.reduceEq, Int.reduceNeg, decide_true, decide_false, Bool.not_true, Bool.not_false]
  refine f7_c.use ?_
  simp only [go_sem, reduceIte, Nat.reduceEqDiff, Nat.reduceAdd, Nat.reduceLT, Nat.reduceLeDiff, Nat.reduceSub, Nat.reduceMul, Nat.reducePow, Int.reduceToNat, Int.reduceLT, Int.reduceLE, Int.reduceEq, Int.reduceNeg, decide_true, decide_false, Bool.not_true, Bool.not_false]
  refine (f12_c h).use ?_
  simp only [go_sem, reduceIte, Nat.reduceEqDiff, Nat.reduceAdd, Nat.reduceLT, Nat.reduceLeDiff, Nat.reduceSub, Nat.reduceMul, Nat.reducePow, Int.reduceToNat, Int.reduceLT, Int.reduceLE, Int.reduceEq, Int.reduceNeg, decide_true, decide_false, Bool.not_true, Bool.not_false]
  by_cases hf : few h = true
  · by_cases hb : 8 < (s.blocks.length : Int)
    · simp only [go_sem, reduceIte, Nat.reduceEqDiff, Nat.reduceAdd, Nat.reduceLT, Nat.reduceLeDiff, Nat.reduceSub, Nat.reduceMul, Nat.reducePow, Int.reduceToNat, Int.reduceLT, Int.reduceLE, Int.reduceEq, Int.reduceNeg, decide_true, decide_false, Bool.not_true, Bool.not_false, hf, hb, matA]
      exact GhV.le (by (repeat (first | (refine AHeap.le_set' ?_ (by first | (simp only [*]; done) | (refine AHeap.le_none (by assumption) ?_; simp only [*]))) | (refine AHeap.le_del ?_ (by first | (simp only [*]; done) | (refine AHeap.le_none (by assumption) ?_; simp only [*]))))); first | exact AHeap.le_refl _ | assumption)
    · by_cases hc : 8 < (s.counters.length : Int)
      · simp only [go_sem, reduceIte, Nat.reduceEqDiff, Nat.reduceAdd, Nat.reduceLT, Nat.reduceLeDiff, Nat.reduceSub, Nat.reduceMul, Nat.reducePow, Int.reduceToNat, Int.reduceLT, Int.reduceLE, Int.reduceEq, Int.reduceNeg, decide_true, decide_false, Bool.not_true, Bool.not_false, hf, hb, hc, matA]
        exact GhV.le (by (repeat (first | (refine AHeap.le_set' ?_ (by first | (simp only [*]; done) | (refine AHeap.le_none (by assumption) ?_; simp only [*]))) | (refine AHeap.le_del ?_ (by first | (simp only [*]; done) | (refine AHeap.le_none (by assumption) ?_; simp only [*]))))); first | exact AHeap.le_refl _ | assumption)
      · simp only [go_sem, reduceIte, Nat.reduceEqDiff, Nat.reduceAdd, Nat.reduceLT, Nat.reduceLeDiff, Nat.reduceSub, Nat.reduceMul, Nat.reducePow, Int.reduceToNat, Int.reduceLT, Int.reduceLE, Int.reduceEq, Int.reduceNeg, decide_true, decide_false, Bool.not_true, Bool.not_false, hf, hb, hc, matA]
        obtain ⟨hl40, hdg⟩ := few_is hf
        refine loop_upto (k := 0) s.blocks.length (fun k R H1 => H1 = H.set b1 (.rows 2 [.agg [matA s.blocks, intsA s.counters]]) ∧ R = ofL [(0, evsA h), (2, .i at_), (4, .ptr b1 2 0 0), (7, .b true), (8, .i k)]) ?_ (Nat.zero_le _) ⟨rfl, rfl⟩
        rintro k R H1 X hk ⟨rfl, rfl⟩ ih
        unfold a4_L0
        simp only [go_sem, reduceIte, Nat.reduceEqDiff, Nat.reduceAdd, Nat.reduceLT, Nat.reduceLeDiff, Nat.reduceSub, Nat.reduceMul, Nat.reducePow, Int.reduceToNat, Int.reduceLT, Int.reduceLE, Int.reduceEq, Int.reduceNeg, decide_true, decide_false, Bool.not_true, Bool.not_false, matA]
        by_cases hlt : k < s.blocks.length
        · obtain ⟨d, hd⟩ : ∃ d, s.blocks[k]? = some d := ⟨_, List.getElem?_eq_getElem hlt⟩
          simp only [go_sem, reduceIte, Nat.reduceEqDiff, Nat.reduceAdd, Nat.reduceLT, Nat.reduceLeDiff, Nat.reduceSub, Nat.reduceMul, Nat.reducePow, Int.reduceToNat, Int.reduceLT, Int.reduceLE, Int.reduceEq, Int.reduceNeg, decide_true, decide_false, Bool.not_true, Bool.not_false, hlt, hd, matA]
          by_cases h60 : 60 < (d.length : Int)
          · simp only [go_sem, reduceIte, Nat.reduceEqDiff, Nat.reduceAdd, Nat.reduceLT, Nat.reduceLeDiff, Nat.reduceSub, Nat.reduceMul, Nat.reducePow, Int.reduceToNat, Int.reduceLT, Int.reduceLE, Int.reduceEq, Int.reduceNeg, decide_true, decide_false, Bool.not_true, Bool.not_false, h60]
            exact GhV.le (by (repeat (first | (refine AHeap.le_set' ?_ (by first | (simp only [*]; done) | (refine AHeap.le_none (by assumption) ?_; simp only [*]))) | (refine AHeap.le_del ?_ (by first | (simp only [*]; done) | (refine AHeap.le_none (by assumption) ?_; simp only [*]))))); first | exact AHeap.le_refl _ | assumption)
          · simp only [go_sem, reduceIte, Nat.reduceEqDiff, Nat.reduceAdd, Nat.reduceLT, Nat.reduceLeDiff, Nat.reduceSub, Nat.reduceMul, Nat.reducePow, Int.reduceToNat, Int.reduceLT, Int.reduceLE, Int.reduceEq, Int.reduceNeg, decide_true, decide_false, Bool.not_true, Bool.not_false, h60]
            exact ih _ _ hlt ⟨rfl, by rw [wrap_up (by omega)]⟩
        · simp only [go_sem, reduceIte, Nat.reduceEqDiff, Nat.reduceAdd, Nat.reduceLT, Nat.reduceLeDiff, Nat.reduceSub, Nat.reduceMul, Nat.reducePow, Int.reduceToNat, Int.reduceLT, Int.reduceLE, Int.reduceEq, Int.reduceNeg, decide_true, decide_false, Bool.not_true, Bool.not_false, hlt]
          clear ih
          refine (f13_c h (by omega)).use ?_
          obtain ⟨j, hj, ej⟩ := and16 at_
          have w1 : IntKind.i64.wrap ((h.length : Int) + 1) = ((h.length + 1 : Nat) : Int) := wrap_up (by omega)
          have w2 : (((h.length + 1 : Nat) : Int) = 0) = False := by simp; omega
          have w3 : (j : Int).tmod ((h.length + 1 : Nat) : Int) = ((j % (h.length + 1) : Nat) : Int) := rfl
          simp only [go_sem, reduceIte, Nat.reduceEqDiff, Nat.reduceAdd, Nat.reduceLT, Nat.reduceLeDiff, Nat.reduceSub, Nat.reduceMul, Nat.reducePow, Int.reduceToNat, Int.reduceLT, Int.reduceLE, Int.reduceEq, Int.reduceNeg, decide_true, decide_false, Bool.not_true, Bool.not_false, evsA, ej, w1, w2, w3]
          generalize hk : j % (h.length + 1) = k
          have hkl : k ≤ h.length := by have := Nat.mod_lt j (show 0 < h.length + 1 by omega); omega
          have hkI : (0 : Int) ≤ (k : Int) ∧ (k : Int) ≤ (h.length : Int) := by omega
          have hdd : ∀ x ∈ h, x.data.length ≤ 2 ^ 20 := fun x hx => Nat.le_trans (hdg x hx).1 (by omega)
          refine (f14_c' s).use ?_
          try simp only [go_sem, reduceIte, Nat.reduceEqDiff, Nat.reduceAdd, Nat.reduceLT, Nat.reduceLeDiff, Nat.reduceSub, Nat.reduceMul, Nat.reducePow, Int.reduceToNat, Int.reduceLT, Int.reduceLE, Int.reduceEq, Int.reduceNeg, decide_true, decide_false, Bool.not_true, Bool.not_false, hk]
          refine (f10_c s h (by omega) (by omega) (by omega) hdd).use ?_
          simp only [go_sem, reduceIte, Nat.reduceEqDiff, Nat.reduceAdd, Nat.reduceLT, Nat.reduceLeDiff, Nat.reduceSub, Nat.reduceMul, Nat.reducePow, Int.reduceToNat, Int.reduceLT, Int.reduceLE, Int.reduceEq, Int.reduceNeg, decide_true, decide_false, Bool.not_true, Bool.not_false, sttA]
          refine allocK_i fun b2 hb2 => ?_
          try simp only [set_none] at hb2
          simp only [go_sem, reduceIte, Nat.reduceEqDiff, Nat.reduceAdd, Nat.reduceLT, Nat.reduceLeDiff, Nat.reduceSub, Nat.reduceMul, Nat.reducePow, Int.reduceToNat, Int.reduceLT, Int.reduceLE, Int.reduceEq, Int.reduceNeg, decide_true, decide_false, Bool.not_true, Bool.not_false, hb2, sttA]
          refine ⟨_, (f14_c' s).q, ?_⟩
          have hkn : k < 2 ^ 20 := by omega
          have hdt : ∀ x ∈ h.take k, x.data.length ≤ 2 ^ 20 := fun x hx => hdd x (List.mem_of_mem_take hx)
          have hdr : ∀ x ∈ h.drop k, x.data.length ≤ 2 ^ 20 := fun x hx => hdd x (List.mem_of_mem_drop hx)
          have hlt : (h.take k).length ≤ 2 ^ 20 := by simp; omega
          have hlr : (h.drop k).length ≤ 2 ^ 20 := by simp; omega
          have l1 := replay_len (h.take k) s 0 (-1)
          have l2 := replay_len h s 0 (-1)
          simp only [go_sem, reduceIte, Nat.reduceEqDiff, Nat.reduceAdd, Nat.reduceLT, Nat.reduceLeDiff, Nat.reduceSub, Nat.reduceMul, Nat.reducePow, Int.reduceToNat, Int.reduceLT, Int.reduceLE, Int.reduceEq, Int.reduceNeg, decide_true, decide_false, Bool.not_true, Bool.not_false, hkl, ← List.map_take]
          refine ⟨_, (f10_c s (h.take k) (by omega) (by omega) hlt hdt).q, ?_⟩
          simp only [go_sem, reduceIte, Nat.reduceEqDiff, Nat.reduceAdd, Nat.reduceLT, Nat.reduceLeDiff, Nat.reduceSub, Nat.reduceMul, Nat.reducePow, Int.reduceToNat, Int.reduceLT, Int.reduceLE, Int.reduceEq, Int.reduceNeg, decide_true, decide_false, Bool.not_true, Bool.not_false, sttA]
          refine allocK_i fun b3 hb3 => ?_
          try simp only [set_none] at hb3
          simp only [go_sem, reduceIte, Nat.reduceEqDiff, Nat.reduceAdd, Nat.reduceLT, Nat.reduceLeDiff, Nat.reduceSub, Nat.reduceMul, Nat.reducePow, Int.reduceToNat, Int.reduceLT, Int.reduceLE, Int.reduceEq, Int.reduceNeg, decide_true, decide_false, Bool.not_true, Bool.not_false, hb3, sttA, hkl, ← List.map_drop]
          refine ⟨_, (f10_c (replayS s (h.take k) 0 (-1)).1 (h.drop k) (by omega) (by omega) hlr hdr).q, ?_⟩
          simp only [go_sem, reduceIte, Nat.reduceEqDiff, Nat.reduceAdd, Nat.reduceLT, Nat.reduceLeDiff, Nat.reduceSub, Nat.reduceMul, Nat.reducePow, Int.reduceToNat, Int.reduceLT, Int.reduceLE, Int.reduceEq, Int.reduceNeg, decide_true, decide_false, Bool.not_true, Bool.not_false, sttA]
          refine allocK_i fun b4 hb4 => ?_
          try simp only [set_none] at hb4
          have pst := parts_st s h k
          obtain ⟨pb, pz, pz2⟩ := parts_bad s h k hkl rfl rfl
          generalize (replayS s (h.take k) 0 (-1)).2 = y at *
          generalize (replayS (replayS s (h.take k) 0 (-1)).1 (h.drop k) 0 (-1)).2 = z at *
          simp only [go_sem, reduceIte, Nat.reduceEqDiff, Nat.reduceAdd, Nat.reduceLT, Nat.reduceLeDiff, Nat.reduceSub, Nat.reduceMul, Nat.reducePow, Int.reduceToNat, Int.reduceLT, Int.reduceLE, Int.reduceEq, Int.reduceNeg, decide_true, decide_false, Bool.not_true, Bool.not_false, hb4, sttA]
          have e15 : decide ((replayS s h 0 (-1)).1 = (replayS (replayS s (h.take k) 0 (-1)).1 (h.drop k) 0 (-1)).1) = true := decide_eq_true pst
          have c15 := f15_c (replayS s h 0 (-1)).1 (replayS (replayS s (h.take k) 0 (-1)).1 (h.drop k) 0 (-1)).1 (by omega) (by omega)
          rw [e15] at c15
          clear e15 pst
          by_cases y0 : y < 0
          · by_cases z0 : 0 ≤ z
            · have w4 : IntKind.i64.wrap (z + (k : Int)) = z + k := by
                obtain ⟨zn, rfl⟩ : ∃ zn : Nat, z = zn := ⟨z.toNat, by omega⟩
                rw [show ((zn : Int) + (k : Int)) = ((zn + k : Nat) : Int) by omega]
                exact wrap_nat (by omega) (by omega)
              rw [if_pos ⟨y0, z0⟩] at pb
              simp only [go_sem, reduceIte, Nat.reduceEqDiff, Nat.reduceAdd, Nat.reduceLT, Nat.reduceLeDiff, Nat.reduceSub, Nat.reduceMul, Nat.reducePow, Int.reduceToNat, Int.reduceLT, Int.reduceLE, Int.reduceEq, Int.reduceNeg, decide_true, decide_false, Bool.not_true, Bool.not_false, y0, z0, w4, hb2, hb3, hb4, sttA]
              refine c15.use ?_
              simp only [go_sem, reduceIte, Nat.reduceEqDiff, Nat.reduceAdd, Nat.reduceLT, Nat.reduceLeDiff, Nat.reduceSub, Nat.reduceMul, Nat.reducePow, Int.reduceToNat, Int.reduceLT, Int.reduceLE, Int.reduceEq, Int.reduceNeg, decide_true, decide_false, Bool.not_true, Bool.not_false, pb]
              exact GhV.le (by (repeat (first | (refine AHeap.le_set' ?_ (by first | (simp only [*]; done) | (refine AHeap.le_none (by assumption) ?_; simp only [*]))) | (refine AHeap.le_del ?_ (by first | (simp only [*]; done) | (refine AHeap.le_none (by assumption) ?_; simp only [*]))))); first | exact AHeap.le_refl _ | assumption)
            · rw [if_neg (fun e => z0 e.2)] at pb
              simp only [go_sem, reduceIte, Nat.reduceEqDiff, Nat.reduceAdd, Nat.reduceLT, Nat.reduceLeDiff, Nat.reduceSub, Nat.reduceMul, Nat.reducePow, Int.reduceToNat, Int.reduceLT, Int.reduceLE, Int.reduceEq, Int.reduceNeg, decide_true, decide_false, Bool.not_true, Bool.not_false, y0, z0, hb2, hb3, hb4, sttA]
              refine c15.use ?_
              simp only [go_sem, reduceIte, Nat.reduceEqDiff, Nat.reduceAdd, Nat.reduceLT, Nat.reduceLeDiff, Nat.reduceSub, Nat.reduceMul, Nat.reducePow, Int.reduceToNat, Int.reduceLT, Int.reduceLE, Int.reduceEq, Int.reduceNeg, decide_true, decide_false, Bool.not_true, Bool.not_false, pb]
              exact GhV.le (by (repeat (first | (refine AHeap.le_set' ?_ (by first | (simp only [*]; done) | (refine AHeap.le_none (by assumption) ?_; simp only [*]))) | (refine AHeap.le_del ?_ (by first | (simp only [*]; done) | (refine AHeap.le_none (by assumption) ?_; simp only [*]))))); first | exact AHeap.le_refl _ | assumption)
          · rw [if_neg (fun e => y0 e.1)] at pb
            simp only [go_sem, reduceIte, Nat.reduceEqDiff, Nat.reduceAdd, Nat.reduceLT, Nat.reduceLeDiff, Nat.reduceSub, Nat.reduceMul, Nat.reducePow, Int.reduceToNat, Int.reduceLT, Int.reduceLE, Int.reduceEq, Int.reduceNeg, decide_true, decide_false, Bool.not_true, Bool.not_false, y0, hb2, hb3, hb4, sttA]
            refine c15.use ?_
            simp only [go_sem, reduceIte, Nat.reduceEqDiff, Nat.reduceAdd, Nat.reduceLT, Nat.reduceLeDiff, Nat.reduceSub, Nat.reduceMul, Nat.reducePow, Int.reduceToNat, Int.reduceLT, Int.reduceLE, Int.reduceEq, Int.reduceNeg, decide_true, decide_false, Bool.not_true, Bool.not_false, pb]
            exact GhV.le (by (repeat (first | (refine AHeap.le_set' ?_ (by first | (simp only [*]; done) | (refine AHeap.le_none (by assumption) ?_; simp only [*]))) | (refine AHeap.le_del ?_ (by first | (simp only [*]; done) | (refine AHeap.le_none (by assumption) ?_; simp only [*]))))); first | exact AHeap.le_refl _ | assumption)
  · have hf' : few h = false := by simpa using hf
    simp only [go_sem, reduceIte, Nat.reduceEqDiff, Nat.reduceAdd, Nat.reduceLT, Nat.reduceLeDiff, Nat.reduceSub, Nat.reduceMul, Nat.reducePow, Int.reduceToNat, Int.reduceLT, Int.reduceLE, Int.reduceEq, Int.reduceNeg, decide_true, decide_false, Bool.not_true, Bool.not_false, hf']
    exact GhV.le (by (repeat (first | (refine AHeap.le_set' ?_ (by first | (simp only [*]; done) | (refine AHeap.le_none (by assumption) ?_; simp only [*]))) | (refine AHeap.le_del ?_ (by first | (simp only [*]; done) | (refine AHeap.le_none (by assumption) ?_; simp only [*]))))); first | exact AHeap.le_refl _ | assumption)
end Go.Proofs.Ytaeanhonfoakeaa
end

section
namespace Go.Proofs.Ytaeanhonfoakeaa
open Go Heron
set_option linter.unusedSimpArgs false
set_option linter.unusedVariables false

theorem told_none {h : List Ev} {F : Fates} {r : Int} (hn : ∀ x ∈ h, x.what ≠ 2) : ∀ n, toldP h F r n (-1) = []
  | 0 => rfl
  | n + 1 => by
    rw [toldP, List.flatMap_eq_nil_iff]
    intro k hk
    unfold toldAt
    have h1 : accAt (evP h k) (-1) = false := by simp [accAt]
    have h2 : kidAt h F k (evP h k) (-1) = false := by
      have hlt := List.mem_range.1 hk
      have : evP h k ∈ h := by
        rw [evP, List.getElem?_eq_getElem hlt]
        exact List.getElem_mem hlt
      simp [kidAt, hn _ this]
    simp [h1, h2]
theorem serial_none {h : List Ev} (hn : ∀ x ∈ h, x.what ≠ 2) : serial h = [] := by
  have : serialP h = [] := by
    rw [serialP, List.flatMap_eq_nil_iff]
    intro r _
    exact told_none hn _
  rw [serial, this]; rfl

/-- An own slice in a register is frozen. -/
theorem gh_acc {N : Regs → AHeap → Prop} {t sz : Nat} {a : AVal} {xs : List AVal} {pre post : List (Nat × AVal)} {H0 H : AHeap} (h : Acc H0 sz xs a H) (hn : ∀ H', H0.le H' → (∀ d o, H d = some o → a.blk ≠ some d → H' d = some o) → N (ofL (pre ++ (t, .ro sz xs) :: post)) H') : ghP N (ofL (pre ++ (t, a) :: post)) H := by
  rcases h.is with ⟨rfl, rfl⟩ | ⟨b, cap, h1, rfl, h3⟩
  · exact gh_wk (wk_nil sz) (hn H h.le fun d o e _ => e)
  · refine ⟨_, H.del b, Gh.freezeTo h3 (fun u a' e => ?_) (fun d o e => ?_), hn _ (AHeap.le_del h.le h1) fun d o e hd => ?_⟩
    · clear hn
      induction pre with
      | nil =>
        simp only [List.nil_append, ofL] at e ⊢
        by_cases hu : u = t
        · simp only [hu, if_true] at e ⊢
          cases e
          exact .inr ⟨_, rfl, by simp [frzE, frzA, frzV]⟩
        · simp only [hu, if_false] at e ⊢; exact .inl e
      | cons p pre ih =>
        simp only [List.cons_append, ofL] at e ⊢
        by_cases hu : u = p.1
        · simp only [hu, if_true] at e ⊢; exact .inl e
        · simp only [hu, if_false] at e ⊢; exact ih e
    · unfold AHeap.del at e
      by_cases hd : d = b
      · simp [hd] at e
      · simp only [hd, if_false] at e
        exact ⟨hd, .inl e⟩
    · unfold AHeap.del
      rw [if_neg (fun e2 => hd (by rw [e2]; rfl))]
      exact e

def noC (h : List Ev) : List Ev := h.filter fun x => !decide (x.what = 2)
theorem noC_is (h : List Ev) : ∀ x ∈ noC h, x.what ≠ 2 := fun x hx => by
  have := (List.mem_filter.1 hx).2
  simpa using this
theorem noC_mem {h : List Ev} {x : Ev} (hx : x ∈ noC h) : x ∈ h := (List.mem_filter.1 hx).1

set_option maxHeartbeats 2000000 in
theorem f6_c (h : List Ev) (n : Int) : Gives Try.prog 6 [evsA h, .i n] (.b true) := by
  intro H
  refine callP_body mixed Try.func6 a6g_ok (by simp [a6g]) ?_
  simp only [a6g]
  simp only [go_sem, reduceIte, Nat.reduceEqDiff, Nat.reduceAdd, Nat.reduceLT, Nat.reduceLeDiff, Nat.reduceSub, Nat.reduceMul, Nat.reducePow, Int.reduceToNat, Int.reduceLT, Int.reduceLE, Int.reduceEq, Int.reduceNeg, decide_true, decide_false, Bool.not_true, Bool.not_false]
  refine f7_c.use ?_
  simp only [go_sem, reduceIte, Nat.reduceEqDiff, Nat.reduceAdd, Nat.reduceLT, Nat.reduceLeDiff, Nat.reduceSub, Nat.reduceMul, Nat.reducePow, Int.reduceToNat, Int.reduceLT, Int.reduceLE, Int.reduceEq, Int.reduceNeg, decide_true, decide_false, Bool.not_true, Bool.not_false]
  refine (f12_c h).use ?_
  by_cases hf : few h = true
  · obtain ⟨hl40, hdg⟩ := few_is hf
    simp only [go_sem, reduceIte, Nat.reduceEqDiff, Nat.reduceAdd, Nat.reduceLT, Nat.reduceLeDiff, Nat.reduceSub, Nat.reduceMul, Nat.reducePow, Int.reduceToNat, Int.reduceLT, Int.reduceLE, Int.reduceEq, Int.reduceNeg, decide_true, decide_false, Bool.not_true, Bool.not_false, hf]
    refine (f13_c h (by omega)).use ?_
    simp only [go_sem, reduceIte, Nat.reduceEqDiff, Nat.reduceAdd, Nat.reduceLT, Nat.reduceLeDiff, Nat.reduceSub, Nat.reduceMul, Nat.reducePow, Int.reduceToNat, Int.reduceLT, Int.reduceLE, Int.reduceEq, Int.reduceNeg, decide_true, decide_false, Bool.not_true, Bool.not_false, evsA]
    refine loop_upto (k := 0) h.length (fun k R H1 => ∃ a, Acc H 7 ((noC (h.take k)).map evA) a H1 ∧ R = ofL [(1, .i n), (5, .b true), (6, a), (7, .ro 7 (h.map evA)), (8, .i k)]) ?_ (Nat.zero_le _) ⟨_, Acc.nil H.le_refl, rfl⟩
    rintro k R H1 X hk ⟨a, hacc, rfl⟩ ih
    unfold a6g_L0
    simp only [go_sem, reduceIte, Nat.reduceEqDiff, Nat.reduceAdd, Nat.reduceLT, Nat.reduceLeDiff, Nat.reduceSub, Nat.reduceMul, Nat.reducePow, Int.reduceToNat, Int.reduceLT, Int.reduceLE, Int.reduceEq, Int.reduceNeg, decide_true, decide_false, Bool.not_true, Bool.not_false]
    by_cases hlt : k < h.length
    · obtain ⟨x, hx⟩ : ∃ x, h[k]? = some x := ⟨_, List.getElem?_eq_getElem hlt⟩
      have et : noC (h.take (k + 1)) = noC (h.take k) ++ noC [x] := by
        rw [List.take_add_one, hx, noC, noC, List.filter_append]; rfl
      have hn40 : (noC (h.take k)).length ≤ 40 := Nat.le_trans (List.length_filter_le _ _) (by simp; omega)
      by_cases w2 : x.what = 2
      · simp only [go_sem, reduceIte, Nat.reduceEqDiff, Nat.reduceAdd, Nat.reduceLT, Nat.reduceLeDiff, Nat.reduceSub, Nat.reduceMul, Nat.reducePow, Int.reduceToNat, Int.reduceLT, Int.reduceLE, Int.reduceEq, Int.reduceNeg, decide_true, decide_false, Bool.not_true, Bool.not_false, hlt, hx, evA, w2, not_true_eq_false]
        refine ih _ _ hlt ⟨a, ?_, by rw [wrap_up (by omega)]⟩
        rw [et, show noC [x] = [] by simp [noC, w2], List.append_nil]
        exact hacc
      · simp only [go_sem, reduceIte, Nat.reduceEqDiff, Nat.reduceAdd, Nat.reduceLT, Nat.reduceLeDiff, Nat.reduceSub, Nat.reduceMul, Nat.reducePow, Int.reduceToNat, Int.reduceLT, Int.reduceLE, Int.reduceEq, Int.reduceNeg, decide_true, decide_false, Bool.not_true, Bool.not_false, hlt, hx, evA, w2, not_false_eq_true]
        (repeat' (first | (refine opG_cases (fun hc => ?_) (fun hc => ?_) <;> simp only [go_sem, reduceIte, Nat.reduceEqDiff, Nat.reduceAdd, Nat.reduceLT, Nat.reduceLeDiff, Nat.reduceSub, Nat.reduceMul, Nat.reducePow, Int.reduceToNat, Int.reduceLT, Int.reduceLE, Int.reduceEq, Int.reduceNeg, decide_true, decide_false, Bool.not_true, Bool.not_false, hx, evA, *]) | (refine ifP_cases (fun hc => ?_) (fun hc => ?_) <;> simp only [go_sem, reduceIte, Nat.reduceEqDiff, Nat.reduceAdd, Nat.reduceLT, Nat.reduceLeDiff, Nat.reduceSub, Nat.reduceMul, Nat.reducePow, Int.reduceToNat, Int.reduceLT, Int.reduceLE, Int.reduceEq, Int.reduceNeg, decide_true, decide_false, Bool.not_true, Bool.not_false, hx, evA, *]) | (refine allocK_i fun nb hnb => ?_; (try simp only [set_none] at hnb); simp only [go_sem, reduceIte, Nat.reduceEqDiff, Nat.reduceAdd, Nat.reduceLT, Nat.reduceLeDiff, Nat.reduceSub, Nat.reduceMul, Nat.reducePow, Int.reduceToNat, Int.reduceLT, Int.reduceLE, Int.reduceEq, Int.reduceNeg, decide_true, decide_false, Bool.not_true, Bool.not_false, hx, evA, *])))
        refine Acc.app (hacc.mono (by (repeat (first | (refine AHeap.le_set' ?_ (by first | (simp only [*]; done) | (refine AHeap.le_none (by assumption) ?_; simp only [*]))) | (refine AHeap.le_del ?_ (by first | (simp only [*]; done) | (refine AHeap.le_none (by assumption) ?_; simp only [*]))))); first | exact AHeap.le_refl _ | assumption)) (by simp; omega) (fun e he => by simp at he; subst he; rfl) (fun a' H' h' => ?_)
        simp only [go_sem, reduceIte, Nat.reduceEqDiff, Nat.reduceAdd, Nat.reduceLT, Nat.reduceLeDiff, Nat.reduceSub, Nat.reduceMul, Nat.reducePow, Int.reduceToNat, Int.reduceLT, Int.reduceLE, Int.reduceEq, Int.reduceNeg, decide_true, decide_false, Bool.not_true, Bool.not_false]
        refine ih _ _ hlt ⟨a', ?_, by rw [wrap_up (by omega)]⟩
        rw [et, show noC [x] = [x] by simp [noC, w2], List.map_append]
        exact h'
    · simp only [go_sem, reduceIte, Nat.reduceEqDiff, Nat.reduceAdd, Nat.reduceLT, Nat.reduceLeDiff, Nat.reduceSub, Nat.reduceMul, Nat.reducePow, Int.reduceToNat, Int.reduceLT, Int.reduceLE, Int.reduceEq, Int.reduceNeg, decide_true, decide_false, Bool.not_true, Bool.not_false, hlt]
      have : k = h.length := by omega
      subst this
      rw [List.take_length] at hacc
      clear ih
      obtain ⟨j, hj, ej⟩ := and3 n
      simp only [go_sem, reduceIte, Nat.reduceEqDiff, Nat.reduceAdd, Nat.reduceLT, Nat.reduceLeDiff, Nat.reduceSub, Nat.reduceMul, Nat.reducePow, Int.reduceToNat, Int.reduceLT, Int.reduceLE, Int.reduceEq, Int.reduceNeg, decide_true, decide_false, Bool.not_true, Bool.not_false, ej]
      refine (f9_c j j (by omega) (by omega)).use ?_
      simp only [go_sem, reduceIte, Nat.reduceEqDiff, Nat.reduceAdd, Nat.reduceLT, Nat.reduceLeDiff, Nat.reduceSub, Nat.reduceMul, Nat.reducePow, Int.reduceToNat, Int.reduceLT, Int.reduceLE, Int.reduceEq, Int.reduceNeg, decide_true, decide_false, Bool.not_true, Bool.not_false]
      refine allocK_i fun b9 hb9 => ?_
      try simp only [set_none] at hb9
      simp only [go_sem, reduceIte, Nat.reduceEqDiff, Nat.reduceAdd, Nat.reduceLT, Nat.reduceLeDiff, Nat.reduceSub, Nat.reduceMul, Nat.reducePow, Int.reduceToNat, Int.reduceLT, Int.reduceLE, Int.reduceEq, Int.reduceNeg, decide_true, decide_false, Bool.not_true, Bool.not_false, hb9, sttA]
      have hsl := serial_none (noC_is h)
      have hl1 : (noC h).length ≤ 40 := Nat.le_trans (List.length_filter_le _ _) (by omega)
      have hg1 : ∀ x ∈ noC h, x.gone.length ≤ 2 ^ 20 := fun x hx => Nat.le_trans (hdg x (noC_mem hx)).2 (by omega)
      have hd1 : ∀ x ∈ noC h, x.data.length ≤ 2 ^ 20 := fun x hx => Nat.le_trans (hdg x (noC_mem hx)).1 (by omega)
      have c11 := f11_g (noC h) (by omega) hg1
      rw [hsl] at c11
      have c10 := f10_c (blankS j j) [] (by simp [blankS]; omega) (by simp [blankS]; omega) (by simp) (by simp)
      have c8 := f8_c (blankS j j) (noC h) (by simp [blankS]; omega) (by simp [blankS]; omega) (by omega) hg1 hd1
      rw [explains, hsl] at c8
      have c15 := f15_c (blankS j j) (blankS j j) (by simp [blankS]; omega) (by simp [blankS]; omega)
      rw [AHeap.set_set]
      refine gh_acc (pre := [(5, .b true)]) (post := [(9, .ptr b9 2 0 0)]) (hacc.set hb9) fun Hx hle hkeep => ?_
      have hbx : Hx b9 = some (.rows 2 [.agg [matA (blankS j j).blocks, intsA (blankS j j).counters]]) := hkeep b9 _ (by rw [set_get, if_pos rfl]) (hacc.ne_new hb9)
      simp only [List.cons_append, List.nil_append]
      simp only [go_sem, reduceIte, Nat.reduceEqDiff, Nat.reduceAdd, Nat.reduceLT, Nat.reduceLeDiff, Nat.reduceSub, Nat.reduceMul, Nat.reducePow, Int.reduceToNat, Int.reduceLT, Int.reduceLE, Int.reduceEq, Int.reduceNeg, decide_true, decide_false, Bool.not_true, Bool.not_false, hbx]
      refine ⟨_, c11.q, ?_⟩
      try simp only [go_sem, reduceIte, Nat.reduceEqDiff, Nat.reduceAdd, Nat.reduceLT, Nat.reduceLeDiff, Nat.reduceSub, Nat.reduceMul, Nat.reducePow, Int.reduceToNat, Int.reduceLT, Int.reduceLE, Int.reduceEq, Int.reduceNeg, decide_true, decide_false, Bool.not_true, Bool.not_false]
      refine ⟨_, c10.q, ?_⟩
      simp only [go_sem, reduceIte, Nat.reduceEqDiff, Nat.reduceAdd, Nat.reduceLT, Nat.reduceLeDiff, Nat.reduceSub, Nat.reduceMul, Nat.reducePow, Int.reduceToNat, Int.reduceLT, Int.reduceLE, Int.reduceEq, Int.reduceNeg, decide_true, decide_false, Bool.not_true, Bool.not_false, sttA, replayS]
      refine allocK_i fun b10 hb10 => ?_
      try simp only [set_none] at hb10
      have n9 : b9 ≠ b10 := ne_new hbx hb10
      simp only [go_sem, reduceIte, Nat.reduceEqDiff, Nat.reduceAdd, Nat.reduceLT, Nat.reduceLeDiff, Nat.reduceSub, Nat.reduceMul, Nat.reducePow, Int.reduceToNat, Int.reduceLT, Int.reduceLE, Int.reduceEq, Int.reduceNeg, decide_true, decide_false, Bool.not_true, Bool.not_false, hb10, n9, hbx]
      have h00 : ((0 : Nat) : Int) = 0 := rfl
      have e8 : decide ((replayS (blankS j j) [] 0 (-1)).2 < 0) = true := rfl
      rw [e8] at c8
      have e15 : decide (blankS j j = blankS j j) = true := decide_eq_true rfl
      rw [e15] at c15
      have cn := f11_g [] (by simp) (by simp)
      rw [serial_none (h := []) (by simp)] at cn
      refine c11.use ?_
      simp only [go_sem, reduceIte, Nat.reduceEqDiff, Nat.reduceAdd, Nat.reduceLT, Nat.reduceLeDiff, Nat.reduceSub, Nat.reduceMul, Nat.reducePow, Int.reduceToNat, Int.reduceLT, Int.reduceLE, Int.reduceEq, Int.reduceNeg, decide_true, decide_false, Bool.not_true, Bool.not_false, evsA, h00, hb10, n9, hbx, set_get]
      refine c8.use ?_
      simp only [go_sem, reduceIte, Nat.reduceEqDiff, Nat.reduceAdd, Nat.reduceLT, Nat.reduceLeDiff, Nat.reduceSub, Nat.reduceMul, Nat.reducePow, Int.reduceToNat, Int.reduceLT, Int.reduceLE, Int.reduceEq, Int.reduceNeg, decide_true, decide_false, Bool.not_true, Bool.not_false, evsA, h00, hb10, n9, hbx, set_get]
      refine c15.use ?_
      simp only [go_sem, reduceIte, Nat.reduceEqDiff, Nat.reduceAdd, Nat.reduceLT, Nat.reduceLeDiff, Nat.reduceSub, Nat.reduceMul, Nat.reducePow, Int.reduceToNat, Int.reduceLT, Int.reduceLE, Int.reduceEq, Int.reduceNeg, decide_true, decide_false, Bool.not_true, Bool.not_false, evsA, h00, hb10, n9, hbx, set_get]
      refine cn.as (GhA.wk (WkL.cons (wk_nil 7) WkL.nil)) ?_
      simp only [go_sem, reduceIte, Nat.reduceEqDiff, Nat.reduceAdd, Nat.reduceLT, Nat.reduceLeDiff, Nat.reduceSub, Nat.reduceMul, Nat.reducePow, Int.reduceToNat, Int.reduceLT, Int.reduceLE, Int.reduceEq, Int.reduceNeg, decide_true, decide_false, Bool.not_true, Bool.not_false, evsA, h00]
      exact GhV.le (by (repeat (first | (refine AHeap.le_set' ?_ (by first | (simp only [*]; done) | (refine AHeap.le_none (by assumption) ?_; simp only [*]))) | (refine AHeap.le_del ?_ (by first | (simp only [*]; done) | (refine AHeap.le_none (by assumption) ?_; simp only [*]))))); first | exact AHeap.le_refl _ | assumption)
  · have hf' : few h = false := by simpa using hf
    simp only [go_sem, reduceIte, Nat.reduceEqDiff, Nat.reduceAdd, Nat.reduceLT, Nat.reduceLeDiff, Nat.reduceSub, Nat.reduceMul, Nat.reducePow, Int.reduceToNat, Int.reduceLT, Int.reduceLE, Int.reduceEq, Int.reduceNeg, decide_true, decide_false, Bool.not_true, Bool.not_false, hf']
    exact GhV.le (by (repeat (first | (refine AHeap.le_set' ?_ (by first | (simp only [*]; done) | (refine AHeap.le_none (by assumption) ?_; simp only [*]))) | (refine AHeap.le_del ?_ (by first | (simp only [*]; done) | (refine AHeap.le_none (by assumption) ?_; simp only [*]))))); first | exact AHeap.le_refl _ | assumption)
end Go.Proofs.Ytaeanhonfoakeaa
end

section
namespace Go.Proofs.Ytaeanhonfoakeaa.Empty
open Go Heron Go.RowKit
set_option linter.unusedVariables false
theorem own : ownKnob Go.Proofs.Try.prog.godebug = none := by kernel_rfl
set_option maxRecDepth 100000 in
theorem lifted (os : Os) (started : os.Started) (H : Type) (enc : TypeId × Value → H) :
    ReturnsInHanded {} Go.Proofs.Try.checked os 6 .any (Rows.auditEmptySpec.pre6 enc Go.Proofs.Try.prog Go.Proofs.Try.f6 Rows.auditEmptyRow.domain false) (Rows.auditEmptySpec.post enc Go.Proofs.Try.prog Go.Proofs.Try.f6 false true false false) := by
  refine returnsInHanded_of_change_sized (C := Go.Proofs.Try.checked) own started (by kernel_rfl) Go.Proofs.Try.func6
    (ChangeSpec.witness6 (enc := enc) (C := Go.Proofs.Try.checked) false ⟨#[], #[.slice none 0 0, .int .i64 0], []⟩ 8 (by kernel_rfl) (by kernel_rfl) (by kernel_rfl) (by kernel_rfl)) ?_
  intro W base args ds gs before hval0 hW hcnd hsz0 _
  have ho : OpensL bulkFn Go.Proofs.Try.prog [37, 3] _ _ _ :=
    opensL_cons (opensV_flat open_evs (by kernel_rfl) fun _ => rfl) (opensL_cons (opensV_flat open_int (by kernel_rfl) fun _ => rfl) opensL_nil)
  refine law_contract (B := bulkFn) (n := 2) (rt := 4) laidOut (by kernel_rfl) rfl (fun H ds hd => ?_) (by kernel_rfl) (by kernel_rfl) (by kernel_rfl) ho hval0 hW fun x hx hb => ?_
  · match ds, hd with
    | [d1, d2], _ => rfl
  · obtain ⟨h, n, _⟩ := x
    exact (f6_c h n).use rfl
set_option maxRecDepth 100000 in
theorem over : Rows.auditEmptyRow.holds Try.pinned (OpenSpec.ofChange Rows.auditEmptySpec) :=
  OpenClaim.holds_of_wide 6 Go.Proofs.Try.f6 rfl rfl rfl rfl rfl rfl rfl ⟨rfl, rfl, rfl, rfl, rfl⟩ rfl rfl rfl rfl rfl (by kernel_rfl) Go.Proofs.Try.func6 (by kernel_rfl)
    (of_decide_eq_true (by kernel_rfl)) (by unfold Func.isWrapper; first | (rw [if_pos (by decide +kernel)]; kernel_rfl) | (rw [if_neg (by decide +kernel)]; exact ⟨rfl, rfl⟩))
    (fun os started H enc _ => lifted os started H enc)
theorem proved : Rows.AuditEmptySaid := over
end Go.Proofs.Ytaeanhonfoakeaa.Empty

namespace Go.Proofs.Ytaeanhonfoakeaa
/-- The row, for the claim. -/
theorem auditEmpty_holds : Rows.AuditEmptySaid := Empty.proved
end Go.Proofs.Ytaeanhonfoakeaa
#print axioms Go.Proofs.Ytaeanhonfoakeaa.auditEmpty_holds
end

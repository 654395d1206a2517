/- A quiet operation does what was reckoned. New memory, and stores. Slices written out, stores, bytes of a string. -/
import Derived.Test.YtaeanhonfoakeaaK3
section
set_option linter.unusedSimpArgs false
set_option linter.unusedVariables false
namespace Heron
open Go

theorem bind_some' {α β : Type} {o : Option α} {f : α → Option β} {b : β} (h : (do let x ← o; f x) = some b) : ∃ a, o = some a ∧ f a = some b := by
  cases o with
  | none => simp at h
  | some a => exact ⟨a, rfl, by simpa using h⟩

theorem obind {α β : Type} {o : Option α} {f : α → Option β} {b : β} (h : o.bind f = some b) : ∃ a, o = some a ∧ f a = some b := by
  cases o with
  | none => simp at h
  | some a => exact ⟨a, rfl, by simpa using h⟩

theorem omap {α β : Type} {o : Option α} {f : α → β} {b : β} (h : o.map f = some b) : ∃ a, o = some a ∧ f a = b := by
  cases o with
  | none => simp at h
  | some a => exact ⟨a, rfl, by simpa using h⟩

theorem evB_sound {G : Ghost} {R : Regs} {a : Act} (hr : RRel G R a.tmps) {x : Option Operand} {o : Option Int} (h : evB R (x.map genX) = some o) : bnd o (x.map a.eval) := by
  cases x with
  | none => cases h; trivial
  | some x =>
    obtain ⟨n, hn, rfl⟩ := omap h
    obtain ⟨v, hv, hi⟩ := obind hn
    exact aInt_inv hi (ev_sound hr hv)

theorem ptr_inv {G : Ghost} {b sz row col : Nat} {v : Value} (h : VRel G (.ptr b sz row col) v) : v = .pointer (some ⟨b, row * sz + col, none⟩) := by cases h; rfl

theorem rp_inv {G : Ghost} {e : AVal} {col : Nat} {v : Value} (h : VRel G (.rp e col) v) : ∃ ad, v = .pointer (some ad) := by cases h; exact ⟨_, rfl⟩
theorem fn_inv {G : Ghost} {f : FuncId} {cs : List AVal} {v : Value} (h : VRel G (.fn f cs) v) : ∃ vs, v = .func (.func f) #[] vs := by cases h; exact ⟨_, rfl⟩

/-- What an operation's value is, and that it is as was reckoned. -/
def Does (P : Program) (G : Ghost) (w : World) (s : Sem Value) (v : AVal) : Prop := ∃ cv, s.run P w = .ok cv w ∧ VRel G v cv

section
variable {P : Program} {G : Ghost} {H : AHeap} {w : World} {R : Regs} {a : Act} {v : AVal}

theorem len_sound {ts : Array TypeId} (hk : lenKind P ts = some .slice) {ty : TypeId} {x : AVal} {n : Int} {xv : Value} (h : aLen x = some n) (hx : VRel G x xv) :
    (Builtin.len_ ts ty #[xv]).run P w = .ok (.int .i64 n) w := by
  unfold lenKind at hk
  obtain ⟨t, ht, hk⟩ := bind_some' hk
  obtain ⟨d, hu, hk⟩ := bind_some' hk
  cases d <;> simp at hk
  unfold Builtin.len_
  simp only [ht, List.getElem?_toArray, List.getElem?_cons_zero]
  rw [run_ok (run_underlying hu w)]
  have : ∃ a m c, xv = .slice a m c ∧ (m : Int) = n := by
    cases x with
    | raw u => rw [VRel.raw_inv hx]; cases u <;> simp [aLen] at h; exact ⟨_, _, _, rfl, h⟩
    | sl => cases hx; exact ⟨_, _, _, rfl, by simpa [aLen] using h⟩
    | sc => cases hx; exact ⟨_, _, _, rfl, by simpa [aLen] using h⟩
    | ro => cases hx; exact ⟨_, _, _, rfl, by simpa [aLen] using h⟩
    | z => cases hx; exact ⟨_, _, _, rfl, by simpa [aLen] using h⟩
    | _ => simp [aLen] at h
  obtain ⟨a, m, c, rfl, rfl⟩ := this
  rfl

theorem lens_sound {ts : Array TypeId} (hk : lenKind P ts = some .str) {ty : TypeId} {x : AVal} {n : Int} {xv : Value} (h : aLens x = some n) (hx : VRel G x xv) :
    (Builtin.len_ ts ty #[xv]).run P w = .ok (.int .i64 n) w := by
  unfold lenKind at hk
  obtain ⟨t, ht, hk⟩ := bind_some' hk
  obtain ⟨d, hu, hk⟩ := bind_some' hk
  cases d <;> simp at hk
  unfold Builtin.len_
  simp only [ht, List.getElem?_toArray, List.getElem?_cons_zero]
  rw [run_ok (run_underlying hu w)]
  cases x with
  | raw u => rw [VRel.raw_inv hx]; cases u <;> simp [aLens] at h; subst h; rfl
  | _ => simp [aLens] at h

theorem lenm_sound (hs : St G H w) {ts : Array TypeId} (hk : lenKind P ts = some .map) {ty : TypeId} {x : AVal} {n : Int} {xv : Value} (h : aLenm H x = some n) (hx : VRel G x xv) :
    (Builtin.len_ ts ty #[xv]).run P w = .ok (.int .i64 n) w := by
  unfold lenKind at hk
  obtain ⟨t, ht, hk⟩ := bind_some' hk
  obtain ⟨d, hu, hk⟩ := bind_some' hk
  cases d <;> simp at hk
  unfold Builtin.len_
  simp only [ht, List.getElem?_toArray, List.getElem?_cons_zero]
  rw [run_ok (run_underlying hu w)]
  cases x with
  | raw u =>
    rw [VRel.raw_inv hx]
    unfold aLenm at h
    split at h
    · rename_i heq; cases heq; cases h; rfl
    · rename_i heq; cases heq
    · cases h
  | mp b =>
    cases hx
    simp only [aLenm] at h
    split at h
    · rename_i kk es clock hb
      cases h
      obtain ⟨ob, hob, hr⟩ := hs.own b _ hb
      cases hr with
      | map _ _ _ arr hn hf hk' =>
        have hg : (getObj b).run P w = .ok (.map arr clock) w := by simp [getObj, Sem.run, hob]
        simp only []
        rw [run_ok hg]
        simp only [run_pure, goInt, hn]
    · cases h
  | _ => simp [aLenm] at h

theorem cap_sound {ts : Array TypeId} (hk : lenKind P ts = some .slice) {ty : TypeId} {x : AVal} {n : Int} {xv : Value} (h : aCap x = some n) (hx : VRel G x xv) :
    (Builtin.cap_ ts ty #[xv]).run P w = .ok (.int .i64 n) w := by
  unfold lenKind at hk
  obtain ⟨t, ht, hk⟩ := bind_some' hk
  obtain ⟨d, hu, hk⟩ := bind_some' hk
  cases d <;> simp at hk
  unfold Builtin.cap_
  simp only [ht, List.getElem?_toArray, List.getElem?_cons_zero]
  rw [run_ok (run_underlying hu w)]
  have : ∃ a m c, xv = .slice a m c ∧ (c : Int) = n := by
    cases x with
    | raw u => rw [VRel.raw_inv hx]; cases u <;> simp [aCap] at h; exact ⟨_, _, _, rfl, h⟩
    | sl => cases hx; exact ⟨_, _, _, rfl, by simpa [aCap] using h⟩
    | sc => cases hx; exact ⟨_, _, _, rfl, by simpa [aCap] using h⟩
    | z => cases hx; exact ⟨_, _, _, rfl, by simpa [aCap] using h⟩
    | _ => simp [aCap] at h
  obtain ⟨a, m, c, rfl, rfl⟩ := this
  rfl

theorem run_builtin {ρ : Operand → Value} {b : Builtin} {c : Call} {o : Oper} (ho : o.op = .call c) (hb : c.callee = .builtin b) :
    (execOp ρ o).run P w = (builtin b c.argTypes o.type (c.args.map fun | .const _ => true | _ => false) (c.args.map ρ)).run P w := by
  unfold execOp
  rw [ho]
  simp only [resolve, hb]
  rw [run_ok (run_pure P _ w)]
  rfl

theorem max_sound {x y : AVal} {xv yv : Value} (h : aMax true x y = some v) (hx : VRel G x xv) (hy : VRel G y yv) : Does P G w (Builtin.max2 xv yv) v := by
  unfold aMax at h
  split at h
  · split at h
    · rename_i e
      subst e
      cases h
      cases VRel.raw_inv hx
      cases VRel.raw_inv hy
      exact ⟨_, rfl, .raw _⟩
    · cases h
  · cases h

theorem min_sound {x y : AVal} {xv yv : Value} (h : aMax false x y = some v) (hx : VRel G x xv) (hy : VRel G y yv) : Does P G w (Builtin.min2 xv yv) v := by
  unfold aMax at h
  split at h
  · split at h
    · rename_i e
      subst e
      cases h
      cases VRel.raw_inv hx
      cases VRel.raw_inv hy
      exact ⟨_, rfl, .raw _⟩
    · cases h
  · cases h

theorem builtinQ_sound (hs : St G H w) (hr : RRel G R a.tmps) {o : Oper} {c : Call} {b : Builtin} {e : QE} (ho : o.op = .call c) (hb : c.callee = .builtin b)
    (hg : genBuiltinQ P b c.args.toList c.argTypes = some e) (hq : qeval R H e = some v) : ∃ cv, (execOp a.eval o).run P w = .ok (.value cv) w ∧ VRel G v cv := by
  rw [run_builtin ho hb]
  have hargs : ∀ l, c.args.toList = l → c.args = l.toArray := fun l e => by rw [← e]
  unfold genBuiltinQ at hg
  split at hg
  · rename_i x hx
    obtain ⟨k, hk, hg⟩ := omap hg
    rw [hargs _ hx]
    simp only [builtin, List.map_toArray, List.map_cons, List.map_nil]
    cases k <;> simp only at hg <;> subst hg <;> simp only [qeval] at hq
    all_goals
      obtain ⟨u, hu, hq⟩ := obind hq
      obtain ⟨n, hn, rfl⟩ := omap hq
    · exact ⟨_, run_value (lens_sound hk hn (ev_sound hr hu)), .raw _⟩
    · exact ⟨_, run_value (len_sound hk hn (ev_sound hr hu)), .raw _⟩
    · exact ⟨_, run_value (lenm_sound hs hk hn (ev_sound hr hu)), .raw _⟩
  · rename_i x hx
    rw [hargs _ hx]
    split at hg
    · rename_i hk
      cases hg
      simp only [builtin, List.map_toArray, List.map_cons, List.map_nil]
      simp only [qeval] at hq
      obtain ⟨u, hu, hq⟩ := obind hq
      obtain ⟨n, hn, rfl⟩ := omap hq
      exact ⟨_, run_value (cap_sound hk hn (ev_sound hr hu)), .raw _⟩
    · cases hg
  · rename_i x y hx
    rw [hargs _ hx]
    cases hg
    simp only [builtin, List.map_toArray, List.map_cons, List.map_nil]
    simp only [qeval] at hq
    obtain ⟨u, hu, hq⟩ := obind hq
    obtain ⟨u', hu', hq⟩ := obind hq
    obtain ⟨cv, h1, h2⟩ := max_sound (P := P) (w := w) hq (ev_sound hr hu) (ev_sound hr hu')
    refine ⟨cv, run_value ?_, h2⟩
    unfold Builtin.max_
    simp only [List.foldlM_cons, List.foldlM_nil]
    rw [run_ok h1]; rfl
  · rename_i x y hx
    rw [hargs _ hx]
    cases hg
    simp only [builtin, List.map_toArray, List.map_cons, List.map_nil]
    simp only [qeval] at hq
    obtain ⟨u, hu, hq⟩ := obind hq
    obtain ⟨u', hu', hq⟩ := obind hq
    obtain ⟨cv, h1, h2⟩ := min_sound (P := P) (w := w) hq (ev_sound hr hu) (ev_sound hr hu')
    refine ⟨cv, run_value ?_, h2⟩
    unfold Builtin.min_
    simp only [List.foldlM_cons, List.foldlM_nil]
    rw [run_ok h1]; rfl
  · cases hg

theorem conv_sound (hs : St G H w) (hr : RRel G R a.tmps) {src dst : TypeId} {x : Operand} {e : QE} (hg : genConv P src dst x = some e) (hq : qeval R H e = some v) : Does P G w (convert src dst (a.eval x)) v := by
  unfold genConv at hg
  obtain ⟨ds, hsrc, hg1⟩ := bind_some' hg
  obtain ⟨dd, hdst, hg2⟩ := bind_some' hg1
  clear hg hg1
  unfold convert
  unfold Does
  rw [run_ok (run_underlying hsrc w), run_ok (run_underlying hdst w)]
  split at hg2
  · cases hg2
    simp only [qeval] at hq
    split at hq
    · rename_i k' n hx
      cases hq
      rw [VRel.raw_inv (ev_sound hr hx)]
      exact ⟨_, rfl, .raw _⟩
    · cases hq
  · cases hg2
    simp only [qeval] at hq
    split at hq
    · rename_i s hx
      cases hq
      rw [VRel.raw_inv (ev_sound hr hx)]
      exact ⟨_, rfl, .raw _⟩
    · cases hq
  · obtain ⟨de, he, hg3⟩ := bind_some' hg2
    clear hg2
    split at hg3
    · cases hg3
      simp only [qeval] at hq
      obtain ⟨u, hu, hq⟩ := obind hq
      split at hq
      · cases hq
      · rename_i hstr
        obtain ⟨es, hes, hq⟩ := obind hq
        obtain ⟨l, hl, rfl⟩ := omap hq
        obtain ⟨h1, a', n, c, h2⟩ := b2s_sound (P := P) hs (by simpa using hstr) hes hl (ev_sound hr hu)
        rw [h2] at h1 ⊢
        simp only []
        rw [run_ok (run_underlying he w)]
        exact ⟨_, h1, .raw _⟩
    · cases hg3
  · cases hg2

theorem sliceQ_sound (hr : RRel G R a.tmps) {t : TypeId} {x : Operand} {lo hi mx : Option Operand} {e : QE} (hg : genSlice P t x lo hi mx = some e) (hq : qeval R H e = some v) :
    Does P G w (Instr.sliceAt t (a.eval x) (lo.map a.eval) (hi.map a.eval) (mx.map a.eval)) v := by
  unfold genSlice at hg
  obtain ⟨d, hu, hg1⟩ := bind_some' hg
  clear hg
  split at hg1
  · rename_i n elem
    obtain ⟨sz, hsz, hg2⟩ := bind_some' hg1
    clear hg1
    split at hg2
    · rename_i hc
      simp only [Bool.and_eq_true, beq_iff_eq, Option.isNone_iff_eq_none] at hc
      obtain ⟨hc1, hc2⟩ := hc
      subst hc1
      cases hg2
      rw [hc2]
      simp only [qeval] at hq
      split at hq
      · rename_i b sz row col hx
        obtain ⟨l, hl, hq⟩ := obind hq
        obtain ⟨h, hh, hq⟩ := obind hq
        split at hq
        · rename_i hb
          cases hq
          have hv := ev_sound hr hx
          have hcv : a.eval x = .pointer (some ⟨b, row * sz + col, none⟩) := ptr_inv hv
          rw [hcv]
          unfold Does Instr.sliceAt
          rw [run_ok (run_underlying hu w)]
          simp only [Option.map_none]
          rw [run_ok (run_sureAddr _), run_ok (run_sliceBounds (mx := none) (mv := none) (evB_sound hr hl) (evB_sound hr hh) trivial (by simp) ⟨hb.1, hb.2.1, by simpa using hb.2.2, by simp⟩)]
          simp only []
          rw [run_ok (run_sizeOf hsz w)]
          refine ⟨_, rfl, ?_⟩
          simp only [Option.getD_none, Int.toNat_natCast, Nat.mul_one, add_none]
          have e1 : (h.getD n - l.getD 0).toNat = (h.getD n).toNat - (l.getD 0).toNat := by omega
          rw [e1]
          split
          · exact .sc b sz row _ _ _ _ (by omega) (fun hne => by omega)
          · exact .sc b sz row _ _ _ _ (by omega) (fun hne => by omega)
        · cases hq
      · cases hq
    · cases hg2
  · rename_i elem
    obtain ⟨sz, hsz, hg2⟩ := bind_some' hg1
    clear hg1
    cases hg2
    simp only [qeval] at hq
    split at hq
    · cases hq
    · rename_i hmx
      obtain ⟨u, hx, hq⟩ := obind hq
      obtain ⟨l, hl, hq⟩ := obind hq
      obtain ⟨h, hh, hq⟩ := obind hq
      obtain ⟨m, hm, hq⟩ := obind hq
      refine qSub_sound hu hsz (evB_sound hr hl) (evB_sound hr hh) (evB_sound hr hm) (fun hms => ?_) hq (ev_sound hr hx)
      cases mx with
      | none => cases hm; simp at hms
      | some mx =>
        cases hi with
        | none => simp at hmx
        | some hi =>
          obtain ⟨_, _, rfl⟩ := omap hh
          rfl
  · split at hg1
    · rename_i hmx
      simp only [Option.isNone_iff_eq_none] at hmx
      subst hmx
      cases hg1
      simp only [qeval] at hq
      obtain ⟨u, hx, hq⟩ := obind hq
      obtain ⟨l, hl, hq⟩ := obind hq
      obtain ⟨h, hh, hq⟩ := obind hq
      unfold qSubs at hq
      split at hq
      · rename_i s
        split at hq
        · rename_i hb
          cases hq
          rw [VRel.raw_inv (ev_sound hr hx)]
          unfold Does Instr.sliceAt
          rw [run_ok (run_underlying hu w)]
          simp only []
          unfold Instr.slice
          rw [run_ok (run_underlying hu w)]
          simp only [Option.map_none, Option.isSome_none, Bool.false_eq_true, if_false]
          rw [run_ok (run_sliceBounds (mx := none) (mv := none) (evB_sound hr hl) (evB_sound hr hh) trivial (by simp) ⟨hb.1, hb.2.1, by simpa using hb.2.2, by simp⟩)]
          exact ⟨_, rfl, .raw _⟩
        · cases hq
      · cases hq
    · cases hg1
  · cases hg1

theorem indexAddrQ_sound (hr : RRel G R a.tmps) {t : TypeId} {x i : Operand} {e : QE} (hg : genIndexAddr P t x i = some e) (hq : qeval R H e = some v) : Does P G w (Instr.indexAt t (a.eval x) (a.eval i)) v := by
  unfold genIndexAddr at hg
  obtain ⟨d, hu, hg1⟩ := bind_some' hg
  clear hg
  split at hg1
  · obtain ⟨sz, hsz, hg2⟩ := bind_some' hg1
    cases hg2
    simp only [qeval] at hq
    obtain ⟨u, hx, hq⟩ := obind hq
    obtain ⟨n, hn, hq⟩ := obind hq
    obtain ⟨c, hc, hn⟩ := obind hn
    obtain ⟨k, hk⟩ := aInt_inv hn (ev_sound hr hc)
    rw [hk]
    exact aIndex_sound hu hsz hq (ev_sound hr hx)
  · obtain ⟨sz, hsz, hg2⟩ := bind_some' hg1
    cases hg2
    simp only [qeval] at hq
    obtain ⟨u, hx, hq⟩ := obind hq
    obtain ⟨n, hn, hq⟩ := obind hq
    obtain ⟨c, hc, hn⟩ := obind hn
    obtain ⟨k, hk⟩ := aInt_inv hn (ev_sound hr hc)
    rw [hk]
    split at hq
    · rename_i hb
      exact iaa_sound hu hsz hb.1 hb.2 hq (ev_sound hr hx)
    · cases hq
  · cases hg1

theorem indexQ_sound (hr : RRel G R a.tmps) {t : TypeId} {x i : Operand} {e : QE} (hg : genIndex P t x i = some e) (hq : qeval R H e = some v) : Does P G w (Instr.index t (a.eval x) (a.eval i)) v := by
  unfold genIndex at hg
  obtain ⟨d, hu, hg1⟩ := bind_some' hg
  clear hg
  split at hg1
  · cases hg1
    simp only [qeval] at hq
    split at hq
    · rename_i s n hx hn
      obtain ⟨c, hc, hn⟩ := obind hn
      obtain ⟨k, hk⟩ := aInt_inv hn (ev_sound hr hc)
      rw [hk, VRel.raw_inv (ev_sound hr hx)]
      unfold Does Instr.index
      rw [run_ok (run_asIntOf k n)]
      simp only []
      rw [run_ok (run_underlying hu w)]
      simp only []
      split at hq
      · rename_i h0
        obtain ⟨b, hb, rfl⟩ := omap hq
        have hsz : n.toNat < s.size := by
          rcases Nat.lt_or_ge n.toNat s.data.size with h | h
          · exact h
          · simp [Array.getElem?_eq_none h] at hb
        have : s[n.toNat]? = some b := by
          rw [getElem?_pos s n.toNat hsz]
          rw [Array.getElem?_eq_getElem hsz] at hb
          exact hb
        rw [if_pos h0, this]
        exact ⟨_, rfl, .raw _⟩
      · cases hq
    · cases hq
  · cases hg1

theorem q_sound (hs : St G H w) (hr : RRel G R a.tmps) {o : Oper} {e : QE} (hg : genQ P o.op = some e) (hq : qeval R H e = some v) :
    ∃ cv, (execOp a.eval o).run P w = .ok (.value cv) w ∧ VRel G v cv := by
  have wrap : ∀ {s : Sem Value}, execOp a.eval o = (do let x ← s; pure (Next.value x)) → Does P G w s v → ∃ cv, (execOp a.eval o).run P w = .ok (.value cv) w ∧ VRel G v cv := by
    intro s he ⟨cv, h1, h2⟩
    exact ⟨cv, by rw [he]; exact run_value h1, h2⟩
  cases hop : o.op <;> rw [hop] at hg <;> simp only [genQ] at hg
  case move x =>
    cases hg
    exact ⟨a.eval x, by unfold execOp; rw [hop]; rfl, ev_sound hr hq⟩
  case assign x =>
    cases hg
    exact ⟨a.eval x, by unfold execOp; rw [hop]; rfl, ev_sound hr hq⟩
  case pick c x y =>
    cases hg
    simp only [qeval] at hq
    split at hq
    · rename_i hc
      have := VRel.raw_inv (ev_sound hr hc)
      exact ⟨a.eval x, by unfold execOp; rw [hop]; simp only [this]; rfl, ev_sound hr hq⟩
    · rename_i hc
      have := VRel.raw_inv (ev_sound hr hc)
      exact ⟨a.eval y, by unfold execOp; rw [hop]; simp only [this]; rfl, ev_sound hr hq⟩
    · cases hq
  case unOp op t x =>
    cases hg
    simp only [qeval] at hq
    obtain ⟨u, hu, hq⟩ := obind hq
    refine wrap (s := Op.unary op (a.eval x)) (by unfold execOp; rw [hop]) ?_
    have hv := ev_sound hr hu
    unfold aun at hq
    split at hq
    · rw [VRel.raw_inv hv]
      split at hq
      · cases hq; exact ⟨_, rfl, .raw _⟩
      · cases hq
    · rw [VRel.raw_inv hv]
      split at hq
      · cases hq; exact ⟨_, rfl, .raw _⟩
      · cases hq
    · cases hq
  case binOp op t x y yt =>
    refine wrap (s := do eqGuard op t x y (a.eval x) (a.eval y); binOp op t (a.eval x) (a.eval y)) (by unfold execOp; rw [hop]) ?_
    unfold genBin at hg
    split at hg
    · cases hg
    · cases hg
      simp only [qeval] at hq
      obtain ⟨u, hu, hq⟩ := obind hq
      obtain ⟨u', hu', hq⟩ := obind hq
      exact bin_sound (ev_sound hr hu) (ev_sound hr hu') hq
  case convert src dst x => exact wrap (by unfold execOp; rw [hop]) (conv_sound hs hr hg hq)
  case build t parts =>
    refine wrap (s := Instr.build t (parts.map fun (i, x) => (i, a.eval x))) (by unfold execOp; rw [hop]) ?_
    unfold genBuild at hg
    obtain ⟨zv, hz, hg1⟩ := bind_some' hg
    obtain ⟨ps, hps, hg2⟩ := bind_some' hg1
    obtain ⟨n, hn, hg3⟩ := bind_some' hg2
    split at hg3
    · rename_i hc
      simp only [Bool.and_eq_true] at hc
      cases hg3
      simp only [qeval] at hq
      obtain ⟨cs, hcs, rfl⟩ := omap hq
      exact build_sound hr hps hz hc.1 hcs
    · cases hg3
  case load t x =>
    obtain ⟨ag, hag, rfl⟩ := omap hg
    simp only [qeval] at hq
    obtain ⟨u, hu, hq⟩ := obind hq
    exact wrap (s := Instr.loadAt t (a.eval x)) (by unfold execOp; rw [hop]) (load_sound hs hag (ev_sound hr hu) hq)
  case nilCheck x =>
    cases hg
    simp only [qeval] at hq
    split at hq
    · rename_i b sz row col hx
      cases hq
      have hv := ev_sound hr hx
      have he := ptr_inv hv
      rw [he] at hv
      refine ⟨_, ?_, hv⟩
      unfold execOp
      rw [hop]
      simp only [he]
      rfl
    · rename_i e' col hx
      cases hq
      have hv := ev_sound hr hx
      obtain ⟨ad, he⟩ : ∃ ad, a.eval x = .pointer (some ad) := rp_inv hv
      rw [he] at hv
      refine ⟨_, ?_, hv⟩
      unfold execOp
      rw [hop]
      simp only [he]
      rfl
    · rename_i f cap hx
      cases hq
      have hv := ev_sound hr hx
      obtain ⟨vs, he⟩ : ∃ vs, a.eval x = .func (.func f) #[] vs := fn_inv hv
      rw [he] at hv
      refine ⟨_, ?_, hv⟩
      unfold execOp
      rw [hop]
      simp only [he]
      rfl
    · cases hq
  case slice t x lo hi mx => exact wrap (s := Instr.sliceAt t (a.eval x) (lo.map a.eval) (hi.map a.eval) (mx.map a.eval)) (by unfold execOp; rw [hop]) (sliceQ_sound hr hg hq)
  case fieldAddr s x f =>
    refine wrap (s := Instr.fieldAt s (a.eval x) f) (by unfold execOp; rw [hop]) ?_
    unfold genFieldAddr at hg
    obtain ⟨d, hu, hg1⟩ := bind_some' hg
    split at hg1
    · obtain ⟨fd, hfd, hg2⟩ := bind_some' hg1
      obtain ⟨n, hn, hg3⟩ := bind_some' hg2
      split at hg3
      · cases hg3
      · rename_i h0
        cases hg3
        simp only [qeval] at hq
        obtain ⟨u, hx, hq⟩ := obind hq
        exact fieldAt_sound hu hfd hn (by simpa using h0) hq (ev_sound hr hx)
    · cases hg1
  case field s x f =>
    refine wrap (s := Instr.field s (a.eval x) f) (by unfold execOp; rw [hop]) ?_
    unfold genField at hg
    obtain ⟨d, hu, hg1⟩ := bind_some' hg
    split at hg1
    · obtain ⟨fd, hfd, hg2⟩ := bind_some' hg1
      obtain ⟨ag, hag, hg3⟩ := bind_some' hg2
      cases hg3
      simp only [qeval] at hq
      obtain ⟨u, hx, hq⟩ := obind hq
      obtain ⟨cs, hcs, cv, h1, h2⟩ := aField_sound (w := w) hag hq (ev_sound hr hx)
      rw [hcs]
      refine ⟨cv, ?_, h2⟩
      unfold Instr.field
      rw [run_ok (run_underlying hu w)]
      simp only [hfd]
      rw [run_ok (show (asAgg (.agg cs)).run P w = .ok cs w from rfl)]
      exact h1
    · cases hg1
  case indexAddr t x i => exact wrap (s := Instr.indexAt t (a.eval x) (a.eval i)) (by unfold execOp; rw [hop]) (indexAddrQ_sound hr hg hq)
  case index t x i => exact wrap (s := Instr.index t (a.eval x) (a.eval i)) (by unfold execOp; rw [hop]) (indexQ_sound hr hg hq)
  case lookup t x k ok =>
    refine wrap (s := Instr.lookup t (a.eval x) (a.eval k) ok) (by unfold execOp; rw [hop]) ?_
    unfold genLookup at hg
    obtain ⟨⟨kk, e'⟩, hk, hg1⟩ := bind_some' hg
    obtain ⟨zv, hz, hg2⟩ := bind_some' hg1
    cases hg2
    simp only [qeval] at hq
    obtain ⟨u, hx, hq⟩ := obind hq
    obtain ⟨u', hx', hq⟩ := obind hq
    obtain ⟨key, hkey, hq⟩ := obind hq
    obtain ⟨es, hes, hq⟩ := omap hq
    exact lookup_sound hs hk hz hes hkey (ev_sound hr hx) (ev_sound hr hx') hq.symm
  case extract x i =>
    cases hg
    refine wrap (s := Instr.extract (a.eval x) i) (by unfold execOp; rw [hop]) ?_
    simp only [qeval] at hq
    split at hq
    · rename_i vs hx
      have hv := ev_sound hr hx
      generalize a.eval x = xv at hv
      cases hv with
      | tup _ us hn hh =>
        have hlt := lt_of_get? hq
        have : us[i]? = some (us[i]'(by omega)) := by simp
        refine ⟨_, ?_, hh i v _ hq this⟩
        simp only [Instr.extract, this]; rfl
    · cases hq
  case makeFunc fn first captured =>
    unfold genMkf at hg
    split at hg
    · rename_i f
      split at hg
      · rename_i h0
        cases hg
        simp only [qeval] at hq
        obtain ⟨l, hl, rfl⟩ := omap hq
        refine wrap (s := Instr.makeFunc (.func f) (first.map a.eval) (captured.map a.eval)) (by unfold execOp; rw [hop]) ⟨.func (.func f) (first.map a.eval) (captured.map a.eval), rfl, ?_⟩
        have h1 : first = #[] := by simpa using h0
        subst h1
        have hes := evs_sound hr hl
        rw [show (#[] : Array Operand).map a.eval = #[] by simp]
        refine .fn f l (captured.map a.eval) (by simpa using hes.1) (fun i c u hc hu => hes.2 i c u hc ?_)
        rw [← Array.getElem?_toList] at hu
        simpa using hu
      · cases hg
    · cases hg
  case call c =>
    split at hg
    · rename_i b hb
      exact builtinQ_sound hs hr hop hb hg hq
    · cases hg
  all_goals cases hg
end
end Heron
end

section
set_option linter.unusedSimpArgs false
set_option linter.unusedVariables false
namespace Heron
open Go

/-- What holds behind an operation that has given a value. -/
def Done (H : AHeap) (w : World) (G : Ghost) (K : AVal → AHeap → Prop) (cv : Value) (w' : World) : Prop :=
  ∃ G' v H', G.le G' ∧ St G' H' w' ∧ VRel G' v cv ∧ Fr H w H' w' ∧ K v H'

theorem Done.post {H : AHeap} {w : World} {G : Ghost} {K : AVal → AHeap → Prop} {cv : Value} {w' : World} (h : Done H w G K cv w') : Post H w G K (.returned cv) w' :=
  let ⟨G', v, H', a, b, c, d, e⟩ := h; ⟨cv, G', v, H', rfl, a, b, c, d, e⟩

/-- Elements, and their cells in a row. -/
structure RowRel (G : Ghost) (sz : Nat) (es : List AVal) (arr : Array Value) : Prop where
  size : arr.size = es.length * sz
  len : ∀ e, e ∈ es → e.cells.length = sz
  cell : ∀ (i j : Nat) (c : AVal) (v : Value), cellAt es i j = some c → arr[i * sz + j]? = some v → VRel G c v

theorem RowRel.mono {G G' : Ghost} (hG : G.le G') {sz : Nat} {es : List AVal} {arr : Array Value} (h : RowRel G sz es arr) : RowRel G' sz es arr :=
  ⟨h.size, h.len, fun i j c v a b => (h.cell i j c v a b).mono hG⟩

theorem RowRel.one {G : Ghost} {sz : Nat} {a : AVal} {arr : Array Value} (h : CRel G a.cells arr) (hl : a.cells.length = sz) : RowRel G sz [a] arr := by
  refine ⟨by rw [h.1, hl]; simp, fun e he => by simp at he; rw [he]; exact hl, fun i j c v hc hv => ?_⟩
  obtain ⟨e, h1, h2⟩ := cellAt_inv hc
  have := lt_of_get? h1
  simp at this
  subst this
  simp at h1
  subst h1
  exact h.2 j c v h2 (by simpa using hv)

theorem run_newRow {P : Program} {w : World} (T : TypeId) (arr : Array Value) : (newRow T arr).run P w = .ok ⟨w.heap.size, 0, none⟩ { w with heap := w.heap.push (.cells arr T) } := rfl

theorem row_new {G : Ghost} {H : AHeap} {w w' : World} (hs : St G H w) {sz : Nat} {es : List AVal} {arr rest : Array Value} {T : TypeId} {f : Nat × Nat} (hw : w'.heap = w.heap.push (.cells (arr ++ rest) T f)) (hr : RowRel G sz es arr)
    (hf : ∀ k, k < (arr ++ rest).size → ¬ (f.1 ≤ k ∧ k < f.2)) :
    St (G.addSh w.heap.size (arr ++ rest).size) (H.set w.heap.size (.rows sz es)) w' := by
  have hG := Ghost.le_addSh (G := G) (b := w.heap.size) (arr ++ rest).size hs.shfresh
  refine hs.newSh hw (.rows sz es (arr ++ rest) T f.1 f.2 hr.len (by simp [hr.size]) (fun i j c v hc hv => ?_) hf (by simp [Ghost.addSh]))
  refine (hr.cell i j c v hc ?_).mono hG
  obtain ⟨e, h1, h2⟩ := cellAt_inv hc
  have hj := lt_of_get? h2
  rw [hr.len e (List.mem_of_getElem? h1)] at hj
  have hk := idx_lt (lt_of_get? h1) hj
  rw [Array.getElem?_append_left (by rw [hr.size]; exact hk)] at hv
  exact hv

theorem alloc_done {G : Ghost} {H : AHeap} {w w' : World} (hs : St G H w) {sz : Nat} {es : List AVal} {arr rest : Array Value} {T : TypeId} {f : Nat × Nat} {K : AVal → AHeap → Prop} {cv : Value} {v : AVal} (hm : Sm w w')
    (hw : w'.heap = w.heap.push (.cells (arr ++ rest) T f)) (hr : RowRel G sz es arr) (hf : ∀ k, k < (arr ++ rest).size → ¬ (f.1 ≤ k ∧ k < f.2))
    (hv : VRel (G.addSh w.heap.size (arr ++ rest).size) v cv) (hk : K v (H.set w.heap.size (.rows sz es))) : Done H w G K cv w' :=
  ⟨_, v, _, Ghost.le_addSh _ hs.shfresh, row_new hs hw hr hf, hv, Fr.new hm hw, hk⟩

theorem vptr (G : Ghost) (sz b : Nat) : VRel G (mkPtr sz b) (.pointer (some ⟨b, 0, none⟩)) := by
  have h := VRel.ptr (G := G) b sz 0 0
  rw [Nat.zero_mul] at h
  exact h

theorem tyZ_spec {P : Program} {t : TypeId} {sz : Nat} {zv : AVal} (h : tyZ P t sz = some zv) : tyZero P t = some zv ∧ zv.cells.length = sz ∧ 0 < sz := by
  unfold tyZ at h
  obtain ⟨zz, hz, h1⟩ := bind_some' h
  split at h1
  · rename_i hc
    simp only [Bool.and_eq_true, beq_iff_eq, bne_iff_ne, ne_eq] at hc
    cases h1
    exact ⟨hz, hc.1, by omega⟩
  · cases h1

section
variable {P : Program} {G : Ghost} {H : AHeap} {w : World} {K : AVal → AHeap → Prop}

theorem alloc_sound (hs : St G H w) {t : TypeId} {sz : Nat} {zv : AVal} (hz : tyZ P t sz = some zv) (hk : allocK (mkPtr sz) (.rows sz [zv]) K H) :
    ∃ cv w', (Instr.alloc t true (.tuple #[])).run P w = .ok cv w' ∧ Done H w G K cv w' := by
  obtain ⟨hz1, hz2, hz3⟩ := tyZ_spec hz
  obtain ⟨z0, hz0, rfl⟩ := tyZero_run (w := w) hz1
  refine ⟨.pointer (some ⟨w.heap.size, 0, none⟩), { w with heap := w.heap.push (.cells z0.cells t) }, ?_, ?_⟩
  · unfold Instr.alloc
    rw [run_ok hz0]
    simp only [newVar]
    rw [run_ok (run_newRow t z0.cells)]
    rfl
  · refine alloc_done hs (arr := z0.cells) (rest := #[]) (T := t) (f := (0, 0)) (sz := sz) (es := [.ofValue z0]) ⟨rfl, rfl, rfl⟩ (by simp) (RowRel.one (cells_rel (vrel_ofValue G z0)) hz2) (fun k _ => by omega) ?_ (hk _ hs.fresh)
    exact vptr _ _ _

theorem box_sound (hs : St G H w) {t : TypeId} {sz : Nat} {a : AVal} {v : Value} (hv : VRel G a v) (hl : a.cells.length = sz) (hk : allocK (mkPtr sz) (.rows sz [a]) K H) :
    ∃ cv w', (Instr.box t v).run P w = .ok cv w' ∧ Done H w G K cv w' := by
  refine ⟨.pointer (some ⟨w.heap.size, 0, none⟩), { w with heap := w.heap.push (.cells v.cells t) }, ?_, ?_⟩
  · unfold Instr.box newVar
    rw [run_ok (run_newRow t v.cells)]
    rfl
  · exact alloc_done hs (arr := v.cells) (rest := #[]) (T := t) (f := (0, 0)) ⟨rfl, rfl, rfl⟩ (by simp) (RowRel.one (cells_rel hv) hl) (fun k _ => by omega) (vptr _ _ _) (hk _ hs.fresh)

/-- The zeros of a new row. -/
theorem zeros_rel {G : Ghost} {zv : AVal} {z0 : Value} {sz n : Nat} (h : VRel G zv z0) (hl : zv.cells.length = sz) (h0 : 0 < sz) :
    RowRel G sz (List.replicate n zv) ((Array.range (n * sz)).map (z0.cells[· % z0.cells.size]!)) := by
  have hc := cells_rel h
  refine ⟨by simp, fun e he => by rw [List.eq_of_mem_replicate he]; exact hl, fun i j c v hcc hv => ?_⟩
  obtain ⟨e, h1, h2⟩ := cellAt_inv hcc
  rw [List.getElem?_replicate] at h1
  split at h1
  · rename_i hi
    cases h1
    have hj := lt_of_get? h2
    rw [hl] at hj
    have hk := idx_lt hi hj
    have hs : z0.cells.size = sz := by rw [hc.1, hl]
    obtain ⟨d1, d2⟩ := div_mod_idx (i := i) hj
    simp [hk, hs, d2] at hv
    have hj' : j < z0.cells.size := by omega
    refine hc.2 j c v h2 ?_
    rw [← hv]
    simp [hj']
  · cases h1

theorem run_askRoom (n : Nat) : (askRoom n).run P w = .ok () w := by
  unfold askRoom
  split
  · rfl
  · rfl

theorem wrap_id {n : Int} (h0 : -9223372036854775808 ≤ n) (h1 : n < 9223372036854775808) : IntKind.i64.wrap n = n := by
  have hb : IntKind.i64.bits = 64 := rfl
  have hs : IntKind.i64.signed = true := rfl
  simp only [IntKind.wrap, hb, hs, Bool.true_and, decide_eq_true_eq]
  split <;> omega

theorem mks_sound (hs : St G H w) {t e : TypeId} (hu : P.underlying t = some (.slice e)) {sz bytes : Nat} (hsz : tySize P e = some sz) (hby : tyBytes P e = some bytes) (hb0 : bytes ≠ 0) {zv : AVal} (hz : tyZ P e sz = some zv)
    {l c : Int} {k k' : IntKind} (h1 : 0 ≤ l) (h2 : l ≤ c) (hroom : room c.toNat bytes) (hk : allocK (fun b => .sl b sz 0 l.toNat c.toNat) (.rows sz (List.replicate c.toNat zv)) K H) :
    ∃ cv w', (Instr.makeSlice t (.int k l) (.int k' c)).run P w = .ok cv w' ∧ Done H w G K cv w' := by
  obtain ⟨hz1, hz2, hz3⟩ := tyZ_spec hz
  obtain ⟨z0, hz0, rfl⟩ := tyZero_run (w := w) hz1
  unfold tyBytes at hby
  obtain ⟨i, hi, hbi⟩ := omap hby
  unfold room at hroom
  have hc40 : c.toNat ≤ 2 ^ 40 := Nat.le_trans (Nat.le_mul_of_pos_right _ (by omega)) hroom
  have hwl : IntKind.i64.wrap l = l := wrap_id (by omega) (by omega)
  have hwc : IntKind.i64.wrap c = c := wrap_id (by omega) (by omega)
  have hbig : ¬ ((bytes : Int) * c > 2 ^ 48) := by
    have : (bytes : Int) * c = ((c.toNat * bytes : Nat) : Int) := by
      rw [Int.natCast_mul, Int.toNat_of_nonneg (by omega), Int.mul_comm]
    rw [this]
    omega
  have hrow := zeros_rel (n := c.toNat) (vrel_ofValue G z0) hz2 hz3
  have hrun : (Instr.makeSlice t (.int k l) (.int k' c)).run P w = .ok (.slice (some ⟨w.heap.size, 0, none⟩) l.toNat c.toNat)
      { w with heap := w.heap.push (.cells ((Array.range (c.toNat * sz)).map (z0.cells[· % z0.cells.size]!)) e) } := by
    unfold Instr.makeSlice
    rw [run_ok (run_underlying hu w)]
    simp only []
    rw [run_ok (show (asInt (.int k l)).run P w = .ok l w from rfl), run_ok (show (asInt (.int k' c)).run P w = .ok c w from rfl), run_ok (run_typeInfo hi w)]
    simp only [hbi, hwl, hwc]
    have hcond : ((decide (c < 0) || decide ((bytes : Int) * c > 2 ^ 48)) || decide (l < 0) || decide (l > c)) = false := by
      simp only [Bool.or_eq_false_iff, decide_eq_false_iff_not]
      exact ⟨⟨⟨by omega, hbig⟩, by omega⟩, by omega⟩
    simp only [hcond, Bool.false_eq_true, if_false]
    rw [run_ok (run_askRoom _), run_ok (run_sizeOf hsz w)]
    by_cases hn : c.toNat * sz = 0
    · simp only [hn, if_true]
      rw [run_ok (run_pure P _ w)]
      have h0 : ∀ f : Nat → Value, (Array.range 0).map f = #[] := fun f => by simp
      rw [h0, h0, run_ok (run_newRow e _)]
      rfl
    · simp only [hn, if_false]
      rw [run_ok hz0, run_ok (run_pure P _ w), run_ok (run_newRow e _)]
      rfl
  refine ⟨_, _, hrun, ?_⟩
  refine alloc_done hs (arr := (Array.range (c.toNat * sz)).map (z0.cells[· % z0.cells.size]!)) (rest := #[]) (T := e) (f := (0, 0)) ⟨rfl, rfl, rfl⟩ (by simp) hrow (fun k _ => by omega) ?_ (hk _ hs.fresh)
  refine .sl _ _ _ _ _ 0 (c.toNat * sz) (by omega) (fun _ => by simp) ?_ (by simp)
  simp [Ghost.addSh]

end
end Heron
end

section
set_option linter.unusedSimpArgs false
set_option linter.unusedVariables false
namespace Heron
open Go

/-- A row of elements of which one has been laid anew. -/
theorem row_put {G : Ghost} {sz : Nat} {es : List AVal} {arr : Array Value} {i : Nat} {a : AVal} {us : Array Value} (h : RowRel G sz es arr) (hi : i < es.length) (ha : CRel G a.cells us) (hl : a.cells.length = sz) :
    RowRel G sz (es.set i a) (us.zipIdx.foldl (fun cs (p : Value × Nat) => cs.setIfInBounds (i * sz + p.2) p.1) arr) := by
  rw [← Array.foldl_toList, Array.toList_zipIdx]
  refine ⟨by rw [foldl_put_size]; simpa using h.size, fun e he => ?_, fun k j c v hc hv => ?_⟩
  · rcases List.mem_or_eq_of_mem_set he with he | rfl
    · exact h.len e he
    · exact hl
  · obtain ⟨e, h1, h2⟩ := cellAt_inv hc
    have hk := lt_of_get? h1
    simp at hk
    have hj := lt_of_get? h2
    have hel : e.cells.length = sz := by
      rcases List.mem_or_eq_of_mem_set (List.mem_of_getElem? h1) with he | rfl
      · exact h.len e he
      · exact hl
    rw [hel] at hj
    have hidx := idx_lt hk hj
    have hidx' := idx_lt hi hj
    have hsz := h.size
    rw [foldl_put] at hv
    simp only [Nat.add_zero, Array.length_toList, ha.1, hl] at hv
    by_cases hki : k = i
    · subst hki
      rw [if_pos (by omega)] at hv
      rw [List.getElem?_set_self hi] at h1
      cases h1
      rw [Nat.add_sub_cancel_left] at hv
      exact ha.2 j c v h2 (by simpa using hv)
    · rw [List.getElem?_set_ne (fun e => hki e.symm)] at h1
      rw [if_neg] at hv
      · exact h.cell k j c v (cellAt_some h1 h2) hv
      · intro hcon
        rcases Nat.lt_or_ge k i with hlt | hge
        · have := idx_lt hlt hj; omega
        · have : i < k := by omega
          have h3 : (i + 1) * sz ≤ k * sz := Nat.mul_le_mul_right sz this
          rw [Nat.add_mul, Nat.one_mul] at h3
          omega

theorem fillE_sound {G : Ghost} {sz : Nat} : ∀ {parts : List (Nat × Value)} {aparts : List (Nat × Option AVal)} {es es' : List AVal} {arr : Array Value},
    RowRel G sz es arr → parts.length = aparts.length →
    (∀ (k i i' : Nat) (v : Value) (o : Option AVal), parts[k]? = some (i, v) → aparts[k]? = some (i', o) → i = i' ∧ ∀ a, o = some a → VRel G a v) →
    fillE sz es aparts = some es' → ∃ arr', Instr.fill (fun i => some (i * sz, sz)) arr parts = some arr' ∧ RowRel G sz es' arr' ∧ es'.length = es.length
  | [], [], es, es', arr, h, _, _, hf => by cases hf; exact ⟨arr, rfl, h, rfl⟩
  | (i, v) :: parts, (i', o) :: aparts, es, es', arr, h, hl, hp, hf => by
    obtain ⟨rfl, h2⟩ := hp 0 i i' v o rfl rfl
    cases o with
    | none => simp [fillE] at hf
    | some a =>
      simp only [fillE] at hf
      split at hf
      · rename_i hc
        have hv := cells_rel (h2 a rfl)
        have hput := row_put h hc.2 hv hc.1
        obtain ⟨arr', e, hr, hn⟩ := fillE_sound hput (by simpa using hl) (fun k i i' v o a b => hp (k + 1) i i' v o a b) hf
        refine ⟨arr', ?_, hr, by rw [hn]; simp⟩
        unfold Instr.fill
        simp only []
        have hs := h.size
        have h3 : i * sz + sz ≤ es.length * sz := by
          have : (i + 1) * sz ≤ es.length * sz := Nat.mul_le_mul_right sz hc.2
          rw [Nat.add_mul, Nat.one_mul] at this
          exact this
        have hvs : v.cells.size = sz := by rw [hv.1, hc.1]
        rw [if_neg (by simp only [hvs, hs, bne_self_eq_false, Bool.false_or, decide_eq_true_eq, ne_eq, not_true_eq_false, decide_false]; omega)]
        exact e
      · cases hf

section
variable {P : Program} {G : Ghost} {H : AHeap} {w : World} {K : AVal → AHeap → Prop} {R : Regs} {a : Act}

theorem bsl_sound (hs : St G H w) (hr : RRel G R a.tmps) {t : TypeId} {n : Nat} {parts : Array (Nat × Operand)} {i : AI} (hg : genBsl P t n parts = some i) (hst : step P K R H i) :
    ∃ cv w', (Instr.buildSlice t n (parts.map fun (i, x) => (i, a.eval x))).run P w = .ok cv w' ∧ Done H w G K cv w' := by
  unfold genBsl at hg
  obtain ⟨d, hu, hg1⟩ := bind_some' hg
  split at hg1
  · rename_i e
    obtain ⟨sz, hsz, hg2⟩ := bind_some' hg1
    obtain ⟨zv, hz, hg3⟩ := bind_some' hg2
    obtain ⟨hz1, hz2, hz3⟩ := tyZ_spec hz
    obtain ⟨z0, hz0, rfl⟩ := tyZero_run (w := w) hz1
    split at hg3
    · cases hg3
    · rename_i hbig
      cases hg3
      simp only [step] at hst
      split at hst
      · rename_i es hes
        have hrow0 := zeros_rel (n := n) (vrel_ofValue G z0) hz2 hz3
        obtain ⟨arr, hfill, hrow, hlen⟩ := fillE_sound (parts := (parts.map fun (i, x) => (i, a.eval x)).toList) hrow0 (by simp) (fun k i i' v o hk ho => by
          simp only [Array.toList_map, List.getElem?_map, List.map_map] at hk ho
          cases hp : parts.toList[k]? with
          | none => simp [hp] at hk
          | some p =>
            simp [hp] at hk ho
            obtain ⟨rfl, rfl⟩ := hk
            obtain ⟨rfl, rfl⟩ := ho
            exact ⟨rfl, fun a' ha' => ev_sound hr ha'⟩) hes
        have hes_len : es.length = n := by rw [hlen]; simp
        have hz00 : (if n * sz = 0 then (pure #[] : Sem (Array Value)) else do pure (← zeroValue e).cells).run P w = .ok (if n * sz = 0 then #[] else z0.cells) w := by
          split
          · rfl
          · rw [run_ok hz0]; rfl
        have harr : (Array.range (n * sz)).map ((if n * sz = 0 then #[] else z0.cells)[· % (if n * sz = 0 then #[] else z0.cells).size]!) = (Array.range (n * sz)).map (z0.cells[· % z0.cells.size]!) := by
          by_cases h0 : n * sz = 0
          · rw [h0]; simp
          · rw [if_neg h0]
        refine ⟨.slice (some ⟨w.heap.size, 0, none⟩) n n, { w with heap := w.heap.push (.cells arr e) }, ?_, ?_⟩
        · unfold Instr.buildSlice
          rw [run_ok (run_underlying hu w)]
          simp only []
          rw [run_ok (run_sizeOf hsz w), if_neg hbig]
          by_cases h0 : n * sz = 0
          · simp only [h0, if_true]
            rw [run_ok (run_pure P _ w)]
            have hf : ∀ f : Nat → Value, (Array.range 0).map f = #[] := fun f => by simp
            rw [h0, hf] at hfill
            rw [hf, hfill]
            simp only []
            rw [run_ok (run_newRow e arr)]
            rfl
          · simp only [h0, if_false]
            rw [run_ok hz0, run_ok (run_pure P _ w), hfill]
            simp only []
            rw [run_ok (run_newRow e arr)]
            rfl
        · refine alloc_done hs (arr := arr) (rest := #[]) (T := e) (f := (0, 0)) ⟨rfl, rfl, rfl⟩ (by simp) hrow (fun k _ => by omega) ?_ (hst _ hs.fresh)
          refine .sl _ _ _ _ _ 0 arr.size (Nat.le_refl _) (fun _ => by simp) (by simp [Ghost.addSh]) ?_
          rw [hrow.size, hes_len, Nat.zero_add]
          exact Nat.le_refl _
      · exact hst.elim
  · cases hg1

/-! ### Stores -/
theorem cellOk_single {G : Ghost} {c : AVal} {v : Value} (hc : c.cellOk = true) (h : VRel G c v) : (∀ x, v ≠ .agg x) ∧ ∀ x, v ≠ .tuple x := by
  cases c with
  | raw u => rw [VRel.raw_inv h]; cases u <;> simp [AVal.cellOk] at hc ⊢
  | agg => simp [AVal.cellOk] at hc
  | tup => simp [AVal.cellOk] at hc
  | junk => simp [AVal.cellOk] at hc
  | _ => cases h <;> simp

theorem run_store {w : World} {b off : Nat} {arr : Array Value} {T lo hi : Nat} (hb : w.heap[b]? = some (.cells arr T (lo, hi))) (ho : off < arr.size) (hf : ¬ (lo ≤ off ∧ off < hi)) {v : Value}
    (h1 : ∀ x, v ≠ .agg x) (h2 : ∀ x, v ≠ .tuple x) : (store ⟨b, off, none⟩ v).run P w = .ok () (w.setCell ⟨b, off, none⟩ v) := by
  have hc : w.cell? ⟨b, off, none⟩ = some arr[off] := by rw [cell?_eq hb]; simp [ho]
  have hz : w.frozen? ⟨b, off, none⟩ = false := by
    simp only [World.frozen?, hb]
    simp
    intro h
    rcases Nat.lt_or_ge off hi with h' | h'
    · exact absurd ⟨h, h'⟩ hf
    · exact h'
  unfold store
  cases v <;> first | (exact absurd rfl (h1 _)) | (exact absurd rfl (h2 _)) | simp [Sem.run, hc, hz]

theorem setCell_heap {w : World} {b off : Nat} {arr : Array Value} {T lo hi : Nat} (hb : w.heap[b]? = some (.cells arr T (lo, hi))) (v : Value) (c : Nat) :
    (w.setCell ⟨b, off, none⟩ v).heap[c]? = if c = b then some (.cells (arr.setIfInBounds off v) T (lo, hi)) else w.heap[c]? := by
  unfold World.setCell
  simp only [Array.getElem?_modify]
  by_cases h : c = b
  · subst h; simp [hb]
  · rw [if_neg (fun e => h e.symm), if_neg h]

theorem run_storeCells : ∀ (vs : List Value) {w : World} {b off i : Nat} {arr : Array Value} {T lo hi : Nat}, w.heap[b]? = some (.cells arr T (lo, hi)) → off + i + vs.length ≤ arr.size →
    (∀ k, k < arr.size → ¬ (lo ≤ k ∧ k < hi)) → (∀ v, v ∈ vs → (∀ x, v ≠ .agg x) ∧ ∀ x, v ≠ .tuple x) →
    ∃ w' arr', (storeCells ⟨b, off, none⟩ vs i).run P w = .ok () w' ∧ Sm w w' ∧ arr'.size = arr.size ∧ (∀ c, w'.heap[c]? = if c = b then some (.cells arr' T (lo, hi)) else w.heap[c]?) ∧
      ∀ k, arr'[k]? = if off + i ≤ k ∧ k < off + i + vs.length then vs[k - (off + i)]? else arr[k]?
  | [], w, b, off, i, arr, T, lo, hi, hb, _, _, _ => by
    refine ⟨w, arr, rfl, Sm.refl w, rfl, fun c => ?_, fun k => ?_⟩
    · split
      · rename_i h; rw [h, hb]
      · rfl
    · rw [if_neg (by simp)]
  | v :: vs, w, b, off, i, arr, T, lo, hi, hb, hn, hf, hv => by
    simp only [List.length_cons] at hn
    obtain ⟨h1, h2⟩ := hv v (by simp)
    have hst := run_store (P := P) hb (off := off + i) (by omega) (hf _ (by omega)) h1 h2
    have hheap := setCell_heap (off := off + i) hb v
    obtain ⟨w', arr', h3, h4, h5, h6, h7⟩ := run_storeCells vs (w := w.setCell ⟨b, off + i, none⟩ v) (b := b) (off := off) (i := i + 1) (arr := arr.setIfInBounds (off + i) v) (T := T) (lo := lo) (hi := hi) (by rw [hheap, if_pos rfl])
      (by simp; omega) (fun k hk => hf k (by simpa using hk)) (fun u hu => hv u (List.mem_cons_of_mem _ hu))
    refine ⟨w', arr', ?_, Sm.trans (Sm.mk rfl rfl rfl : Sm w (w.setCell ⟨b, off + i, none⟩ v)) h4, by simpa using h5, fun c => ?_, fun k => ?_⟩
    · unfold storeCells
      rw [add_none, run_ok hst]
      exact h3
    · rw [h6, hheap]
      split <;> rfl
    · rw [h7]
      simp only [List.length_cons]
      by_cases hk : k = off + i
      · subst hk
        rw [if_neg (by omega), if_pos (by omega), Nat.sub_self]
        simp [show off + i < arr.size by omega]
      · rw [Array.getElem?_setIfInBounds_ne (fun e => hk e.symm)]
        by_cases hr : off + (i + 1) ≤ k ∧ k < off + (i + 1) + vs.length
        · rw [if_pos hr, if_pos (by omega), show k - (off + i) = (k - (off + (i + 1))) + 1 by omega]
          rfl
        · rw [if_neg hr, if_neg (by omega)]

/-- An owned row of which some elements have been laid anew. -/
theorem rows_done (hs : St G H w) {b sz : Nat} {es es' : List AVal} {arr arr' : Array Value} {T lo hi : Nat} {w' : World} {cv : Value} {v : AVal} (hb : H b = some (.rows sz es)) (hob : w.heap[b]? = some (.cells arr T (lo, hi)))
    (hm : Sm w w') (hsz : arr'.size = arr.size) (hw : ∀ c, w'.heap[c]? = if c = b then some (.cells arr' T (lo, hi)) else w.heap[c]?)
    (hlen : ∀ e, e ∈ es' → e.cells.length = sz) (hn : es'.length * sz ≤ arr.size) (hcell : ∀ (i j : Nat) (c : AVal) (u : Value), cellAt es' i j = some c → arr'[i * sz + j]? = some u → VRel G c u)
    (hv : VRel G v cv) (hk : K v (H.set b (.rows sz es'))) : Done H w G K cv w' := by
  obtain ⟨ob, hob', hr⟩ := hs.own b _ hb
  rw [hob] at hob'
  cases hob'
  cases hr with
  | rows _ _ _ _ _ _ _ _ _ hf hsh =>
    refine ⟨G, v, _, G.le_refl, hs.set hb hob hw (fun x T' f' e => by cases e; exact ⟨_, _, _, rfl, hsz⟩) ?_, hv, Fr.set hm hb (lt_of_heap hob) hw, hk⟩
    exact .rows sz es' arr' T lo hi hlen (by rw [hsz]; exact hn) hcell (fun k hk => hf k (by omega)) (by rw [hsz]; exact hsh)

theorem own_row (hs : St G H w) {b sz : Nat} {es : List AVal} (hb : H b = some (.rows sz es)) : ∃ arr T lo hi, w.heap[b]? = some (.cells arr T (lo, hi)) ∧ (∀ e, e ∈ es → e.cells.length = sz) ∧ es.length * sz ≤ arr.size ∧
    (∀ (i j : Nat) (c : AVal) (v : Value), cellAt es i j = some c → arr[i * sz + j]? = some v → VRel G c v) ∧ (∀ k, k < arr.size → ¬ (lo ≤ k ∧ k < hi)) ∧ G.sh b = some arr.size := by
  obtain ⟨ob, hob, hr⟩ := hs.own b _ hb
  cases hr with
  | rows _ _ arr T lo hi hsz hn h hf hsh => exact ⟨arr, T, lo, hi, hob, hsz, hn, h, hf, hsh⟩

theorem updCell_spec {e v e' : AVal} {sz col n : Nat} (he : e.cells.length = sz) (h : updCell e sz col n v = some e') :
    v.cells.length = n ∧ col + n ≤ sz ∧ (∀ c, c ∈ v.cells → c.cellOk = true) ∧ e'.cells.length = sz ∧ ∀ (j : Nat), e'.cells[j]? = if col ≤ j ∧ j < col + n then v.cells[j - col]? else e.cells[j]? := by
  unfold updCell at h
  split at h
  · rename_i hc
    obtain ⟨hn, hok⟩ := hc
    rw [List.all_eq_true] at hok
    split at h
    · rename_i h0
      obtain ⟨rfl, rfl⟩ := h0
      cases h
      refine ⟨hn, by omega, hok, hn, fun j => ?_⟩
      by_cases hj : j < n
      · rw [if_pos (by omega)]; rfl
      · rw [if_neg (by omega), List.getElem?_eq_none (by omega), List.getElem?_eq_none (by omega)]
    · split at h
      · rename_i hle
        cases h
        refine ⟨hn, by omega, hok, by show (setAt e.cells col v.cells).length = sz; rw [setAt_length (by omega)]; exact he, fun j => ?_⟩
        show (setAt e.cells col v.cells)[j]? = _
        rw [setAt_get (by omega), hn]
      · cases h
  · cases h

theorem storeH_sound (hs : St G H w) {b szb row col n : Nat} {v : AVal} {us : Array Value} (hvc : CRel G v.cells us) {H' : AHeap} (hst : storeH H n (.ptr b szb row col) v = some H') :
    us.size = n ∧ ∃ w', (storeCells ⟨b, row * szb + col, none⟩ us.toList).run P w = .ok () w' ∧ ∀ cv u, VRel G u cv → K u H' → Done H w G K cv w' := by
  simp only [storeH] at hst
  split at hst
  · rename_i sz' es hb
    split at hst
    · rename_i e
      subst e
      cases he : es[row]? with
      | none => simp [he] at hst
      | some e =>
        simp only [he, Option.bind_some] at hst
        obtain ⟨e', hup, rfl⟩ := omap hst
        obtain ⟨arr, T, lo, hi, hob, hlen, hn, hcell, hf, hsh⟩ := own_row hs hb
        have hel := hlen e (List.mem_of_getElem? he)
        obtain ⟨u1, u2, u3, u4, u5⟩ := updCell_spec hel hup
        have hrow := lt_of_get? he
        have hidx : row * szb + (col + n) ≤ es.length * szb := by
          have : (row + 1) * szb ≤ es.length * szb := Nat.mul_le_mul_right szb hrow
          rw [Nat.add_mul, Nat.one_mul] at this
          omega
        obtain ⟨w', arr', h3, h4, h5, h6, h7⟩ := run_storeCells (P := P) us.toList (w := w) (b := b) (off := row * szb + col) (i := 0) hob (by simp [hvc.1, u1]; omega) hf (fun u hu => by
          obtain ⟨k, hk, rfl⟩ := List.mem_iff_getElem.1 hu
          have hk' : k < v.cells.length := by rw [← hvc.1]; simpa using hk
          exact cellOk_single (u3 _ (List.getElem_mem hk')) (hvc.2 k v.cells[k] _ (by simp [hk']) (by simp)))
        refine ⟨by rw [hvc.1, u1], w', h3, fun cv u hu hk => ?_⟩
        refine rows_done hs hb hob h4 h5 h6 (fun e2 he2 => ?_) (by simpa using hn) (fun i j c u hc hu => ?_) hu hk
        · rcases List.mem_or_eq_of_mem_set he2 with h | rfl
          · exact hlen e2 h
          · exact u4
        · obtain ⟨e2, g1, g2⟩ := cellAt_inv hc
          have hj := lt_of_get? g2
          have hi' := lt_of_get? g1
          simp at hi'
          have hel2 : e2.cells.length = szb := by
            rcases List.mem_or_eq_of_mem_set (List.mem_of_getElem? g1) with h | rfl
            · exact hlen e2 h
            · exact u4
          rw [hel2] at hj
          rw [h7] at hu
          simp only [Nat.add_zero, Array.length_toList, hvc.1, u1] at hu
          by_cases hir : i = row
          · subst hir
            rw [List.getElem?_set_self hrow] at g1
            cases g1
            rw [u5] at g2
            by_cases hjc : col ≤ j ∧ j < col + n
            · rw [if_pos hjc] at g2
              rw [if_pos (by omega)] at hu
              exact hvc.2 _ _ _ g2 (by rw [show i * szb + j - (i * szb + col) = j - col by omega] at hu; simpa using hu)
            · rw [if_neg hjc] at g2
              rw [if_neg (by omega)] at hu
              exact hcell i j c u (cellAt_some he g2) hu
          · rw [List.getElem?_set_ne (fun e => hir e.symm)] at g1
            rw [if_neg] at hu
            · exact hcell i j c u (cellAt_some g1 g2) hu
            · intro hcon
              rcases Nat.lt_or_ge i row with hlt | hge
              · have := idx_lt hlt hj; omega
              · have h1 : row < i := by omega
                have h3 : (row + 1) * szb ≤ i * szb := Nat.mul_le_mul_right szb h1
                rw [Nat.add_mul, Nat.one_mul] at h3
                omega
    · cases hst
  · cases hst

theorem store_sound (hs : St G H w) {t : TypeId} {sz : Nat} (hsz : tySize P t = some sz) {p v : AVal} {pv vv : Value} (hp : VRel G p pv) (hv : VRel G v vv) (hst : andH (storeH H sz p v) K undefA) :
    ∃ w', (Instr.storeAt t pv vv).run P w = .ok () w' ∧ Done H w G K undef w' := by
  cases hH : storeH H sz p v with
  | none => rw [hH] at hst; exact hst.elim
  | some H' =>
    rw [hH] at hst
    cases p with
    | ptr b szb row col =>
      have he := ptr_inv hp
      subst he
      obtain ⟨h1, w', h2, h3⟩ := storeH_sound (P := P) (K := K) hs (cells_rel hv) hH
      refine ⟨w', ?_, h3 _ _ (.raw undef) hst⟩
      unfold Instr.storeAt storeVar
      rw [run_ok (run_sureAddr _), run_ok (run_sizeOf hsz w), if_neg (by rw [h1]; simp)]
      exact h2
    | _ => simp [storeH] at hH

end
end Heron
end

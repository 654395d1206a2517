/- Maps: making, writing, ranging; a slice against nil. A map's iterator, and a slice against nil. Orders of a region's operations: what a drawn order is, and when one order stands for another. -/
import Derived.Test.YtaeanhonfoakeaaK5
section
set_option linter.unusedSimpArgs false
set_option linter.unusedVariables false
namespace Heron
open Go

theorem sameBits_ints : ∀ l : List Int, ((l.map (Value.int .i64)).zip (l.map (Value.int .i64))).all (fun (x, y) => Instr.sameBits 9999 x y) = true
  | [] => rfl
  | n :: r => by
    simp only [List.map_cons, List.zip_cons_cons, List.all_cons, sameBits_ints r, Bool.and_true]
    simp [Instr.sameBits]

theorem sameBits_fit {kk : KK} {k : Value} (h : keyFit kk k) : Instr.sameBits 10000 k k = true := by
  cases kk with
  | int k0 => obtain ⟨n, rfl⟩ := h; simp [Instr.sameBits]
  | bool => obtain ⟨n, rfl⟩ := h; simp [Instr.sameBits]
  | ints n =>
    obtain ⟨l, hl, rfl⟩ := h
    rw [show (10000 : Nat) = 9999 + 1 from rfl]
    simp only [Instr.sameBits, beq_self_eq_true, Bool.true_and]
    exact sameBits_ints l

theorem keyEq_fit {kk : KK} {k m : Value} (hk : keyFit kk k) (hm : keyFit kk m) (h : keyEq k m = true) : m = k := by
  cases kk with
  | int k0 =>
    obtain ⟨n, rfl⟩ := hk
    obtain ⟨n', rfl⟩ := hm
    simp [keyEq] at h
    rw [h]
  | bool =>
    obtain ⟨n, rfl⟩ := hk
    obtain ⟨n', rfl⟩ := hm
    simp [keyEq] at h
    rw [h]
  | ints n =>
    obtain ⟨l, hl, rfl⟩ := hk
    obtain ⟨l', hl', rfl⟩ := hm
    rw [keyEq_ints] at h
    simp at h
    rw [h]

theorem run_stays {P : Program} {w : World} {kk : KK} {k : Value} (h : keyFit kk k) : (Instr.keyThatStays k k).run P w = .ok k w := by
  unfold Instr.keyThatStays
  simp only [sameBits_fit h, if_true]
  rfl

theorem ERel.push {G : Ghost} {es : List AEnt} {ms : List MapEntry} (h : ERel G es ms) {k u : Value} {a : AVal} {c : Nat} (hv : VRel G a u) : ERel G (es ++ [⟨k, a, c⟩]) (ms ++ [{ key := k, val := u, born := c }]) := by
  refine ⟨by simp [h.1], fun i e m he hm => ?_⟩
  by_cases hi : i < es.length
  · rw [List.getElem?_append_left hi] at he
    rw [List.getElem?_append_left (by rw [h.1]; exact hi)] at hm
    exact h.2 i e m he hm
  · rw [List.getElem?_append_right (by omega)] at he
    rw [List.getElem?_append_right (by rw [h.1]; omega), h.1] at hm
    have := lt_of_get? he
    simp at this
    rw [show i - es.length = 0 by omega] at he hm
    simp at he hm
    subst he; subst hm
    exact ⟨rfl, rfl, hv⟩

theorem ERel.mk_cons {G : Ghost} {e : AEnt} {es : List AEnt} {m : MapEntry} {ms : List MapEntry} (h : e.key = m.key ∧ e.born = m.born ∧ VRel G e.val m.val) (h2 : ERel G es ms) : ERel G (e :: es) (m :: ms) := by
  refine ⟨by simp [h2.1], fun i e' m' he hm => ?_⟩
  cases i with
  | zero => simp at he hm; subst he; subst hm; exact h
  | succ i => exact h2.2 i e' m' he hm

theorem ERel.setKey {G : Ghost} {kk : KK} {k u v : Value} {a : AVal} (hk : keyFit kk k) (hv : VRel G a u) : ∀ {es : List AEnt} {ms : List MapEntry} {i j : Nat}, ERel G es ms → (∀ m, m ∈ ms → keyFit kk m.key) →
    cIdx k ms i = some (j, v) → i ≤ j ∧ ERel G (mSet k a es) (ms.modify (j - i) fun e => { e with key := k, val := u })
  | [], [], i, j, _, _, h => by simp [cIdx] at h
  | [], m :: ms, i, j, h, _, _ => by have := h.1; simp at this
  | e :: es, [], i, j, h, _, _ => by have := h.1; simp at this
  | e :: es, m :: ms, i, j, h, hf, hc => by
    obtain ⟨⟨h1, h2, h3⟩, h4⟩ := h.cons
    unfold cIdx at hc
    unfold mSet
    rw [h1]
    cases hkm : keyEq k m.key with
    | true =>
      simp only [hkm, if_true] at hc
      cases hc
      simp only [if_true, Nat.sub_self, List.modify_zero_cons, Nat.le_refl, true_and]
      exact ERel.mk_cons ⟨keyEq_fit hk (hf m (by simp)) hkm, h2, hv⟩ h4
    | false =>
      simp only [hkm, Bool.false_eq_true, if_false] at hc
      obtain ⟨a1, a2⟩ := ERel.setKey hk hv h4 (fun m hm => hf m (List.mem_cons_of_mem _ hm)) hc
      refine ⟨by omega, ?_⟩
      rw [show j - i = (j - (i + 1)) + 1 by omega]
      simp only [Bool.false_eq_true, if_false, List.modify_succ_cons]
      exact ERel.mk_cons ⟨h1, h2, h3⟩ a2

theorem ERel.sameKey {G : Ghost} {kk : KK} {k v : Value} (hk : keyFit kk k) : ∀ {es : List AEnt} {ms : List MapEntry} {i j : Nat}, ERel G es ms → (∀ m, m ∈ ms → keyFit kk m.key) →
    cIdx k ms i = some (j, v) → i ≤ j ∧ ERel G es (ms.modify (j - i) fun e => { e with key := k })
  | [], [], i, j, _, _, h => by simp [cIdx] at h
  | [], m :: ms, i, j, h, _, _ => by have := h.1; simp at this
  | e :: es, [], i, j, h, _, _ => by have := h.1; simp at this
  | e :: es, m :: ms, i, j, h, hf, hc => by
    obtain ⟨⟨h1, h2, h3⟩, h4⟩ := h.cons
    unfold cIdx at hc
    cases hkm : keyEq k m.key with
    | true =>
      simp only [hkm, if_true] at hc
      cases hc
      simp only [Nat.sub_self, List.modify_zero_cons, Nat.le_refl, true_and]
      exact ERel.mk_cons ⟨by rw [h1]; exact keyEq_fit hk (hf m (by simp)) hkm, h2, h3⟩ h4
    | false =>
      simp only [hkm, Bool.false_eq_true, if_false] at hc
      obtain ⟨a1, a2⟩ := ERel.sameKey hk h4 (fun m hm => hf m (List.mem_cons_of_mem _ hm)) hc
      refine ⟨by omega, ?_⟩
      rw [show j - i = (j - (i + 1)) + 1 by omega]
      simp only [List.modify_succ_cons]
      exact ERel.mk_cons ⟨h1, h2, h3⟩ a2

theorem ERel.delKey {G : Ghost} {k v : Value} : ∀ {es : List AEnt} {ms : List MapEntry} {i j : Nat}, ERel G es ms →
    cIdx k ms i = some (j, v) → i ≤ j ∧ ERel G (mDel k es) (ms.eraseIdx (j - i))
  | [], [], i, j, _, h => by simp [cIdx] at h
  | [], m :: ms, i, j, h, _ => by have := h.1; simp at this
  | e :: es, [], i, j, h, _ => by have := h.1; simp at this
  | e :: es, m :: ms, i, j, h, hc => by
    obtain ⟨⟨h1, h2, h3⟩, h4⟩ := h.cons
    unfold cIdx at hc
    unfold mDel
    rw [h1]
    cases hkm : keyEq k m.key with
    | true =>
      simp only [hkm, if_true] at hc
      cases hc
      simp only [if_true, Nat.sub_self, Nat.le_refl, true_and, List.eraseIdx_cons_zero]
      exact h4
    | false =>
      simp only [hkm, Bool.false_eq_true, if_false] at hc
      obtain ⟨a1, a2⟩ := ERel.delKey h4 hc
      refine ⟨by omega, ?_⟩
      rw [show j - i = (j - (i + 1)) + 1 by omega]
      simp only [Bool.false_eq_true, if_false, List.eraseIdx_cons_succ]
      exact ERel.mk_cons ⟨h1, h2, h3⟩ a2

theorem ERel.noKey {G : Ghost} {k : Value} : ∀ {es : List AEnt} {ms : List MapEntry} {i : Nat}, ERel G es ms → cIdx k ms i = none → mDel k es = es
  | [], [], i, _, _ => rfl
  | [], m :: ms, i, h, _ => by have := h.1; simp at this
  | e :: es, [], i, h, _ => by have := h.1; simp at this
  | e :: es, m :: ms, i, h, hc => by
    obtain ⟨⟨h1, h2, h3⟩, h4⟩ := h.cons
    unfold cIdx at hc
    unfold mDel
    rw [h1]
    cases hkm : keyEq k m.key with
    | true => simp [hkm] at hc
    | false =>
      simp only [hkm, Bool.false_eq_true, if_false] at hc
      simp only [Bool.false_eq_true, if_false, ERel.noKey h4 hc]

theorem ERel.setBorn {G : Ghost} {s : Int} {u : Value} {a : AVal} (hv : VRel G a u) : ∀ {es : List AEnt} {ms : List MapEntry}, ERel G es ms →
    (∃ e, e ∈ es ∧ (e.born : Int) = s) → ∃ j, ms.findIdx? (fun e => (e.born : Int) == s) = some j ∧ ERel G (mSetBorn s a es) (ms.modify j fun e => { e with val := u })
  | [], [], _, h => by obtain ⟨e, he, _⟩ := h; cases he
  | [], m :: ms, h, _ => by have := h.1; simp at this
  | e :: es, [], h, _ => by have := h.1; simp at this
  | e :: es, m :: ms, h, hc => by
    obtain ⟨⟨h1, h2, h3⟩, h4⟩ := h.cons
    rw [List.findIdx?_cons]
    unfold mSetBorn
    by_cases hkm : (e.born : Int) = s
    · rw [if_pos hkm]
      have : ((m.born : Int) == s) = true := by rw [← h2]; simpa using hkm
      simp only [this, if_true]
      exact ⟨0, rfl, by simp only [List.modify_zero_cons]; exact ERel.mk_cons ⟨h1, h2, hv⟩ h4⟩
    · rw [if_neg hkm]
      have hf : ((m.born : Int) == s) = false := by rw [← h2]; simpa using hkm
      obtain ⟨x, hx, hxs⟩ := hc
      have hx' : x ∈ es := by
        rcases List.mem_cons.1 hx with rfl | hx
        · exact absurd hxs hkm
        · exact hx
      obtain ⟨j, j1, j2⟩ := ERel.setBorn hv h4 ⟨x, hx', hxs⟩
      simp only [hf, Bool.false_eq_true, if_false, j1, Option.map_some]
      exact ⟨j + 1, rfl, by simp only [List.modify_succ_cons]; exact ERel.mk_cons ⟨h1, h2, h3⟩ j2⟩

theorem ERel.fits {G : Ghost} {kk : KK} {es : List AEnt} {ms : List MapEntry} (h : ERel G es ms) (hf : ∀ e, e ∈ es → keyFit kk e.key) : ∀ m, m ∈ ms → keyFit kk m.key := by
  intro m hm
  obtain ⟨i, hi, rfl⟩ := List.mem_iff_getElem.1 hm
  have hi' : i < es.length := by rw [← h.1]; exact hi
  have := h.2 i es[i] ms[i] (by simp [hi']) (by simp)
  rw [← this.1]
  exact hf _ (by simp)

theorem mSet_fits {kk : KK} {k : Value} {a : AVal} : ∀ {es : List AEnt}, (∀ e, e ∈ es → keyFit kk e.key) → ∀ e, e ∈ mSet k a es → keyFit kk e.key
  | [], _, e, he => by cases he
  | x :: es, h, e, he => by
    unfold mSet at he
    split at he
    · rcases List.mem_cons.1 he with rfl | he
      · exact h x (by simp)
      · exact h e (List.mem_cons_of_mem _ he)
    · rcases List.mem_cons.1 he with rfl | he
      · exact h _ (by simp)
      · exact mSet_fits (fun e he => h e (List.mem_cons_of_mem _ he)) e he

theorem mSetBorn_fits {kk : KK} {s : Int} {a : AVal} : ∀ {es : List AEnt}, (∀ e, e ∈ es → keyFit kk e.key) → ∀ e, e ∈ mSetBorn s a es → keyFit kk e.key
  | [], _, e, he => by cases he
  | x :: es, h, e, he => by
    unfold mSetBorn at he
    split at he
    · rcases List.mem_cons.1 he with rfl | he
      · exact h x (by simp)
      · exact h e (List.mem_cons_of_mem _ he)
    · rcases List.mem_cons.1 he with rfl | he
      · exact h _ (by simp)
      · exact mSetBorn_fits (fun e he => h e (List.mem_cons_of_mem _ he)) e he

theorem mDel_mem {k : Value} : ∀ {es : List AEnt} {e : AEnt}, e ∈ mDel k es → e ∈ es
  | [], e, he => by cases he
  | x :: es, e, he => by
    unfold mDel at he
    split at he
    · exact List.mem_cons_of_mem _ he
    · rcases List.mem_cons.1 he with rfl | he
      · simp
      · exact List.mem_cons_of_mem _ (mDel_mem he)

theorem orel_map {G : Ghost} {b : Nat} {kk : KK} {es : List AEnt} {clock : Nat} {ms : Array MapEntry} (h : ERel G es ms.toList) (hf : ∀ e, e ∈ es → keyFit kk e.key) : ORel G b (.map kk es clock) (.map ms clock) :=
  .map kk es clock ms (by simpa using h.1) hf (fun i e m a b => h.2 i e m a (by simpa using b))

section
variable {P : Program} {G : Ghost} {H : AHeap} {w : World} {K : AVal → AHeap → Prop}

theorem run_getMap {b clock : Nat} {ms : Array MapEntry} (h : w.heap[b]? = some (.map ms clock)) : (getObj b).run P w = .ok (.map ms clock) w := by
  simp [getObj, Sem.run, h]

theorem run_setMap {b clock : Nat} {ms : Array MapEntry} {o : Obj} (h : w.heap[b]? = some (.map ms clock)) : (setObj b o).run P w = .ok () { w with heap := w.heap.setIfInBounds b o } := by
  simp [setObj, Sem.run, h]

theorem heap_set {b : Nat} {o ob : Obj} (h : w.heap[b]? = some ob) : ∀ c, (w.heap.setIfInBounds b o)[c]? = if c = b then some o else w.heap[c]? := by
  intro c
  by_cases hc : c = b
  · subst hc; simp [lt_of_heap h]
  · rw [if_neg hc, Array.getElem?_setIfInBounds_ne (fun e => hc e.symm)]

theorem own_map (hs : St G H w) {b clock : Nat} {kk : KK} {es : List AEnt} (hb : H b = some (.map kk es clock)) : ∃ ms, w.heap[b]? = some (.map ms clock) ∧ ERel G es ms.toList ∧ (∀ e, e ∈ es → keyFit kk e.key) := by
  obtain ⟨ob, hob, hr⟩ := hs.own b _ hb
  cases hr with
  | map _ _ _ arr hn hf hk => exact ⟨arr, hob, ⟨by simpa using hn, fun i e m a b => hk i e m a (by simpa using b)⟩, hf⟩

/-- A map is written. -/
theorem map_done (hs : St G H w) {b clock clock' : Nat} {kk kk' : KK} {es es' : List AEnt} {ms ms' : Array MapEntry} (hb : H b = some (.map kk es clock)) (hob : w.heap[b]? = some (.map ms clock)) (he : ERel G es' ms'.toList) (hf : ∀ e, e ∈ es' → keyFit kk' e.key)
    {v : AVal} {cv : Value} (hv : VRel G v cv) (hk : K v (H.set b (.map kk' es' clock'))) : Done H w G K cv { w with heap := w.heap.setIfInBounds b (.map ms' clock') } :=
  ⟨G, v, _, G.le_refl, hs.set hb hob (heap_set hob) (fun _ _ _ e => by cases e) (orel_map he hf), hv, Fr.set (w := w) (w' := { w with heap := w.heap.setIfInBounds b (.map ms' clock') }) ⟨rfl, rfl, rfl⟩ hb (lt_of_heap hob) (heap_set hob), hk⟩

theorem mkm_sound (hs : St G H w) {t : TypeId} {kk : KK} (hk : allocK mkMap (.map kk [] 0) K H) : ∃ cv w', (Instr.makeMap t none).run P w = .ok cv w' ∧ Done H w G K cv w' := by
  refine ⟨.map (some w.heap.size), { w with heap := w.heap.push (.map #[] 0) }, rfl, G, mkMap w.heap.size, _, G.le_refl, hs.new rfl (orel_map ⟨rfl, fun i e m a _ => by simp at a⟩ (fun e he => by cases he)), .mp _, Fr.new (w := w) (w' := { w with heap := w.heap.push (.map #[] 0) }) ⟨rfl, rfl, rfl⟩ rfl, hk _ hs.fresh⟩

theorem hasIdx {k : Value} {es : List AEnt} {ms : List MapEntry} (h : ERel G es ms) : mHas k es = (cIdx k ms 0).isSome := by
  have hc := cIdx_find (k := k) (i := 0) h
  split at hc
  · rename_i e; rw [e, hc.2]; rfl
  · rename_i e; rw [e, hc.2.1]; rfl

theorem idx_get {k v : Value} {es : List AEnt} {ms : Array MapEntry} {j : Nat} (h : ERel G es ms.toList) (hc : cIdx k ms.toList 0 = some (j, v)) : ∃ m, ms[j]? = some m ∧ m.val = v ∧ keyEq k m.key = true ∧ mBorn k es = some m.born ∧ ∃ a, mFind k es = some a ∧ VRel G a v := by
  have h1 := cIdx_find (k := k) (i := 0) h
  rw [hc] at h1
  obtain ⟨_, _, hf, m, h2, h3, h4, h5⟩ := h1
  exact ⟨m, by simpa using h2, h3, h4, h5, hf⟩

theorem mup_sound (hs : St G H w) {t elem : TypeId} {kk : KK} (hkt : mapKey P t = some (kk, elem)) {m k v : AVal} {mv kv vv : Value} (hm : VRel G m mv) (hkv : VRel G k kv) (hv : VRel G v vv) (h : andH (mupH H kk m k v) K undefA) :
    ∃ w', (Instr.mapUpdate t mv kv vv).run P w = .ok () w' ∧ Done H w G K undef w' := by
  obtain ⟨kt, ht⟩ := mapKey_ty hkt
  unfold mupH at h
  split at h
  · rename_i b key hkey
    cases hm
    rw [keyOf_sound hkey hkv]
    have hfit := keyOf_fit hkey
    split at h
    · rename_i kk' es clock hb
      split at h
      · rename_i e
        subst e
        simp only [andH] at h
        obtain ⟨ms, hob, he, hf⟩ := own_map hs hb
        have hfm := he.fits hf
        unfold Instr.mapUpdate
        rw [run_ok (run_underlying ht.under w)]
        simp only []
        rw [run_ok (run_getMap hob)]
        simp only []
        rw [run_ok (checkKey_sound ht hfit _), run_ok (findKey_sound ht hfit hfm)]
        unfold mPut at h
        rw [hasIdx he] at h
        cases hc : cIdx key ms.toList 0 with
        | none =>
          simp only [hc, Option.isSome_none, Bool.false_eq_true, if_false] at h
          simp only []
          rw [run_setMap hob]
          refine ⟨_, rfl, map_done hs hb hob (by simpa using he.push hv) (fun e he => ?_) (.raw _) h⟩
          rcases List.mem_append.1 he with he | he
          · exact hf e he
          · simp at he; subst he; exact hfit
        | some p =>
          obtain ⟨j, u⟩ := p
          simp only [hc, Option.isSome_some, if_true] at h
          obtain ⟨m, hm1, hm2, hm3, _⟩ := idx_get he hc
          have hkm : m.key = key := keyEq_fit hfit (hfm m (by simpa using Array.mem_of_getElem? hm1)) hm3
          simp only [hm1, Option.map_some, Option.getD_some, hkm]
          rw [run_ok (run_stays hfit), run_setMap hob]
          have := (he.setKey hfit hv hfm hc).2
          exact ⟨_, rfl, map_done hs hb hob (by simpa using this) (mSet_fits hf) (.raw _) h⟩
      · exact h.elim
    · exact h.elim
  · exact h.elim

theorem ment_sound (hs : St G H w) {t elem : TypeId} {kk : KK} (hkt : mapKey P t = some (kk, elem)) {zv : AVal} (hz : tyZero P elem = some zv) {b : Nat} {k : AVal} {kv key : Value} (hkey : keyOf kk k = some key) (hkv : VRel G k kv)
    {es : List AEnt} {clock : Nat} (hb : H b = some (.map kk es clock)) (h : K (.tup [(mFind key es).getD zv, .i ((mBorn key es).getD clock)]) (H.set b (mEnt kk key zv es clock))) :
    ∃ cv w', (Instr.mapEntry t (.map (some b)) kv).run P w = .ok cv w' ∧ Done H w G K cv w' := by
  obtain ⟨kt, ht⟩ := mapKey_ty hkt
  rw [keyOf_sound hkey hkv]
  have hfit := keyOf_fit hkey
  obtain ⟨ms, hob, he, hf⟩ := own_map hs hb
  have hfm := he.fits hf
  obtain ⟨z0, hz0, rfl⟩ := tyZero_run (w := w) hz
  unfold Instr.mapEntry
  rw [run_ok (run_underlying ht.under w)]
  simp only []
  rw [run_ok (run_getMap hob)]
  simp only []
  rw [run_ok (checkKey_sound ht hfit _), run_ok (findKey_sound ht hfit hfm)]
  unfold mEnt at h
  rw [hasIdx he] at h
  cases hc : cIdx key ms.toList 0 with
  | none =>
    simp only [hc, Option.isSome_none, Bool.false_eq_true, if_false] at h
    have h1 := cIdx_find (k := key) (i := 0) he
    rw [hc] at h1
    have hb1 : mBorn key es = none := by
      have : ∀ es : List AEnt, mHas key es = false → mBorn key es = none := by
        intro es
        induction es with
        | nil => intro _; rfl
        | cons x r ih =>
          intro hh
          simp only [mHas, List.any_cons, Bool.or_eq_false_iff] at hh
          simp only [mBorn, hh.1, Bool.false_eq_true, if_false]
          exact ih hh.2
      exact this es h1.2
    rw [h1.1, hb1] at h
    simp only []
    rw [run_ok hz0, run_ok (run_setMap hob)]
    refine ⟨_, _, rfl, map_done hs hb hob (by simpa using he.push (vrel_ofValue G z0)) (fun e he => ?_) (.tup _ _ rfl (fun i c u h1 h2 => ?_)) h⟩
    · rcases List.mem_append.1 he with he | he
      · exact hf e he
      · simp at he; subst he; exact hfit
    · match i with
      | 0 => simp at h1 h2; subst h1; subst h2; exact vrel_ofValue G z0
      | 1 => simp at h1 h2; subst h1; subst h2; exact .raw _
      | i + 2 => simp at h1
  | some p =>
    obtain ⟨j, u⟩ := p
    simp only [hc, Option.isSome_some, if_true] at h
    obtain ⟨m, hm1, hm2, hm3, hm4, a, ha, hau⟩ := idx_get he hc
    have hkm : m.key = key := keyEq_fit hfit (hfm m (by simpa using Array.mem_of_getElem? hm1)) hm3
    rw [ha, hm4] at h
    simp only [hm1, Option.map_some, Option.getD_some, hkm]
    rw [run_ok (run_stays hfit), run_ok (run_setMap hob)]
    have := (he.sameKey hfit hfm hc).2
    refine ⟨_, _, rfl, map_done hs hb hob (by simpa using this) hf (.tup _ _ rfl (fun i c u' h1 h2 => ?_)) h⟩
    match i with
    | 0 => simp at h1 h2; subst h1; subst h2; exact hau
    | 1 => simp at h1 h2; subst h1; subst h2; exact .raw _
    | i + 2 => simp at h1

theorem est_sound (hs : St G H w) {t : TypeId} {b : Nat} {s : Int} {ik : IntKind} {v : AVal} {vv : Value} (hv : VRel G v vv) {kk : KK} {es : List AEnt} {clock : Nat} (hb : H b = some (.map kk es clock)) (hex : ∃ e, e ∈ es ∧ (e.born : Int) = s)
    (h : K undefA (H.set b (.map kk (mSetBorn s v es) clock))) : ∃ w', (Instr.entryStore t (.map (some b)) (.int ik s) vv).run P w = .ok () w' ∧ Done H w G K undef w' := by
  obtain ⟨ms, hob, he, hf⟩ := own_map hs hb
  obtain ⟨j, hj, hr⟩ := he.setBorn hv hex
  have hj' : ms.findIdx? (fun e => (e.born : Int) == s) = some j := by rw [← List.findIdx?_toArray] at hj; exact hj
  unfold Instr.entryStore
  rw [run_ok (run_getMap hob)]
  simp only []
  rw [run_ok (show (asInt (.int ik s)).run P w = .ok s w from rfl)]
  simp only [hj']
  rw [run_setMap hob]
  exact ⟨_, rfl, map_done hs hb hob (by simpa using hr) (mSetBorn_fits hf) (.raw _) h⟩

theorem del_sound (hs : St G H w) {ts : Array TypeId} {t t' elem : TypeId} {kk : KK} (ht0 : ts[0]? = some t) (hkt : mapKey P t = some (kk, elem)) {b : Nat} {k : AVal} {kv key : Value} (hkey : keyOf kk k = some key) (hkv : VRel G k kv)
    {es : List AEnt} {clock : Nat} (hb : H b = some (.map kk es clock)) (h : K (.tup []) (H.set b (.map kk (mDel key es) clock))) :
    ∃ cv w', (Builtin.delete_ ts t' #[.map (some b), kv]).run P w = .ok cv w' ∧ Done H w G K cv w' := by
  obtain ⟨kt, ht⟩ := mapKey_ty hkt
  rw [keyOf_sound hkey hkv]
  have hfit := keyOf_fit hkey
  obtain ⟨ms, hob, he, hf⟩ := own_map hs hb
  have hfm := he.fits hf
  unfold Builtin.delete_
  simp only [ht0, List.getElem?_toArray, List.getElem?_cons_zero, List.getElem?_cons_succ]
  rw [run_ok (run_underlying ht.under w)]
  simp only []
  rw [run_ok (run_getMap hob)]
  simp only []
  rw [run_ok (checkKey_sound ht hfit _), run_ok (findKey_sound ht hfit hfm)]
  cases hc : cIdx key ms.toList 0 with
  | none =>
    simp only []
    rw [run_ok (run_setMap hob)]
    rw [he.noKey hc] at h
    exact ⟨_, _, rfl, map_done hs hb hob he hf (.tup [] #[] rfl (fun i c u h1 h2 => by simp at h1)) h⟩
  | some p =>
    obtain ⟨j, u⟩ := p
    simp only []
    rw [run_ok (run_setMap hob)]
    have := (he.delKey hc).2
    have hlt : j < ms.size := by obtain ⟨m, hm1, _⟩ := idx_get he hc; exact (Array.getElem?_eq_some_iff.1 hm1).1
    refine ⟨_, _, rfl, map_done hs hb hob (ms' := ms.eraseIdxIfInBounds j) ?_ (fun e he => hf e (mDel_mem he)) (.tup [] #[] rfl (fun i c u h1 h2 => by simp at h1)) h⟩
    simp only [Array.eraseIdxIfInBounds, hlt, dif_pos, Array.toList_eraseIdx]
    exact this

theorem clr_sound (hs : St G H w) {ts : Array TypeId} {t t' k e : TypeId} (ht0 : ts[0]? = some t) (hu : P.underlying t = some (.map k e)) {x : AVal} {xv : Value} (hx : VRel G x xv)
    (h : match (generalizing := false) x with
      | .mp b => match H b with
        | some (.map kk _ clock) => K (.tup []) (H.set b (.map kk [] clock))
        | _ => False
      | .raw (.map none) => K (.tup []) H
      | _ => False) : ∃ cv w', (Builtin.clear_ ts t' #[xv]).run P w = .ok cv w' ∧ Done H w G K cv w' := by
  unfold Builtin.clear_
  simp only [ht0, List.getElem?_toArray, List.getElem?_cons_zero]
  rw [run_ok (run_underlying hu w)]
  split at h
  · rename_i b hx
    cases hx
    split at h
    · rename_i kk es clock hb
      obtain ⟨ms, hob, he, hf⟩ := own_map hs hb
      simp only []
      rw [run_ok (run_getMap hob)]
      simp only []
      rw [run_ok (run_setMap hob)]
      exact ⟨_, _, rfl, map_done hs hb hob (ms' := #[]) ⟨rfl, fun i e m a _ => by simp at a⟩ (fun e he => by cases he) (.tup [] #[] rfl (fun i c u h1 h2 => by simp at h1)) h⟩
    · exact h.elim
  · rename_i hx
    rw [VRel.raw_inv hx]
    exact ⟨_, _, rfl, G, _, _, G.le_refl, hs, .tup [] #[] rfl (fun i c u h1 h2 => by simp at h1), Fr.refl H w, h⟩
  · exact h.elim

theorem rng_sound (hs : St G H w) {t k e : TypeId} (hu : P.underlying t = some (.map k e)) {b clock : Nat} {kk : KK} {es : List AEnt} (hb : H b = some (.map kk es clock)) (h : allocK mkIt (.iter b clock [] clock) K H) :
    ∃ cv w', (Instr.range t (.map (some b))).run P w = .ok cv w' ∧ Done H w G K cv w' := by
  obtain ⟨ms, hob, he, hf⟩ := own_map hs hb
  unfold Instr.range
  rw [run_ok (run_underlying hu w)]
  simp only []
  rw [run_ok (run_getMap hob)]
  refine ⟨.pointer (some ⟨w.heap.size, 0, none⟩), { w with heap := w.heap.push (.mapIter (some b) clock #[] clock) }, rfl, G, mkIt w.heap.size, _, G.le_refl, hs.new rfl (.iter _ _ _ _), .it _, Fr.new (w := w) (w' := { w with heap := w.heap.push (.mapIter (some b) clock #[] clock) }) ⟨rfl, rfl, rfl⟩ rfl, h _ hs.fresh⟩

end
end Heron
end

section
set_option linter.unusedSimpArgs false
set_option linter.unusedVariables false
namespace Heron
open Go

section
variable {P : Program} {G : Ghost} {H : AHeap} {w : World} {K : AVal → AHeap → Prop}

theorem ERel.mem {es : List AEnt} {ms : List MapEntry} (h : ERel G es ms) {m : MapEntry} (hm : m ∈ ms) : ∃ e, e ∈ es ∧ e.key = m.key ∧ e.born = m.born ∧ VRel G e.val m.val := by
  obtain ⟨i, hi, rfl⟩ := List.mem_iff_getElem.1 hm
  have hi' : i < es.length := by rw [← h.1]; exact hi
  have := h.2 i es[i] ms[i] (by simp [hi']) (by simp)
  exact ⟨es[i], by simp, this⟩

theorem ERel.mem' {es : List AEnt} {ms : List MapEntry} (h : ERel G es ms) {e : AEnt} (he : e ∈ es) : ∃ m, m ∈ ms ∧ e.key = m.key ∧ e.born = m.born ∧ VRel G e.val m.val := by
  obtain ⟨i, hi, rfl⟩ := List.mem_iff_getElem.1 he
  have hi' : i < ms.length := by rw [h.1]; exact hi
  have := h.2 i es[i] ms[i] (by simp) (by simp [hi'])
  exact ⟨ms[i], by simp, this⟩

theorem run_next (n : Nat) (hn : 0 < n) (w : World) : ∃ c d, c < n ∧ (choose (.mapNext n)).run P w = .ok c { w with drawn := d } := by
  by_cases h : n ≤ 1
  · exact ⟨0, w.drawn, hn, by simp [choose, Sem.run, Question.forced, h]⟩
  · refine ⟨w.tape w.drawn (.mapNext n) % n, w.drawn + 1, Nat.mod_lt _ hn, ?_⟩
    simp [choose, Sem.run, Question.forced, Question.cut, h]

theorem nxt_sound (hs : St G H w) {t : TypeId} {a : AVal} {v : Value} (hv : VRel G a v) (h : nxtK a K H) :
    ∃ cv w', (Instr.next v false t).run P w = .ok cv w' ∧ Done H w G K cv w' := by
  unfold nxtK at h
  split at h
  · rename_i r0 r
    cases hv
    split at h
    · rename_i m since seen stepped hr
      split at h
      · rename_i kk es clock hm
        obtain ⟨h1, h2, h3⟩ := h
        obtain ⟨ob, hob, hro⟩ := hs.own r _ hr
        cases hro
        obtain ⟨ms, hms, he, hf⟩ := own_map hs hm
        have hgr : (getObj r).run P w = .ok (.mapIter (some m) since seen.toArray stepped) w := by simp [getObj, Sem.run, hob]
        unfold Instr.next
        simp only []
        rw [run_ok hgr]
        simp only []
        rw [run_ok (run_getMap hms)]
        simp only []
        have hcond : (!seen.toArray.isEmpty && !ms.isEmpty && ms.all fun x => decide (x.born ≥ stepped)) = false := by
          rcases h1 with rfl | rfl | ⟨e, he1, he2⟩
          · simp
          · have : ms = #[] := by have := he.1; simp at this; exact this
            subst this; simp
          · obtain ⟨x, hx, _, hb, _⟩ := he.mem' he1
            simp only [Bool.and_eq_false_iff]
            right
            rw [Array.all_eq_false']
            exact ⟨x, by simpa using hx, by simp; omega⟩
        simp only [hcond, Bool.false_eq_true, if_false]
        generalize hC : ((if (Array.filter (fun x => decide (x.born < since)) (Array.filter (fun e => !seen.toArray.contains e.born) ms)).isEmpty = true then #[none] else #[]) ++
          Array.map some (Array.filter (fun x => decide (x.born < since)) (Array.filter (fun e => !seen.toArray.contains e.born) ms) ++ Array.filter (fun x => decide (x.born ≥ since)) (Array.filter (fun e => !seen.toArray.contains e.born) ms)) : Array (Option MapEntry)) = C
        have hnone : none ∈ C → ∀ e, e ∈ es → e.born < since → e.born ∈ seen := by
          intro hn e he1 he2
          rw [← hC] at hn
          simp only [Array.mem_append, Array.mem_map, reduceCtorEq, and_false, exists_false, or_false] at hn
          split at hn
          · rename_i hempty
            obtain ⟨x, hx, _, hb, _⟩ := he.mem' he1
            rw [Array.isEmpty_iff] at hempty
            rcases Classical.em (e.born ∈ seen) with hin | hin
            · exact hin
            · have : x ∈ (Array.filter (fun x => decide (x.born < since)) (Array.filter (fun e => !seen.toArray.contains e.born) ms)) := by
                simp only [Array.mem_filter]
                refine ⟨⟨by simpa using hx, ?_⟩, by simp; omega⟩
                rw [← hb]; simpa using hin
              rw [hempty] at this
              simp at this
          · simp at hn
        have hsome : ∀ x, some x ∈ C → x ∈ ms ∧ x.born ∉ seen := by
          intro x hx
          rw [← hC] at hx
          simp only [Array.mem_append, Array.mem_map, Option.some.injEq, exists_eq_right, Array.mem_filter] at hx
          rcases hx with hx | hx | hx
          · split at hx <;> simp at hx
          · exact ⟨hx.1.1, by simpa using hx.1.2⟩
          · exact ⟨hx.1.1, by simpa using hx.1.2⟩
        have hpos : 0 < C.size := by
          rw [← hC]
          split
          · simp; omega
          · rename_i hne
            rw [Array.isEmpty_iff] at hne
            have : 0 < (Array.filter (fun x => decide (x.born < since)) (Array.filter (fun e => !seen.toArray.contains e.born) ms)).size := Array.size_pos_iff.2 hne
            rw [Array.size_append, Array.size_map, Array.size_append]
            omega
        obtain ⟨c, d, hc, hrun⟩ := run_next (P := P) C.size hpos w
        rw [run_ok hrun]
        have hget : C[c]? = some C[c] := by simp [hc]
        rw [hget]
        have hin : C[c] ∈ C := by simp
        cases hcc : C[c] with
        | none =>
          rw [hcc] at hin
          simp only []
          exact ⟨_, _, rfl, G, _, _, G.le_refl, hs.of_heap rfl, .tup [.b false] _ rfl (fun i c u h1 h2 => by
            match i with
            | 0 => simp at h1 h2; subst h1; subst h2; exact .raw _
            | i + 1 => simp at h1), Fr.of_heap ⟨rfl, rfl, rfl⟩ rfl, h2 (hnone hin)⟩
        | some x =>
          rw [hcc] at hin
          simp only []
          obtain ⟨hx1, hx2⟩ := hsome x hin
          obtain ⟨e, e1, e2, e3, e4⟩ := he.mem (m := x) (by simpa using hx1)
          have hset : (setObj r (.mapIter (some m) since (seen.toArray.push x.born) clock)).run P { w with drawn := d } = .ok () { w with drawn := d, heap := w.heap.setIfInBounds r (.mapIter (some m) since (seen.toArray.push x.born) clock) } := by
            simp [setObj, Sem.run, hob]
          rw [run_ok hset]
          refine ⟨_, _, rfl, G, _, _, G.le_refl, hs.set (b := r) (o' := .iter m since (seen ++ [e.born]) clock) hr hob (heap_set hob) (fun _ _ _ e => by cases e) ?_, .tup [.b true, .raw e.key, e.val] _ rfl (fun i c u g1 g2 => ?_),
            Fr.set (w := w) (w' := { w with drawn := d, heap := w.heap.setIfInBounds r (.mapIter (some m) since (seen.toArray.push x.born) clock) }) ⟨rfl, rfl, rfl⟩ hr (lt_of_heap hob) (heap_set hob), h3 e e1 (by rw [e3]; exact hx2)⟩
          · have := ORel.iter (G := G) (b := r) m since (seen ++ [e.born]) clock
            rw [show (seen ++ [e.born]).toArray = seen.toArray.push x.born by rw [e3]; simp] at this
            exact this
          · match i with
            | 0 => simp at g1 g2; subst g1; subst g2; exact .raw _
            | 1 => simp at g1 g2; subst g1; subst g2; rw [e2]; exact .raw _
            | 2 => simp at g1 g2; subst g1; subst g2; exact e4
            | i + 3 => simp at g1
      · exact h.elim
    · exact h.elim
  · exact h.elim

theorem run_equal_nil {t e : TypeId} (hu : P.underlying t = some (.slice e)) {a : Option Addr} {l c : Nat} : (Op.equal t (.slice a l c) (.slice none 0 0)).run P w = .ok a.isNone w := by
  unfold Op.equal
  rw [show Op.maxDepth = 9999 + 1 from rfl, Op.equalIn, run_ok (run_underlying hu w)]
  cases a <;> rfl

theorem eqn_sound (hs : St G H w) {op : BinOp} {t e : TypeId} {x y : Operand} (hu : P.underlying t = some (.slice e)) {neg : Bool} (hop : op = if neg then .neq else .eql) {a : AVal} {v : Value} (hv : VRel G a v) (h : eqnK neg a K H) :
    ∃ cv, (do eqGuard op t x y v (.slice none 0 0); binOp op t v (.slice none 0 0) : Sem Value).run P w = .ok cv w ∧ Done H w G K cv w := by
  have key : ∀ p : Bool, (∃ u l c, v = .slice u l c ∧ p = u.isNone) → K (.b (p != neg)) H → ∃ cv, (do eqGuard op t x y v (.slice none 0 0); binOp op t v (.slice none 0 0) : Sem Value).run P w = .ok cv w ∧ Done H w G K cv w := by
    rintro p ⟨u, l, c, rfl, rfl⟩ hk
    rw [run_ok (run_guard (by simp) (by simp))]
    have he := run_equal_nil (w := w) hu (a := u) (l := l) (c := c)
    cases neg with
    | false =>
      simp at hop; subst hop
      exact ⟨_, run_binEq (.inl rfl) (by simp) (by simp) (by simp) (by simp) he, G, _, _, G.le_refl, hs, by simp at hk ⊢; exact .raw _, Fr.refl H w, hk⟩
    | true =>
      simp at hop; subst hop
      exact ⟨_, run_binEq (.inr rfl) (by simp) (by simp) (by simp) (by simp) he, G, _, _, G.le_refl, hs, by simp at hk ⊢; exact .raw _, Fr.refl H w, hk⟩
  unfold eqnK at h
  split at h
  · rename_i sz hv
    cases hv
    exact key _ ⟨_, _, _, rfl, rfl⟩ (h _)
  · rename_i hv
    cases hv
    exact key _ ⟨_, _, _, rfl, rfl⟩ (h _)
  · split at h
    · rename_i p hp
      exact key p (isNil_sound hp hv) h
    · exact h.elim

end
end Heron
end

section
set_option linter.unusedSimpArgs false
set_option linter.unusedVariables false
namespace Heron
open Go

/-- Sliding operations to their places: every one of those that are passed lets itself be passed. -/
inductive Slid (sl : Nat → Nat → Prop) : List Nat → List Nat → Prop
  | nil : Slid sl [] []
  | cons {p : Nat} {r1 r2 π : List Nat} (h : ∀ x, x ∈ r1 → sl x p) (t : Slid sl (r1 ++ r2) π) : Slid sl (r1 ++ p :: r2) (p :: π)

theorem pair_sublist {x y : Nat} {l : List Nat} : [x, y].Sublist l ↔ ∃ a b, l = a ++ x :: b ∧ y ∈ b := by
  constructor
  · intro h
    induction l with
    | nil => cases h
    | cons z l ih =>
      cases h with
      | cons _ h => obtain ⟨a, b, rfl, hy⟩ := ih h; exact ⟨z :: a, b, rfl, hy⟩
      | cons_cons _ h => exact ⟨[], l, rfl, by simpa using h⟩
  · rintro ⟨a, b, rfl, hy⟩
    exact (List.Sublist.cons_cons x (List.singleton_sublist.2 hy)).trans (List.sublist_append_right a _)

theorem slid_of {sl : Nat → Nat → Prop} : ∀ {π r : List Nat}, r.Perm π → π.Nodup → (∀ x y, [x, y].Sublist r → [y, x].Sublist π → sl x y) → Slid sl r π
  | [], r, hp, _, _ => by rw [hp.eq_nil]; exact .nil
  | p :: π, r, hp, hn, h => by
    have hin : p ∈ r := hp.mem_iff.2 (by simp)
    obtain ⟨r1, r2, rfl⟩ := List.append_of_mem hin
    have hp' : (r1 ++ r2).Perm π := List.Perm.cons_inv ((List.perm_middle.symm).trans hp)
    refine .cons (fun x hx => h x p ?_ ?_) (slid_of hp' (List.nodup_cons.1 hn).2 (fun x y h1 h2 => h x y ?_ ?_))
    · obtain ⟨a, b, rfl⟩ := List.append_of_mem hx
      exact pair_sublist.2 ⟨a, b ++ p :: r2, by simp, by simp⟩
    · refine List.Sublist.cons_cons p (List.singleton_sublist.2 (hp'.mem_iff.1 (by simp [hx])))
    · exact h1.trans (List.Sublist.append_left (List.sublist_cons_self p r2) r1)
    · exact h2.trans (List.sublist_cons_self p π)

theorem pos_lt {x y : Nat} : ∀ {l : List Nat}, l.Nodup → [x, y].Sublist l → posIn l x < posIn l y
  | [], _, h => by cases h
  | z :: l, hn, h => by
    obtain ⟨h1, h2⟩ := List.nodup_cons.1 hn
    unfold posIn
    rw [List.findIdx_cons, List.findIdx_cons]
    cases h with
    | cons _ h =>
      have ih := pos_lt h2 h
      unfold posIn at ih
      have hx : z ≠ x := fun e => h1 (e ▸ h.subset (by simp))
      have hy : z ≠ y := fun e => h1 (e ▸ h.subset (by simp))
      simp only [show (z == x) = false by simpa using hx, show (z == y) = false by simpa using hy, cond_false]
      omega
    | cons_cons _ h =>
      have hy : x ≠ y := fun e => h1 (e ▸ h.subset (by simp))
      simp only [beq_self_eq_true, cond_true, show (x == y) = false by simpa using hy, cond_false]
      omega

theorem sub_of_pos {x y : Nat} : ∀ {l : List Nat}, y ∈ l → posIn l x < posIn l y → [x, y].Sublist l
  | [], h, _ => by cases h
  | z :: l, hy, h => by
    unfold posIn at h
    rw [List.findIdx_cons, List.findIdx_cons] at h
    by_cases hzy : z = y
    · subst hzy; simp at h
    · simp only [show (z == y) = false by simpa using hzy, cond_false] at h
      have hy' : y ∈ l := by
        rcases List.mem_cons.1 hy with rfl | hy
        · exact absurd rfl hzy
        · exact hy
      by_cases hzx : z = x
      · subst hzx
        exact List.Sublist.cons_cons z (List.singleton_sublist.2 hy')
      · simp only [show (z == x) = false by simpa using hzx, cond_false] at h
        exact (sub_of_pos hy' (by unfold posIn; omega)).trans (List.sublist_cons_self z l)

theorem sub_total {x y : Nat} {l : List Nat} (hx : x ∈ l) (hy : y ∈ l) (hne : x ≠ y) : [x, y].Sublist l ∨ [y, x].Sublist l := by
  obtain ⟨a, b, rfl⟩ := List.append_of_mem hx
  rcases List.mem_append.1 hy with h | h
  · obtain ⟨c, d, rfl⟩ := List.append_of_mem h
    exact .inr (pair_sublist.2 ⟨c, d ++ x :: b, by simp, by simp⟩)
  · rcases List.mem_cons.1 h with h | h
    · exact absurd h.symm hne
    · exact .inl (pair_sublist.2 ⟨a, b, rfl, h⟩)

/-! ### Edges -/
def Bound (md : Region.Mode) (ops : Array Oper) (i j : Nat) : Prop := ∃ o, ops[j]? = some o ∧ ∃ e, e ∈ o.after ∧ Region.binds md e = true ∧ e.on = i

/-- A list that is an order. -/
structure IsOrder (md : Region.Mode) (ops : Array Oper) (l : List Nat) : Prop where
  perm : l.Perm (List.range ops.size)
  edge : ∀ i j, Bound md ops i j → [i, j].Sublist l

theorem IsOrder.nodup {md : Region.Mode} {ops : Array Oper} {l : List Nat} (h : IsOrder md ops l) : l.Nodup := h.perm.nodup_iff.2 List.nodup_range

theorem isOrder_spec {md : Region.Mode} {ops : Array Oper} {l : List Nat} (h : isOrder md ops l = true) : IsOrder md ops l := by
  unfold isOrder at h
  simp only [Bool.and_eq_true, List.all_eq_true, List.mem_range, Array.all_eq_true_iff_forall_mem, Bool.or_eq_true, Bool.not_eq_true', decide_eq_true_eq] at h
  obtain ⟨h1, h2⟩ := h
  have hp : l.Perm (List.range ops.size) := List.isPerm_iff.1 h1
  refine ⟨hp, fun i j ⟨o, ho, e, he, hb, hi⟩ => ?_⟩
  have hj := (Array.getElem?_eq_some_iff.1 ho).1
  have hd : ops.getD j default = o := by simp [Array.getD, hj]; exact (Array.getElem?_eq_some_iff.1 ho).2
  have := h2 j hj e (by rw [hd]; exact he)
  rw [hi] at this
  refine sub_of_pos (hp.mem_iff.2 (by simpa using hj)) (this.resolve_left (by simp [hb]))

def unl (n : Nat) (listed : Array Bool) : List Nat := (List.range n).filter fun i => !listed.getD i true

theorem unl_pick {n : Nat} {listed : Array Bool} {i : Nat} (hi : i ∈ unl n listed) : (unl n listed).Perm (i :: unl n (listed.setIfInBounds i true)) := by
  have h1 : i < n := by have := (List.mem_filter.1 hi).1; simpa using this
  have h2 : listed.getD i true = false := by have := (List.mem_filter.1 hi).2; simpa using this
  have hn : (unl n listed).Nodup := List.Nodup.sublist List.filter_sublist List.nodup_range
  have hlt : i < listed.size := by
    rcases Nat.lt_or_ge i listed.size with h | h
    · exact h
    · simp [Array.getD, Nat.not_lt.2 h] at h2
  refine (List.perm_cons_erase hi).trans (List.Perm.cons i (List.Perm.of_eq ?_))
  rw [hn.erase_eq_filter]
  unfold unl
  rw [List.filter_filter]
  apply List.filter_congr
  intro x _
  by_cases hx : x = i
  · subst hx; simp [Array.getD, hlt]
  · have : (listed.setIfInBounds i true).getD x true = listed.getD x true := getD_set_ne true (fun e => hx e.symm)
    rw [this]
    simp [hx]

/-- What is drawn is an order. -/
theorem go_order {ops : Array Oper} {md : Region.Mode} (hid : ∀ i j, Bound md ops i j → i < j) : ∀ (fuel t : Nat) (listed : Array Bool), (unl ops.size listed).length ≤ fuel →
    (∀ i j, Bound md ops i j → j < ops.size → listed.getD i false = true ∨ i ∈ unl ops.size listed) →
    (Region.linearise.go md ops fuel t listed []).Perm (unl ops.size listed) ∧
    ∀ i j, Bound md ops i j → j ∈ unl ops.size listed → listed.getD i false = true ∨ [i, j].Sublist (Region.linearise.go md ops fuel t listed [])
  | 0, t, listed, hl, hb => by
    have : unl ops.size listed = [] := List.eq_nil_of_length_eq_zero (by omega)
    rw [this]
    exact ⟨by simp [Region.linearise.go], fun i j _ h => by cases h⟩
  | fuel + 1, t, listed, hl, hb => by
    simp only [Region.linearise.go]
    change (match (Region.ready md ops listed)[t % (Region.ready md ops listed).length]? with
      | some i => Region.linearise.go md ops fuel (t / (Region.ready md ops listed).length) (listed.setIfInBounds i true) [i]
      | none => [].reverse).Perm _ ∧ ∀ i j, Bound md ops i j → j ∈ unl ops.size listed → listed.getD i false = true ∨ [i, j].Sublist (match (Region.ready md ops listed)[t % (Region.ready md ops listed).length]? with
      | some i => Region.linearise.go md ops fuel (t / (Region.ready md ops listed).length) (listed.setIfInBounds i true) [i]
      | none => [].reverse)
    cases hi : (Region.ready md ops listed)[t % (Region.ready md ops listed).length]? with
    | none =>
      have hnil : Region.ready md ops listed = [] := by
        cases hr : Region.ready md ops listed with
        | nil => rfl
        | cons x xs =>
          rw [hr] at hi
          have hlt : t % (x :: xs).length < (x :: xs).length := Nat.mod_lt _ (by simp)
          rw [List.getElem?_eq_none_iff] at hi
          omega
      have hun : ∀ j, j ∉ unl ops.size listed := by
        intro j
        induction j using Nat.strongRecOn with
        | _ j ih =>
          intro hj
          have hj1 : j < ops.size := by have := (List.mem_filter.1 hj).1; simpa using this
          have hj2 : listed.getD j true = false := by have := (List.mem_filter.1 hj).2; simpa using this
          have : j ∈ Region.ready md ops listed := mem_ready.2 ⟨hj2, ops[j], by simp [hj1], fun e he hbe => by
            have hbd : Bound md ops e.on j := ⟨ops[j], by simp [hj1], e, he, hbe, rfl⟩
            rcases hb e.on j hbd hj1 with h | h
            · exact h
            · exact absurd h (ih e.on (hid _ _ hbd))⟩
          rw [hnil] at this
          cases this
      have : unl ops.size listed = [] := List.eq_nil_iff_forall_not_mem.2 hun
      rw [this]
      exact ⟨by simp, fun i j _ h => by cases h⟩
    | some i =>
      have hmem := List.mem_of_getElem? hi
      obtain ⟨hi2, o, ho, hall⟩ := mem_ready.1 hmem
      have hi1 : i < ops.size := (Array.getElem?_eq_some_iff.1 ho).1
      have hiu : i ∈ unl ops.size listed := List.mem_filter.2 ⟨by simpa using hi1, by simp only [hi2]; rfl⟩
      have hpick := unl_pick hiu
      have hilt : i < listed.size := by
        rcases Nat.lt_or_ge i listed.size with h | h
        · exact h
        · simp [Array.getD, Nat.not_lt.2 h] at hi2
      have hset : ∀ k, (listed.setIfInBounds i true).getD k false = true ↔ (listed.getD k false = true ∨ k = i) := by
        intro k
        by_cases hk : k = i
        · subst hk; simp [Array.getD, hilt]
        · rw [getD_set_ne false (fun e => hk e.symm)]; simp [hk]
      obtain ⟨a1, a2⟩ := go_order hid fuel (t / (Region.ready md ops listed).length) (listed.setIfInBounds i true)
        (by have := hpick.length_eq; simp at this; omega)
        (fun k j hk hj => by
          rcases hb k j hk hj with h | h
          · exact .inl ((hset k).2 (.inl h))
          · rcases List.mem_cons.1 (hpick.mem_iff.1 h) with rfl | h
            · exact .inl ((hset k).2 (.inr rfl))
            · exact .inr h)
      simp only []
      rw [linearise_go_acc, List.reverse_singleton, List.singleton_append]
      refine ⟨(List.Perm.cons i a1).trans hpick.symm, fun k j hk hj => ?_⟩
      rcases List.mem_cons.1 (hpick.mem_iff.1 hj) with rfl | hj'
      · obtain ⟨o', ho', e, he, hbe, rfl⟩ := hk
        rw [ho] at ho'; cases ho'
        exact .inl (hall e he hbe)
      · rcases a2 k j hk hj' with h | h
        · rcases (hset k).1 h with h | rfl
          · exact .inl h
          · exact .inr (List.Sublist.cons_cons k (List.singleton_sublist.2 (a1.mem_iff.2 hj')))
        · exact .inr (h.trans (List.sublist_cons_self i _))

theorem linearise_order {ops : Array Oper} {md : Region.Mode} (h : IsOrder md ops (List.range ops.size)) (t : Nat) : IsOrder md ops (Region.linearise md ops t) := by
  have hid : ∀ i j, Bound md ops i j → i < j := by
    intro i j hb
    have h1 := h.edge i j hb
    have h2 := List.pairwise_iff_forall_sublist.1 (List.pairwise_lt_range (n := ops.size)) h1
    exact h2
  have hu : unl ops.size (Array.replicate ops.size false) = List.range ops.size := by
    unfold unl
    rw [List.filter_eq_self]
    intro i hi
    simp at hi
    simp [Array.getD, hi]
  have hlist : ∀ i, (Array.replicate ops.size false).getD i false = false := by
    intro i
    simp [Array.getD]
  have := go_order (md := md) hid ops.size t (Array.replicate ops.size false) (by rw [hu]; simp) (fun i j hb hj => .inr (by
    rw [hu]
    have := hid i j hb
    simp; omega))
  rw [hu] at this
  refine ⟨this.1, fun i j hb => ?_⟩
  obtain ⟨o, ho, _⟩ := id hb
  have hj := (Array.getElem?_eq_some_iff.1 ho).1
  rcases this.2 i j hb (by simpa using hj) with h | h
  · rw [hlist] at h; cases h
  · exact h

/-! ### What comes before what -/
theorem before_fold {ops : Array Oper} {acc : Array Nat} {n j : Nat} (hacc : ∀ j i, j < n → (acc.getD j 0).testBit i = true → ∀ l : List Nat, l.Nodup → (∀ i j, Bound .any ops i j → [i, j].Sublist l) → [i, j].Sublist l) (hbig : ∀ j, n ≤ j → acc.getD j 0 = 0)
    {o : Oper} (ho : ops[j]? = some o) : ∀ (es : List Edge) (s : Nat), (∀ e, e ∈ es → e ∈ o.after) →
    (∀ i, s.testBit i = true → ∀ l : List Nat, l.Nodup → (∀ i j, Bound .any ops i j → [i, j].Sublist l) → [i, j].Sublist l) →
    ∀ i, (es.foldl (fun s e => if Region.binds .any e then s ||| 2 ^ e.on ||| acc.getD e.on 0 else s) s).testBit i = true → ∀ l : List Nat, l.Nodup → (∀ i j, Bound .any ops i j → [i, j].Sublist l) → [i, j].Sublist l
  | [], s, _, hs, i, h => hs i h
  | e :: es, s, he, hs, i, h => by
    simp only [List.foldl_cons] at h
    refine before_fold hacc hbig ho es _ (fun e' he' => he e' (List.mem_cons_of_mem _ he')) (fun i hi => ?_) i h
    split at hi
    · rename_i hb
      intro l hl hedge
      have hbd : Bound .any ops e.on j := ⟨o, ho, e, he e (by simp), hb, rfl⟩
      rw [Nat.testBit_or, Nat.testBit_or] at hi
      simp only [Bool.or_eq_true] at hi
      rcases hi with (hi | hi) | hi
      · exact hs i hi l hl hedge
      · rw [Nat.testBit_two_pow] at hi
        simp at hi
        subst hi
        exact hedge _ _ hbd
      · by_cases hlt : e.on < n
        · have h1 := hacc e.on i hlt hi l hl hedge
          have h2 := hedge _ _ hbd
          have p1 := pos_lt hl h1
          have p2 := pos_lt hl h2
          exact sub_of_pos (h2.subset (by simp)) (by omega)
        · rw [hbig e.on (by omega)] at hi
          simp at hi
    · exact hs i hi

theorem before_spec {ops : Array Oper} {i j : Nat} (h : ((Region.before ops).getD j 0).testBit i = true) {l : List Nat} (hl : IsOrder .any ops l) : [i, j].Sublist l := by
  have key : ∀ (os : List Oper) (k : Nat) (acc : Array Nat), (∀ m, os[m]? = ops[k + m]?) → acc.size = k →
      (∀ j i, j < k → (acc.getD j 0).testBit i = true → ∀ l : List Nat, l.Nodup → (∀ i j, Bound .any ops i j → [i, j].Sublist l) → [i, j].Sublist l) →
      ∀ j i, ((os.foldl (fun acc o => acc.push (o.after.foldl (fun s e => if Region.binds .any e then s ||| 2 ^ e.on ||| acc.getD e.on 0 else s) 0)) acc).getD j 0).testBit i = true →
        ∀ l : List Nat, l.Nodup → (∀ i j, Bound .any ops i j → [i, j].Sublist l) → [i, j].Sublist l := by
    intro os
    induction os with
    | nil =>
      intro k acc _ hk hacc j i h
      simp only [List.foldl_nil] at h
      by_cases hj : j < k
      · exact hacc j i hj h
      · simp [Array.getD, show ¬ j < acc.size by omega] at h
    | cons o os ih =>
      intro k acc hos hk hacc
      simp only [List.foldl_cons]
      have ho : ops[k]? = some o := by have := hos 0; simpa using this.symm
      refine ih (k + 1) _ (fun m => by have := hos (m + 1); simp at this; rw [this]; congr 1; omega) (by simp [hk]) (fun j i hj h => ?_)
      by_cases hjk : j < k
      · refine hacc j i hjk ?_
        rw [Array.getD_eq_getD_getElem?, Array.getElem?_push, if_neg (by omega)] at h
        rw [Array.getD_eq_getD_getElem?]
        exact h
      · have : j = k := by omega
        subst this
        rw [Array.getD_eq_getD_getElem?, Array.getElem?_push, if_pos (by omega)] at h
        simp only [Option.getD_some] at h
        rw [← Array.foldl_toList] at h
        exact before_fold hacc (fun j hj => by simp [Array.getD, show ¬ j < acc.size by omega]) ho o.after.toList 0 (fun e he => by simpa using he) (fun i hi => by simp at hi) i h
  unfold Region.before at h
  rw [← Array.foldl_toList] at h
  exact key ops.toList 0 #[] (fun m => by simp) rfl (fun j i hj => by omega) j i h l hl.nodup hl.edge

end Heron
end

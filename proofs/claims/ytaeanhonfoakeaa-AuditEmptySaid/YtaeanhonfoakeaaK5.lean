/- Append and copy. Copy, clear, marks, bytes of a string. -/
import Derived.Test.YtaeanhonfoakeaaK4
section
set_option linter.unusedSimpArgs false
set_option linter.unusedVariables false
namespace Heron
open Go

theorem growBy_le (n : Nat) : ∀ (r c : Nat), c ≤ 2 * n + 192 → Builtin.growBy n r c ≤ 2 * n + 192
  | 0, c, h => h
  | r + 1, c, h => by
    unfold Builtin.growBy
    split
    · exact h
    · exact growBy_le n r _ (by omega)

theorem nextcap_le {need cap : Nat} (h : cap < need) : Builtin.nextslicecap need cap ≤ 2 * need + 192 := by
  unfold Builtin.nextslicecap
  split
  · omega
  · split
    · omega
    · exact growBy_le need 4 cap (by omega)

theorem nextcap_room {need cap bytes : Nat} (h : cap < need) (hr : room need bytes) : ¬ (Builtin.nextslicecap need cap * bytes > 2 ^ 48) := by
  unfold room at hr
  have h1 := Nat.mul_le_mul_right bytes (nextcap_le h)
  have h2 : bytes ≤ need * bytes := Nat.le_mul_of_pos_left _ (by omega)
  have h3 : (2 * need + 192) * bytes = 2 * (need * bytes) + 192 * bytes := by rw [Nat.add_mul, Nat.mul_assoc]
  omega

/-- What 'choose' gives for a capacity: any number that is no less than what is needed. -/
theorem run_chooseCap {P : Program} (need old : Nat) (e : TypeId) (hn : need < 2 ^ 63) (w : World) :
    ∃ c, need ≤ c ∧ (choose (.appendCap need old e)).run P w = .ok c { w with drawn := w.drawn + 1 } := by
  refine ⟨need + w.tape w.drawn (.appendCap need old e) % (2 ^ 63 - need), by omega, ?_⟩
  simp [choose, Sem.run, Question.forced, Question.cut]

theorem row_append {G : Ghost} {sz : Nat} {es ys : List AVal} {arr brr : Array Value} (h : RowRel G sz es arr) (k : RowRel G sz ys brr) : RowRel G sz (es ++ ys) (arr ++ brr) := by
  refine ⟨by simp [h.size, k.size, Nat.add_mul], fun e he => ?_, fun i j c v hc hv => ?_⟩
  · rcases List.mem_append.1 he with he | he
    · exact h.len e he
    · exact k.len e he
  · obtain ⟨e, h1, h2⟩ := cellAt_inv hc
    have hj := lt_of_get? h2
    by_cases hi : i < es.length
    · rw [List.getElem?_append_left hi] at h1
      rw [h.len e (List.mem_of_getElem? h1)] at hj
      have := idx_lt hi hj
      rw [Array.getElem?_append_left (by rw [h.size]; exact this)] at hv
      exact h.cell i j c v (cellAt_some h1 h2) hv
    · rw [List.getElem?_append_right (by omega)] at h1
      rw [k.len e (List.mem_of_getElem? h1)] at hj
      have he : es.length * sz ≤ i * sz := Nat.mul_le_mul_right sz (by omega)
      have hsub : (i - es.length) * sz = i * sz - es.length * sz := Nat.sub_mul _ _ _
      rw [Array.getElem?_append_right (by rw [h.size]; omega)] at hv
      rw [h.size] at hv
      exact k.cell (i - es.length) j c v (cellAt_some h1 h2) (by rw [hsub, show i * sz - es.length * sz + j = i * sz + j - es.length * sz by omega]; exact hv)

theorem lay_row {G : Ghost} {sz n : Nat} {es : List AVal} {arr : Array Value} (hl : ∀ e, e ∈ es → e.cells.length = sz) (h : Lay G sz n es arr) (hn : n ≤ es.length) : RowRel G sz (es.take n) arr := by
  refine ⟨by rw [h.1]; simp [Nat.min_eq_left hn], fun e he => hl e (List.mem_of_mem_take he), fun i j c v hc hv => ?_⟩
  obtain ⟨e, h1, h2⟩ := cellAt_inv hc
  rw [List.getElem?_take] at h1
  split at h1
  · rename_i hi; exact h.2 i j c v hi (cellAt_some h1 h2) hv
  · cases h1

section
variable {P : Program} {G : Ghost} {H : AHeap} {w : World} {K : AVal → AHeap → Prop} {R : Regs} {a : Act}

/-- The two types of an append, and what is known of the elements. -/
structure AppTy (P : Program) (ts : Array TypeId) (e : TypeId) (sz bytes : Nat) (zs : Bool) : Prop where
  ty : ∃ t0 t1 d1, ts[0]? = some t0 ∧ ts[1]? = some t1 ∧ P.underlying t0 = some (.slice e) ∧ P.underlying t1 = some d1 ∧ appKind d1 = some zs
  sz : tySize P e = some sz
  hby : ∃ i, P.info? e = some i ∧ i.bytes = bytes
  b0 : bytes ≠ 0

theorem appKind_inv {d : TypeDesc} (h : appKind d = some false) : (∃ e, d = .slice e) ∨ d = .string := by
  cases d <;> simp [appKind] at h
  · exact .inr rfl
  · exact .inl ⟨_, rfl⟩

theorem app_fit {ts : Array TypeId} {ty e : TypeId} {ad : Addr} {len cap sz bytes n : Nat} {x : Value} (ht : AppTy P ts e sz bytes false) (hn : (Builtin.lenOf x).run P w = .ok n w) (hle : len + n ≤ cap)
    {new : Array Value} (hnew : (Builtin.firstCells sz n x).run P w = .ok new w) {w2 : World} (hst : (storeCells (ad.add (len * sz)) new.toList).run P w = .ok () w2) :
    (Builtin.append_ ts ty #[.slice (some ad) len cap, x]).run P w = .ok (.slice (some ad) (len + n) cap) w2 := by
  obtain ⟨t0, t1, d1, ht0, ht1, hu, hu1, hz⟩ := ht.ty
  unfold Builtin.append_
  simp only [ht0, ht1, List.getElem?_toArray, List.getElem?_cons_zero, List.getElem?_cons_succ]
  rw [run_ok (run_underlying hu w)]
  simp only []
  rw [run_ok (run_sizeOf ht.sz w), run_ok (run_underlying hu1 w), run_ok (run_pure P _ w)]
  rcases appKind_inv hz with ⟨e2, rfl⟩ | rfl
  all_goals simp only [Bool.false_eq_true, if_false]
  all_goals
    rw [run_ok hn]
    simp only [hle, if_true, Bool.not_false]
    rw [run_ok hnew]
    rw [run_ok hst]
    rfl

theorem app_nil {ts : Array TypeId} {ty e : TypeId} {base : Option Addr} {len cap sz bytes : Nat} {x : Value} (ht : AppTy P ts e sz bytes false) (hn : (Builtin.lenOf x).run P w = .ok 0 w) (hle : len ≤ cap)
    (hnew : (Builtin.firstCells sz 0 x).run P w = .ok #[] w) :
    (Builtin.append_ ts ty #[.slice base len cap, x]).run P w = .ok (.slice base len cap) w := by
  cases base with
  | some ad => exact app_fit ht hn hle hnew rfl
  | none =>
    obtain ⟨t0, t1, d1, ht0, ht1, hu, hu1, hz⟩ := ht.ty
    unfold Builtin.append_
    simp only [ht0, ht1, List.getElem?_toArray, List.getElem?_cons_zero, List.getElem?_cons_succ]
    rw [run_ok (run_underlying hu w)]
    simp only []
    rw [run_ok (run_sizeOf ht.sz w), run_ok (run_underlying hu1 w), run_ok (run_pure P _ w)]
    rcases appKind_inv hz with ⟨e2, rfl⟩ | rfl
    all_goals simp only [Bool.false_eq_true, if_false]
    all_goals
      rw [run_ok hn]
      simp only [Nat.add_zero, hle, if_true, Bool.not_false]
      rw [run_ok hnew]
      rfl

theorem app_grow {ts : Array TypeId} {ty e : TypeId} {base : Option Addr} {len cap sz bytes n : Nat} {x : Value} (ht : AppTy P ts e sz bytes false) (hn : (Builtin.lenOf x).run P w = .ok n w) (hlt : cap < len + n)
    (hroom : room (len + n) bytes) {old new : Array Value} (hold : (Builtin.firstCells sz len (.slice base len cap)).run P { w with drawn := w.drawn + 1 } = .ok old { w with drawn := w.drawn + 1 })
    (hnew : (Builtin.firstCells sz n x).run P { w with drawn := w.drawn + 1 } = .ok new { w with drawn := w.drawn + 1 }) {z0 : Value} (hz0 : ∀ w' : World, (zeroValue e).run P w' = .ok z0 w') :
    ∃ c, len + n ≤ c ∧ (Builtin.append_ ts ty #[.slice base len cap, x]).run P w = .ok (.slice (some ⟨w.heap.size, 0, none⟩) (len + n) c)
        { w with drawn := w.drawn + 1, heap := w.heap.push (.cells (old ++ new ++ Builtin.zeroCells z0.cells (c - (len + n))) e) } := by
  obtain ⟨t0, t1, d1, ht0, ht1, hu, hu1, hz⟩ := ht.ty
  obtain ⟨i, hi, hb⟩ := ht.hby
  have hb0 := ht.b0
  have hsmall : len + n ≤ 2 ^ 40 := Nat.le_trans (Nat.le_mul_of_pos_right _ (by omega)) hroom
  obtain ⟨c, hc, hch⟩ := run_chooseCap (P := P) (len + n) cap e (by omega) w
  refine ⟨c, hc, ?_⟩
  unfold Builtin.append_
  simp only [ht0, ht1, List.getElem?_toArray, List.getElem?_cons_zero, List.getElem?_cons_succ]
  rw [run_ok (run_underlying hu w)]
  simp only []
  rw [run_ok (run_sizeOf ht.sz w), run_ok (run_underlying hu1 w), run_ok (run_pure P _ w)]
  rcases appKind_inv hz with ⟨e2, rfl⟩ | rfl
  all_goals simp only [Bool.false_eq_true, if_false]
  all_goals
    rw [run_ok hn]
    simp only [show ¬ (len + n ≤ cap) by omega, if_false, Bool.not_false, if_true]
    rw [run_ok (run_typeInfo hi w)]
    simp only [hb, hb0, or_self, and_false, if_false, Bool.false_eq_true]
    rw [run_ok (run_typeInfo hi w)]
    simp only [hb, nextcap_room hlt hroom, if_false]
    rw [run_ok hch, run_ok (run_typeInfo hi _), run_ok (run_askRoom _), run_ok hold, run_ok hnew, run_ok (hz0 _), run_ok (run_newRow e _)]
    rfl

theorem zero_all {t : TypeId} {zv : AVal} (h : tyZero P t = some zv) : ∃ v, (∀ w' : World, (zeroValue t).run P w' = .ok v w') ∧ zv = .ofValue v := by
  unfold tyZero at h
  obtain ⟨i, hi, h1⟩ := obind h
  obtain ⟨v, hv, rfl⟩ := omap h1
  refine ⟨v, fun w' => ?_, rfl⟩
  unfold zeroValue
  rw [run_ok (run_typeInfo hi w'), hv]; rfl

/-- All elements of a slice. -/
theorem elems_all (hs : St G H w) {sz : Nat} (h0 : 0 < sz) {x : AVal} {es : List AVal} {xv : Value} (h : aElems H sz x = some es) (hx : VRel G x xv) :
    (∀ e, e ∈ es → e.cells.length = sz) ∧ (Builtin.lenOf xv).run P w = .ok es.length w ∧ ∃ arr, (Builtin.firstCells sz es.length xv).run P w = .ok arr w ∧ RowRel G sz es arr := by
  obtain ⟨h1, h2, h3⟩ := elems_sound (P := P) hs h0 h hx
  obtain ⟨arr, h4, h5⟩ := h3 _ (Nat.le_refl _)
  exact ⟨h1, h2, arr, h4, by have := lay_row h1 h5 (Nat.le_refl _); rwa [List.take_length] at this⟩

theorem Done.less {cv : Value} {w' : World} (h : Done H w G (fun v H' => ∃ H'', AHeap.le H'' H' ∧ K v H'') cv w') : Done H w G K cv w' := by
  obtain ⟨G', v, H', h1, h2, h3, h4, H'', h5, h6⟩ := h
  exact ⟨G', v, H'', h1, h2.less h5, h3, h4.trans (Fr.less h5), h6⟩

/-- What an append of so many elements does, however they come. -/
structure AppR (P : Program) (G : Ghost) (w : World) (ts : Array TypeId) (ty e : TypeId) (sz bytes : Nat) (x : Value) (ys : List AVal) (new : Array Value) : Prop where
  row : RowRel G sz ys new
  fit : ∀ (ad : Addr) (len cap : Nat) (w2 : World), len + ys.length ≤ cap → (storeCells (ad.add (len * sz)) new.toList).run P w = .ok () w2 →
    (Builtin.append_ ts ty #[.slice (some ad) len cap, x]).run P w = .ok (.slice (some ad) (len + ys.length) cap) w2
  nul : ys = [] → ∀ (base : Option Addr) (len cap : Nat), len ≤ cap → (Builtin.append_ ts ty #[.slice base len cap, x]).run P w = .ok (.slice base len cap) w
  grow : ∀ (base : Option Addr) (len cap : Nat) (old : Array Value) (z0 : Value), cap < len + ys.length → room (len + ys.length) bytes →
    (Builtin.firstCells sz len (.slice base len cap)).run P { w with drawn := w.drawn + 1 } = .ok old { w with drawn := w.drawn + 1 } → (∀ w' : World, (zeroValue e).run P w' = .ok z0 w') →
    ∃ new' c, RowRel G sz ys new' ∧ len + ys.length ≤ c ∧ (Builtin.append_ ts ty #[.slice base len cap, x]).run P w = .ok (.slice (some ⟨w.heap.size, 0, none⟩) (len + ys.length) c)
        { w with drawn := w.drawn + 1, heap := w.heap.push (.cells (old ++ new' ++ Builtin.zeroCells z0.cells (c - (len + ys.length))) e) }

theorem appR_of (hs : St G H w) {ts : Array TypeId} {ty e : TypeId} {sz bytes : Nat} {x : Value} (ht : AppTy P ts e sz bytes false) (h0 : 0 < sz) {y : AVal} {ys : List AVal} (hys : aElems H sz y = some ys) (hyv : VRel G y x) :
    ∃ new, AppR P G w ts ty e sz bytes x ys new := by
  obtain ⟨_, hn, new, hnew, hrn⟩ := elems_all (P := P) hs h0 hys hyv
  have hs1 : St G H { w with drawn := w.drawn + 1 } := hs.of_heap rfl
  obtain ⟨_, _, new1, hnew1, hrn1⟩ := elems_all (P := P) hs1 h0 hys hyv
  refine ⟨new, hrn, fun ad len cap w2 hle hst => app_fit ht hn hle hnew hst, fun h base len cap hle => ?_, fun base len cap old z0 hlt hroom hold hz0 => ?_⟩
  · subst h
    have : new = #[] := by have := hrn.size; simpa using this
    subst this
    exact app_nil ht hn hle hnew
  · obtain ⟨c, hc, hrun⟩ := app_grow (ty := ty) ht hn hlt hroom hold hnew1 hz0
    exact ⟨new1, c, hrn1, hc, hrun⟩

theorem run_asInt {k : IntKind} {n : Int} : (asInt (.int k n)).run P w = .ok n w := rfl

/-- An append of a make. -/
theorem appR_make {ts : Array TypeId} {ty e : TypeId} {sz bytes : Nat} (ht : AppTy P ts e sz bytes true) {zv : AVal} (hz : tyZ P e sz = some zv) {k : IntKind} {n : Int} (hn : 0 ≤ n) (hroom : room n.toNat bytes) :
    ∃ new, AppR P G w ts ty e sz bytes (.int k n) (List.replicate n.toNat zv) new := by
  obtain ⟨hz1, hz2, h0⟩ := tyZ_spec hz
  obtain ⟨z0, hz0, rfl⟩ := zero_all (P := P) hz1
  obtain ⟨t0, t1, d1, ht0, ht1, hu, hu1, hzk⟩ := ht.ty
  obtain ⟨i, hi, hb⟩ := ht.hby
  have hb0 := ht.b0
  have hd : ∃ j, d1 = .int j := by cases d1 <;> simp [appKind] at hzk; exact ⟨_, rfl⟩
  obtain ⟨j, rfl⟩ := hd
  have hsmall : n.toNat ≤ 2 ^ 40 := Nat.le_trans (Nat.le_mul_of_pos_right _ (by omega)) hroom
  have hw : IntKind.i64.wrap n = n := wrap_id (by omega) (by omega)
  have hnb : ¬ (n * (bytes : Int) > 2 ^ 48) := by
    have : n * (bytes : Int) = ((n.toNat * bytes : Nat) : Int) := by rw [Int.natCast_mul, Int.toNat_of_nonneg hn]
    rw [this]
    unfold room at hroom
    omega
  have hzs : z0.cells.size = sz := by rw [(cells_rel (vrel_ofValue G z0)).1, hz2]
  have hrow : RowRel G sz (List.replicate n.toNat (.ofValue z0)) (Builtin.zeroCells z0.cells n.toNat) := by
    have := zeros_rel (n := n.toNat) (vrel_ofValue G z0) hz2 h0
    unfold Builtin.zeroCells
    rw [hzs] at this ⊢
    exact this
  have hnew : ∀ w' : World, ((if n.toNat * sz = 0 then pure #[] else do pure (Builtin.zeroCells (← zeroValue e).cells n.toNat) : Sem (Array Value)).run P w') = .ok (Builtin.zeroCells z0.cells n.toNat) w' := by
    intro w'
    split
    · rename_i h
      have : Builtin.zeroCells z0.cells n.toNat = #[] := by unfold Builtin.zeroCells; rw [hzs, h]; simp
      rw [this]; rfl
    · rw [run_ok (hz0 w')]; rfl
  have fit : ∀ (ad : Addr) (len cap : Nat) (w2 : World), len + n.toNat ≤ cap → (storeCells (ad.add (len * sz)) (Builtin.zeroCells z0.cells n.toNat).toList).run P w = .ok () w2 →
    (Builtin.append_ ts ty #[.slice (some ad) len cap, .int k n]).run P w = .ok (.slice (some ad) (len + n.toNat) cap) w2 := by
    intro ad len cap w2 hle hst
    unfold Builtin.append_
    simp only [ht0, ht1, List.getElem?_toArray, List.getElem?_cons_zero, List.getElem?_cons_succ]
    rw [run_ok (run_underlying hu w)]
    simp only []
    rw [run_ok (run_sizeOf ht.sz w), run_ok (run_underlying hu1 w), run_ok (run_pure P _ w)]
    simp only [if_true]
    rw [run_ok run_asInt]
    simp only [hw, show ¬ (n < 0) by omega, if_false]
    rw [run_ok (run_typeInfo hi w)]
    simp only [hb, hnb, if_false]
    rw [run_ok (run_pure P _ w)]
    simp only [hle, if_true, Bool.not_true, Bool.false_eq_true, if_false]
    rw [run_ok (hnew w), run_ok hst]
    rfl
  refine ⟨_, hrow, ?_, ?_, ?_⟩
  · simpa using fit
  · intro h base len cap hle
    have hn0 : n.toNat = 0 := by simpa using h
    have hz00 : Builtin.zeroCells z0.cells n.toNat = #[] := by unfold Builtin.zeroCells; rw [hn0]; simp
    cases base with
    | some ad =>
      have := fit ad len cap w (by omega) (by rw [hz00]; rfl)
      rw [hn0] at this
      exact this
    | none =>
      unfold Builtin.append_
      simp only [ht0, ht1, List.getElem?_toArray, List.getElem?_cons_zero, List.getElem?_cons_succ]
      rw [run_ok (run_underlying hu w)]
      simp only []
      rw [run_ok (run_sizeOf ht.sz w), run_ok (run_underlying hu1 w), run_ok (run_pure P _ w)]
      simp only [if_true]
      rw [run_ok run_asInt]
      simp only [hw, show ¬ (n < 0) by omega, if_false]
      rw [run_ok (run_typeInfo hi w)]
      simp only [hb, hnb, if_false]
      rw [run_ok (run_pure P _ w)]
      simp only [show len + n.toNat ≤ cap by omega, if_true, Bool.not_true, Bool.false_eq_true, if_false]
      rw [run_ok (hnew w), hn0]
      rfl
  · intro base len cap old z1 hlt hroom hold hz1'
    have hze : z1 = z0 := by
      have h1 := hz0 w
      rw [hz1' w] at h1
      injection h1
    subst hze
    simp only [List.length_replicate] at hlt hroom ⊢
    have hsm : len + n.toNat ≤ 2 ^ 40 := Nat.le_trans (Nat.le_mul_of_pos_right _ (by omega)) hroom
    have hmax : IntKind.i64.max = 9223372036854775807 := by decide
    obtain ⟨c, hc, hch⟩ := run_chooseCap (P := P) (len + n.toNat) cap e (by omega) w
    refine ⟨_, c, hrow, hc, ?_⟩
    unfold Builtin.append_
    simp only [ht0, ht1, List.getElem?_toArray, List.getElem?_cons_zero, List.getElem?_cons_succ]
    rw [run_ok (run_underlying hu w)]
    simp only []
    rw [run_ok (run_sizeOf ht.sz w), run_ok (run_underlying hu1 w), run_ok (run_pure P _ w)]
    simp only [if_true]
    rw [run_ok run_asInt]
    simp only [hw, show ¬ (n < 0) by omega, if_false]
    rw [run_ok (run_typeInfo hi w)]
    simp only [hb, hnb, if_false]
    rw [run_ok (run_pure P _ w)]
    simp only [show ¬ (len + n.toNat ≤ cap) by omega, if_false, Bool.not_true, Bool.false_eq_true]
    rw [run_ok (run_typeInfo hi w)]
    simp only [hmax, show ¬ (((len + n.toNat : Nat) : Int) > 9223372036854775807) by omega, false_and, if_false]
    rw [run_ok (run_typeInfo hi w)]
    simp only [hb, nextcap_room hlt hroom, if_false]
    rw [run_ok hch, run_ok (run_typeInfo hi _), run_ok (run_askRoom _), run_ok hold, run_ok (hnew _), run_ok (hz1' _), run_ok (run_newRow e _)]
    rfl

/-- An append that makes a new row. -/
theorem grow_done (hs : St G H w) {ts : Array TypeId} {ty e : TypeId} {base : Option Addr} {len cap sz bytes : Nat} {x : Value} {ys : List AVal} {nw : Array Value} (ht : AppR P G w ts ty e sz bytes x ys nw) {zv : AVal} (hz : tyZ P e sz = some zv)
    {s : AVal} {es : List AVal} (hes : aElems H sz s = some es) (hsv : VRel G s (.slice base len cap)) (hlen : es.length = len) (hlt : cap < len + ys.length) (hroom : room (len + ys.length) bytes)
    (hk : ∀ b c, H b = none → len + ys.length ≤ c → K (.sl b sz 0 (len + ys.length) c) (H.set b (.rows sz (es ++ ys)))) :
    ∃ cv w', (Builtin.append_ ts ty #[.slice base len cap, x]).run P w = .ok cv w' ∧ Done H w G K cv w' := by
  obtain ⟨hz1, hz2, h0⟩ := tyZ_spec hz
  obtain ⟨z0, hz0, rfl⟩ := zero_all (P := P) hz1
  have hs1 : St G H { w with drawn := w.drawn + 1 } := hs.of_heap rfl
  obtain ⟨_, _, old, hold, hro⟩ := elems_all (P := P) hs1 h0 hes hsv
  rw [hlen] at hold
  obtain ⟨new, c, hrn, hc, hrun⟩ := ht.grow base len cap old z0 hlt hroom hold hz0
  refine ⟨_, _, hrun, ?_⟩
  have hrow := row_append hro hrn
  refine alloc_done hs (sz := sz) (es := es ++ ys) (arr := old ++ new) (rest := Builtin.zeroCells z0.cells (c - (len + ys.length))) (T := e) (f := (0, 0)) ⟨rfl, rfl, rfl⟩ rfl hrow (fun k _ => by omega) ?_ (hk _ c hs.fresh hc)
  refine .sl _ _ _ _ _ 0 (old ++ new ++ Builtin.zeroCells z0.cells (c - (len + ys.length))).size hc (fun _ => by simp) (by simp [Ghost.addSh]) ?_
  have hzs : z0.cells.size = sz := by rw [(cells_rel (vrel_ofValue G z0)).1, hz2]
  have hzc : (Builtin.zeroCells z0.cells (c - (len + ys.length))).size = (c - (len + ys.length)) * sz := by simp [Builtin.zeroCells, hzs]
  rw [Array.size_append, Array.size_append, hro.size, hrn.size, hzc, hlen, ← Nat.add_mul, ← Nat.add_mul, Nat.zero_add]
  exact Nat.mul_le_mul_right sz (by omega)

theorem sl_fits (hs : St G H w) {b sz row len cap : Nat} {es : List AVal} {v : Value} (hb : H b = some (.rows sz es)) (hv : VRel G (.sl b sz row len cap) v) {arr : Array Value} {T lo hi : Nat} (hob : w.heap[b]? = some (.cells arr T (lo, hi))) :
    ∃ off, v = .slice (some ⟨b, off, none⟩) len cap ∧ len ≤ cap ∧ (cap ≠ 0 → off = row * sz) ∧ (row + cap) * sz ≤ arr.size := by
  cases hv with
  | sl _ _ _ _ _ off n hl ho hsh hn =>
    refine ⟨off, rfl, hl, ho, ?_⟩
    obtain ⟨arr', T', f', h1, h2⟩ := hs.sh b n hsh
    rw [hob] at h1
    cases h1
    omega

/-- An append for which there is room. -/
theorem fit_done (hs : St G H w) {ts : Array TypeId} {ty e : TypeId} {sz bytes : Nat} {x : Value} {ys : List AVal} {new : Array Value} (ht : AppR P G w ts ty e sz bytes x ys new) (h0 : 0 < sz) {b row len cap : Nat} {es : List AVal} {sv : Value}
    (hb : H b = some (.rows sz es)) (hsv : VRel G (.sl b sz row len cap) sv) (hle : row + len ≤ es.length) (hfit : len + ys.length ≤ cap) (hok : okEs ys)
    (hk : K (.sl b sz row (len + ys.length) cap) (H.set b (.rows sz (es.take (row + len) ++ ys ++ es.drop (row + len + ys.length))))) :
    ∃ cv w', (Builtin.append_ ts ty #[sv, x]).run P w = .ok cv w' ∧ Done H w G K cv w' := by
  obtain ⟨arr, T, lo, hi, hob, hlen, hn, hcell, hf, hsh⟩ := own_row hs hb
  obtain ⟨off, rfl, hlc, hoff, hcap⟩ := sl_fits hs hb hsv hob
  have hrn := ht.row
  have hyl := hrn.len
  by_cases hy0 : ys.length = 0
  · have hys0 : ys = [] := by cases ys <;> simp at hy0 ⊢
    subst hys0
    refine ⟨_, w, ht.nul rfl _ _ _ hlc, ?_⟩
    refine ⟨G, _, _, G.le_refl, hs, hsv, Fr.refl H w, ?_⟩
    have : es.take (row + len) ++ [] ++ es.drop (row + len + ([] : List AVal).length) = es := by simp
    rw [this] at hk
    have hH : H.set b (.rows sz es) = H := by
      funext c
      unfold AHeap.set
      by_cases hc : c = b
      · subst hc; simp [hb]
      · simp [hc]
    rw [hH] at hk
    simpa using hk
  · have hoff' := hoff (by omega)
    subst hoff'
    have hup : (row + len + ys.length) * sz ≤ (row + cap) * sz := Nat.mul_le_mul_right sz (by omega)
    rw [Nat.add_mul, Nat.add_mul] at hup
    have hns := hrn.size
    obtain ⟨w', arr', h3, h4, h5, h6, h7⟩ := run_storeCells (P := P) new.toList (w := w) (b := b) (off := row * sz + len * sz) (i := 0) hob (by simp [hns]; omega) hf (fun u hu => by
      obtain ⟨k, hk, rfl⟩ := List.mem_iff_getElem.1 hu
      have hk' : k < ys.length * sz := by rw [← hns]; simpa using hk
      have hi : k / sz < ys.length := (Nat.div_lt_iff_lt_mul h0).2 hk'
      have hj : k % sz < sz := Nat.mod_lt _ h0
      have hl := hyl _ (List.getElem_mem hi)
      have hcell : cellAt ys (k / sz) (k % sz) = some (ys[k / sz].cells[k % sz]'(by omega)) := cellAt_some (e := ys[k / sz]) (List.getElem?_eq_getElem hi) (List.getElem?_eq_getElem (by omega))
      have hkk : k / sz * sz + k % sz = k := by rw [Nat.mul_comm]; exact Nat.div_add_mod k sz
      have hok' := hok _ (List.getElem_mem hi)
      rw [List.all_eq_true] at hok'
      exact cellOk_single (hok' _ (List.getElem_mem _)) (hrn.cell _ _ _ _ hcell (by rw [hkk]; simp)))
    refine ⟨_, w', ht.fit _ _ _ _ hfit (by rw [add_none]; exact h3), ?_⟩
    have hlen' : (es.take (row + len) ++ ys ++ es.drop (row + len + ys.length)).length ≤ max es.length (row + len + ys.length) := by simp; omega
    refine rows_done hs hb hob h4 h5 h6 (fun e he => ?_) ?_ (fun i j c u hc hu => ?_) ?_ hk
    · rcases List.mem_append.1 he with he | he
      · rcases List.mem_append.1 he with he | he
        · exact hlen e (List.mem_of_mem_take he)
        · exact hyl e he
      · exact hlen e (List.mem_of_mem_drop he)
    · rcases Nat.le_total es.length (row + len + ys.length) with hm | hm
      · rw [Nat.max_eq_right hm] at hlen'
        refine Nat.le_trans (Nat.mul_le_mul_right sz hlen') ?_
        rw [Nat.add_mul, Nat.add_mul]
        omega
      · rw [Nat.max_eq_left hm] at hlen'
        exact Nat.le_trans (Nat.mul_le_mul_right sz hlen') hn
    · obtain ⟨e, g1, g2⟩ := cellAt_inv hc
      have hj := lt_of_get? g2
      rw [h7] at hu
      simp only [Nat.add_zero, Array.length_toList, hns] at hu
      have htl : (es.take (row + len)).length = row + len := by simp; omega
      have hmul : (row + len) * sz = row * sz + len * sz := Nat.add_mul _ _ _
      by_cases h1 : i < row + len
      · rw [List.append_assoc, List.getElem?_append_left (by omega), List.getElem?_take, if_pos h1] at g1
        rw [hlen e (List.mem_of_getElem? g1)] at hj
        have := idx_lt h1 hj
        rw [if_neg (by omega)] at hu
        exact hcell i j c u (cellAt_some g1 g2) hu
      · by_cases h2 : i < row + len + ys.length
        · rw [List.append_assoc, List.getElem?_append_right (by omega), htl, List.getElem?_append_left (by omega)] at g1
          rw [hyl e (List.mem_of_getElem? g1)] at hj
          have hge : (row + len) * sz ≤ i * sz := Nat.mul_le_mul_right sz (by omega)
          have hidx := idx_lt (show i - (row + len) < ys.length by omega) hj
          have hsub : (i - (row + len)) * sz = i * sz - (row + len) * sz := Nat.sub_mul _ _ _
          rw [if_pos (by omega)] at hu
          refine hrn.cell (i - (row + len)) j c u (cellAt_some g1 g2) ?_
          rw [hsub, hmul, show i * sz - (row * sz + len * sz) + j = i * sz + j - (row * sz + len * sz) by omega]
          simpa using hu
        · rw [List.getElem?_append_right (by simp; omega), List.getElem?_drop] at g1
          have heq : (row + len + ys.length + (i - (es.take (row + len) ++ ys).length)) = i := by simp; omega
          rw [heq] at g1
          rw [hlen e (List.mem_of_getElem? g1)] at hj
          have hge : (row + len + ys.length) * sz ≤ i * sz := Nat.mul_le_mul_right sz (by omega)
          rw [Nat.add_mul, hmul] at hge
          rw [if_neg (by omega)] at hu
          exact hcell i j c u (cellAt_some g1 g2) hu
    · have hnn : (row + cap) * sz ≤ arr.size := hcap
      exact .sl b sz row _ cap _ arr.size hfit (fun _ => rfl) hsh hnn

theorem del_set (H : AHeap) (b : Nat) (o : AObj) : (H.del b).set b o = H.set b o := by
  funext c
  unfold AHeap.set AHeap.del
  by_cases h : c = b <;> simp [h]

theorem del_set_le (H : AHeap) (b b' : Nat) (o : AObj) : AHeap.le ((H.del b).set b' o) (H.set b' o) := by
  intro c x h
  unfold AHeap.set AHeap.del at *
  by_cases hc : c = b'
  · simpa [hc] using h
  · simp only [hc, if_false] at h ⊢
    by_cases hb : c = b
    · simp [hb] at h
    · simpa [hb] using h

theorem sl_elems {b sz row len cap : Nat} {es : List AVal} (hb : H b = some (.rows sz es)) (hle : row + len ≤ es.length) : aElems H sz (.sl b sz row len cap) = some ((es.drop row).take len) := by
  simp [aElems, hb, hle]

/-- Onto nothing. -/
theorem empty_done (hs : St G H w) {ts : Array TypeId} {ty e : TypeId} {sz bytes : Nat} {x : Value} {ys : List AVal} {new : Array Value} (ht : AppR P G w ts ty e sz bytes x ys new) {zv : AVal} (hz : tyZ P e sz = some zv)
    {s : AVal} {base : Option Addr} (hsv : VRel G s (.slice base 0 0)) (hroom : room ys.length bytes) (hk0 : ys = [] → K s H)
    (hk1 : ys ≠ [] → ∀ b cap, H b = none → ys.length ≤ cap → K (.sl b sz 0 ys.length cap) (H.set b (.rows sz ys))) : ∃ cv w', (Builtin.append_ ts ty #[.slice base 0 0, x]).run P w = .ok cv w' ∧ Done H w G K cv w' := by
  by_cases hy : ys = []
  · exact ⟨_, w, ht.nul hy _ _ _ (Nat.le_refl _), G, _, _, G.le_refl, hs, hsv, Fr.refl H w, hk0 hy⟩
  · have hpos : 0 < ys.length := by cases ys with
      | nil => exact absurd rfl hy
      | cons a r => simp
    exact grow_done hs ht hz (s := .z) (es := []) rfl (.z base) rfl (by omega) (by simpa using hroom) (fun b c hb hc => by
      have := hk1 hy b c hb (by omega)
      simpa using this)

theorem app_sound (hs : St G H w) {ts : Array TypeId} {ty e : TypeId} {sz bytes : Nat} {x : Value} {ys : List AVal} {new : Array Value} (ht : AppR P G w ts ty e sz bytes x ys new) {zv : AVal} (hz : tyZ P e sz = some zv) {s : AVal} {sv : Value}
    (hsv : VRel G s sv) (hk : appK sz bytes s ys K H) : ∃ cv w', (Builtin.append_ ts ty #[sv, x]).run P w = .ok cv w' ∧ Done H w G K cv w' := by
  obtain ⟨hz1, hz2, h0⟩ := tyZ_spec hz
  unfold appK at hk
  split at hk
  · rw [VRel.raw_inv hsv]
    exact empty_done hs ht hz (.raw _) hk.1 hk.2.1 hk.2.2
  · cases hsv with
    | z a => exact empty_done hs ht hz (.z a) hk.1 hk.2.1 hk.2.2
  · rename_i b sz' row len cap
    split at hk
    · rename_i sz'' es hb
      obtain ⟨e1, e2, rfl, rfl, hroom, hok, hk⟩ := hk
      subst e1
      subst e2
      by_cases hfit : es.length + ys.length ≤ cap
      · refine fit_done hs ht h0 hb hsv (by omega) hfit hok ?_
        have h1 : es.take (0 + es.length) ++ ys ++ es.drop (0 + es.length + ys.length) = es ++ ys := by
          rw [Nat.zero_add, List.take_length, List.drop_eq_nil_of_le (by omega), List.append_nil]
        rw [h1]
        have := hk b cap (.inl ⟨rfl, rfl⟩) hfit
        rwa [del_set] at this
      · obtain ⟨arr, T, lo, hi, hob, _⟩ := own_row hs hb
        obtain ⟨off, rfl, hlc, hoff, hcap⟩ := sl_fits hs hb hsv hob
        obtain ⟨cv, w', h1, h2⟩ := grow_done (K := fun v H' => ∃ H'', AHeap.le H'' H' ∧ K v H'') hs ht hz (sl_elems hb (by omega)) hsv (by simp) (by omega) hroom (fun b' c hb' hc => by
          refine ⟨(H.del b).set b' (.rows sz (es ++ ys)), ?_, hk b' c (.inr hb') hc⟩
          have h1 : (es.drop 0).take es.length ++ ys = es ++ ys := by simp
          rw [h1]
          exact del_set_le H b b' _)
        exact ⟨cv, w', h1, h2.less⟩
    · exact hk.elim
  · exact hk.elim

theorem appn_sound (hs : St G H w) {ts : Array TypeId} {ty e : TypeId} {sz bytes : Nat} {x : Value} {ys : List AVal} {new : Array Value} (ht : AppR P G w ts ty e sz bytes x ys new) {zv : AVal} (hz : tyZ P e sz = some zv) {s : AVal} {sv : Value}
    (hsv : VRel G s sv) (hk : appnK sz bytes s ys K H) : ∃ cv w', (Builtin.append_ ts ty #[sv, x]).run P w = .ok cv w' ∧ Done H w G K cv w' := by
  unfold appnK at hk
  split at hk
  · have := VRel.raw_inv hsv
    subst this
    exact empty_done hs ht hz hsv hk.1 hk.2.1 hk.2.2
  · have hsv' := hsv
    cases hsv with
    | z a => exact empty_done hs ht hz hsv' hk.1 hk.2.1 hk.2.2
  · have hsv' := hsv
    cases hsv with
    | sl _ _ _ _ _ off n hl ho hsh hn => exact empty_done hs ht hz hsv' hk.1 hk.2.1 hk.2.2
  · exact hk.elim

theorem appk_sound (hs : St G H w) {ts : Array TypeId} {ty e : TypeId} {sz bytes : Nat} {x : Value} {ys : List AVal} {new : Array Value} (ht : AppR P G w ts ty e sz bytes x ys new) {zv : AVal} (hz : tyZ P e sz = some zv) {s : AVal} {sv : Value}
    (hsv : VRel G s sv) (hk : appkK sz bytes s ys K H) : ∃ cv w', (Builtin.append_ ts ty #[sv, x]).run P w = .ok cv w' ∧ Done H w G K cv w' := by
  obtain ⟨hz1, hz2, h0⟩ := tyZ_spec hz
  unfold appkK at hk
  split at hk
  · rw [VRel.raw_inv hsv]
    exact empty_done hs ht hz (.raw _) hk.1 hk.2.1 hk.2.2
  · cases hsv with
    | z a => exact empty_done hs ht hz (.z a) hk.1 hk.2.1 hk.2.2
  · rename_i b sz' row len cap
    split at hk
    · rename_i sz'' es hb
      obtain ⟨e1, e2, hle, hroom, hok, hk1, hk2⟩ := hk
      subst e1
      subst e2
      by_cases hfit : len + ys.length ≤ cap
      · exact fit_done hs ht h0 hb hsv hle hfit hok (hk1 hfit)
      · obtain ⟨arr, T, lo, hi, hob, _⟩ := own_row hs hb
        obtain ⟨off, rfl, hlc, hoff, hcap⟩ := sl_fits hs hb hsv hob
        exact grow_done hs ht hz (sl_elems hb hle) hsv (by simp; omega) (by omega) hroom (fun b' c hb' hc => hk2 (by omega) b' c hb' hc)
    · exact hk.elim
  · exact hk.elim

/-- An append of a make. -/
theorem appR_zeros {ts : Array TypeId} {ty e : TypeId} {sz bytes : Nat} (ht : AppTy P ts e sz bytes true) {zv : AVal} (hz : tyZ P e sz = some zv) {k : IntKind} {m : Int} (hm : 0 ≤ m) (hroom : room m.toNat bytes) :
    ∃ new, AppR P G w ts ty e sz bytes (.int k m) (List.replicate m.toNat zv) new := by
  obtain ⟨hz1, hz2, h0⟩ := tyZ_spec hz
  obtain ⟨z0, hz0, rfl⟩ := zero_all (P := P) hz1
  obtain ⟨t0, t1, d1, ht0, ht1, hu, hu1, hzk⟩ := ht.ty
  obtain ⟨i, hi, hb⟩ := ht.hby
  have hb0 := ht.b0
  have hd1 : ∃ k1, d1 = .int k1 := by cases d1 <;> simp [appKind] at hzk; exact ⟨_, rfl⟩
  obtain ⟨k1, rfl⟩ := hd1
  have hm40 : m.toNat ≤ 2 ^ 40 := Nat.le_trans (Nat.le_mul_of_pos_right _ (by omega)) hroom
  have hwl : IntKind.i64.wrap m = m := wrap_id (by omega) (by omega)
  have hz2' : z0.cells.size = sz := by have := (cells_rel (vrel_ofValue G z0)).1; omega
  have hrow : RowRel G sz (List.replicate m.toNat (.ofValue z0)) (Builtin.zeroCells z0.cells m.toNat) := by
    have := zeros_rel (n := m.toNat) (vrel_ofValue G z0) hz2 h0
    unfold Builtin.zeroCells
    rw [hz2'] at this ⊢
    exact this
  have hbig : ¬ (m * (bytes : Int) > 2 ^ 48) := by
    have : m * (bytes : Int) = ((m.toNat * bytes : Nat) : Int) := by
      rw [Int.natCast_mul, Int.toNat_of_nonneg hm]
    rw [this]
    unfold room at hroom
    omega
  have happ : ∀ w' : World, ((if m.toNat * sz = 0 then pure #[] else do pure (Builtin.zeroCells (← zeroValue e).cells m.toNat) : Sem (Array Value))).run P w' = .ok (Builtin.zeroCells z0.cells m.toNat) w' := by
    intro w'
    split
    · rename_i h
      have : m.toNat = 0 := by
        rcases Nat.mul_eq_zero.1 h with h | h
        · exact h
        · omega
      rw [this]
      simp [Builtin.zeroCells, run_pure]
    · rw [run_ok (hz0 w')]
      rfl
  have hlen : (List.replicate m.toNat (AVal.ofValue z0)).length = m.toNat := by simp
  refine ⟨Builtin.zeroCells z0.cells m.toNat, hrow, fun ad len cap w2 hle hst => ?_, fun hnil base len cap hle => ?_, fun base len cap old z1 hlt hr hold hz1' => ?_⟩
  · rw [hlen] at hle ⊢
    unfold Builtin.append_
    simp only [ht0, ht1, List.getElem?_toArray, List.getElem?_cons_zero, List.getElem?_cons_succ]
    rw [run_ok (run_underlying hu w)]
    simp only []
    rw [run_ok (run_sizeOf ht.sz w), run_ok (run_underlying hu1 w), run_ok (run_pure P _ w)]
    simp only [if_true]
    rw [run_ok (show (asInt (.int k m)).run P w = .ok m w from rfl)]
    simp only [hwl, show ¬ (m < 0) by omega, if_false]
    rw [run_ok (run_typeInfo hi w)]
    simp only [hb, hbig, if_false]
    rw [run_ok (run_pure P _ w)]
    simp only [Bool.not_true, Bool.false_eq_true, if_false]
    simp only [hle, if_true]
    rw [run_ok (happ w)]
    rw [run_ok hst]
    rfl
  · have hm0 : m.toNat = 0 := by
      have := congrArg List.length hnil
      simpa using this
    have hz3 : Builtin.zeroCells z0.cells 0 = #[] := by simp [Builtin.zeroCells]
    unfold Builtin.append_
    simp only [ht0, ht1, List.getElem?_toArray, List.getElem?_cons_zero, List.getElem?_cons_succ]
    rw [run_ok (run_underlying hu w)]
    simp only []
    rw [run_ok (run_sizeOf ht.sz w), run_ok (run_underlying hu1 w), run_ok (run_pure P _ w)]
    simp only [if_true]
    rw [run_ok (show (asInt (.int k m)).run P w = .ok m w from rfl)]
    simp only [hwl, show ¬ (m < 0) by omega, if_false]
    rw [run_ok (run_typeInfo hi w)]
    simp only [hb, hbig, if_false]
    rw [run_ok (run_pure P _ w)]
    simp only [Bool.not_true, Bool.false_eq_true, if_false]
    rw [hm0] at happ ⊢
    simp only [Nat.add_zero, hle, if_true]
    rw [run_ok (happ w), hz3]
    cases base <;> rfl
  · rw [hlen] at hlt hr ⊢
    have hsmall : len + m.toNat ≤ 2 ^ 40 := Nat.le_trans (Nat.le_mul_of_pos_right _ (by omega)) hr
    obtain ⟨c, hc, hch⟩ := run_chooseCap (P := P) (len + m.toNat) cap e (by omega) w
    refine ⟨Builtin.zeroCells z0.cells m.toNat, c, hrow, hc, ?_⟩
    unfold Builtin.append_
    simp only [ht0, ht1, List.getElem?_toArray, List.getElem?_cons_zero, List.getElem?_cons_succ]
    rw [run_ok (run_underlying hu w)]
    simp only []
    rw [run_ok (run_sizeOf ht.sz w), run_ok (run_underlying hu1 w), run_ok (run_pure P _ w)]
    simp only [if_true]
    rw [run_ok (show (asInt (.int k m)).run P w = .ok m w from rfl)]
    simp only [hwl, show ¬ (m < 0) by omega, if_false]
    rw [run_ok (run_typeInfo hi w)]
    simp only [hb, hbig, if_false]
    rw [run_ok (run_pure P _ w)]
    simp only [Bool.not_true, Bool.false_eq_true, if_false]
    simp only [show ¬ (len + m.toNat ≤ cap) by omega, if_false]
    have hmax : ¬ (((len + m.toNat : Nat) : Int) > IntKind.i64.max) := by
      have : IntKind.i64.max = 9223372036854775807 := rfl
      rw [this]; omega
    rw [run_ok (run_typeInfo hi w)]
    simp only [hmax, false_and, if_false]
    rw [run_ok (run_typeInfo hi w)]
    simp only [hb, nextcap_room hlt hr, if_false]
    rw [run_ok hch, run_ok (run_typeInfo hi _), run_ok (run_askRoom _), run_ok hold, run_ok (happ _), run_ok (hz1' _), run_ok (run_newRow e _)]
    rfl

end
end Heron
end

section
set_option linter.unusedSimpArgs false
set_option linter.unusedVariables false
namespace Heron
open Go

section
variable {P : Program} {G : Ghost} {H : AHeap} {w : World} {K : AVal → AHeap → Prop} {R : Regs} {a : Act}

/-- Cells of elements that may be stored. -/
theorem cells_ok {sz n : Nat} (h0 : 0 < sz) {ys : List AVal} {new : Array Value} (h : RowRel G sz ys new) (hok : okEs ys) : ∀ u, u ∈ new.toList → (∀ x, u ≠ .agg x) ∧ ∀ x, u ≠ .tuple x := by
  intro u hu
  obtain ⟨k, hk, rfl⟩ := List.mem_iff_getElem.1 hu
  have hk' : k < ys.length * sz := by rw [← h.size]; simpa using hk
  have hi : k / sz < ys.length := (Nat.div_lt_iff_lt_mul h0).2 hk'
  have hj : k % sz < sz := Nat.mod_lt _ h0
  have hl := h.len _ (List.getElem_mem hi)
  have hcell : cellAt ys (k / sz) (k % sz) = some (ys[k / sz].cells[k % sz]'(by omega)) := cellAt_some (e := ys[k / sz]) (List.getElem?_eq_getElem hi) (List.getElem?_eq_getElem (by omega))
  have hkk : k / sz * sz + k % sz = k := by rw [Nat.mul_comm]; exact Nat.div_add_mod k sz
  have hok' := hok _ (List.getElem_mem hi)
  rw [List.all_eq_true] at hok'
  exact cellOk_single (hok' _ (List.getElem_mem _)) (h.cell _ _ _ _ hcell (by rw [hkk]; simp))

/-- Elements laid over the middle of an owned row. -/
theorem lay_done (hs : St G H w) {b sz row : Nat} (h0 : 0 < sz) {es ys : List AVal} {new : Array Value} (hb : H b = some (.rows sz es)) (hr : RowRel G sz ys new) (hok : okEs ys) (hle : row + ys.length ≤ es.length) :
    ∃ w', (storeCells ⟨b, row * sz, none⟩ new.toList).run P w = .ok () w' ∧ ∀ cv v, VRel G v cv → K v (H.set b (.rows sz (es.take row ++ ys ++ es.drop (row + ys.length)))) → Done H w G K cv w' := by
  obtain ⟨arr, T, lo, hi, hob, hlen, hn, hcell, hf, hsh⟩ := own_row hs hb
  have hns := hr.size
  have hup : (row + ys.length) * sz ≤ es.length * sz := Nat.mul_le_mul_right sz hle
  rw [Nat.add_mul] at hup
  obtain ⟨w', arr', h3, h4, h5, h6, h7⟩ := run_storeCells (P := P) new.toList (w := w) (b := b) (off := row * sz) (i := 0) hob (by simp [hns]; omega) hf (cells_ok (n := 0) h0 hr hok)
  refine ⟨w', h3, fun cv v hv hk => ?_⟩
  have hl' : (es.take row ++ ys ++ es.drop (row + ys.length)).length = es.length := by simp; omega
  refine rows_done hs hb hob h4 h5 h6 (fun e he => ?_) (by rw [hl']; exact hn) (fun i j c u hc hu => ?_) hv hk
  · rcases List.mem_append.1 he with he | he
    · rcases List.mem_append.1 he with he | he
      · exact hlen e (List.mem_of_mem_take he)
      · exact hr.len e he
    · exact hlen e (List.mem_of_mem_drop he)
  · obtain ⟨e, g1, g2⟩ := cellAt_inv hc
    have hj := lt_of_get? g2
    rw [h7] at hu
    simp only [Nat.add_zero, Array.length_toList, hns] at hu
    have htl : (es.take row).length = row := by simp; omega
    by_cases h1 : i < row
    · rw [List.append_assoc, List.getElem?_append_left (by omega), List.getElem?_take, if_pos h1] at g1
      rw [hlen e (List.mem_of_getElem? g1)] at hj
      have := idx_lt h1 hj
      rw [if_neg (by omega)] at hu
      exact hcell i j c u (cellAt_some g1 g2) hu
    · by_cases h2 : i < row + ys.length
      · rw [List.append_assoc, List.getElem?_append_right (by omega), htl, List.getElem?_append_left (by omega)] at g1
        rw [hr.len e (List.mem_of_getElem? g1)] at hj
        have hge : row * sz ≤ i * sz := Nat.mul_le_mul_right sz (by omega)
        have hidx := idx_lt (show i - row < ys.length by omega) hj
        have hsub : (i - row) * sz = i * sz - row * sz := Nat.sub_mul _ _ _
        rw [if_pos (by omega)] at hu
        refine hr.cell (i - row) j c u (cellAt_some g1 g2) ?_
        rw [hsub, show i * sz - row * sz + j = i * sz + j - row * sz by omega]
        simpa using hu
      · rw [List.getElem?_append_right (by simp; omega), List.getElem?_drop] at g1
        have heq : (row + ys.length + (i - (es.take row ++ ys).length)) = i := by simp; omega
        rw [heq] at g1
        rw [hlen e (List.mem_of_getElem? g1)] at hj
        have hge : (row + ys.length) * sz ≤ i * sz := Nat.mul_le_mul_right sz (by omega)
        rw [Nat.add_mul] at hge
        rw [if_neg (by omega)] at hu
        exact hcell i j c u (cellAt_some g1 g2) hu

theorem set_same {b : Nat} {o : AObj} (hb : H b = some o) : H.set b o = H := by
  funext c
  unfold AHeap.set
  by_cases hc : c = b
  · subst hc; simp [hb]
  · simp [hc]

theorem cpy_sound (hs : St G H w) {ts : Array TypeId} {ty t0 e : TypeId} {sz : Nat} (ht0 : ts[0]? = some t0) (hu : P.underlying t0 = some (.slice e)) (hsz : tySize P e = some sz) (h0 : 0 < sz) {s y : AVal} {ys : List AVal} {sv x : Value}
    (hsv : VRel G s sv) (hys : aElems H sz y = some ys) (hyv : VRel G y x) (hok : okEs ys) (hk : cpyK (cpyH H sz s ys) K) : ∃ cv w', (Builtin.copy_ ts ty #[sv, x]).run P w = .ok cv w' ∧ Done H w G K cv w' := by
  obtain ⟨hyl, hyn, hyc⟩ := elems_sound (P := P) hs h0 hys hyv
  have pre : ∀ {base : Option Addr} {len cap : Nat} {arr : Array Value} {w' : World}, sv = .slice base len cap → (Builtin.firstCells sz (min ys.length len) x).run P w = .ok arr w →
      ((match base with | some ad => storeCells ad arr.toList | none => pure ()) : Sem Unit).run P w = .ok () w' → (Builtin.copy_ ts ty #[sv, x]).run P w = .ok (.int .i64 (min ys.length len : Nat)) w' := by
    intro base len cap arr w' hse harr hst
    subst hse
    unfold Builtin.copy_
    simp only [ht0, List.getElem?_toArray, List.getElem?_cons_zero, List.getElem?_cons_succ]
    rw [run_ok (run_underlying hu w)]
    simp only []
    rw [run_ok hyn, run_ok (run_sizeOf hsz w)]
    rw [show Nat.min ys.length len = min ys.length len from rfl, run_ok harr]
    cases base with
    | none => simp only [run_pure] at hst; injection hst with _ hst; subst hst; rfl
    | some ad => simp only at hst ⊢; rw [run_ok hst]; rfl
  unfold cpyH at hk
  split at hk
  · rename_i c
    have := VRel.raw_inv hsv
    subst this
    obtain ⟨arr, h1, h2⟩ := hyc 0 (Nat.zero_le _)
    refine ⟨_, w, pre rfl (by rw [Nat.min_zero]; exact h1) rfl, G, _, _, G.le_refl, hs, .raw _, Fr.refl H w, ?_⟩
    simpa [cpyK] using hk
  · cases hsv with
    | z base =>
      obtain ⟨arr, h1, h2⟩ := hyc 0 (Nat.zero_le _)
      have harr : arr = #[] := by have := h2.1; simpa using this
      subst harr
      refine ⟨_, w, pre rfl (by rw [Nat.min_zero]; exact h1) ?_, G, _, _, G.le_refl, hs, .raw _, Fr.refl H w, ?_⟩
      · cases base <;> rfl
      · simpa [cpyK] using hk
  · rename_i b sz' row len cap
    split at hk
    · rename_i sz'' es hb
      split at hk
      · rename_i hc
        obtain ⟨e1, e2, hle⟩ := hc
        subst e1
        subst e2
        simp only [cpyK] at hk
        obtain ⟨arr0, T, lo, hi, hob, _⟩ := own_row hs hb
        obtain ⟨off, rfl, hlc, hoff, hcap⟩ := sl_fits hs hb hsv hob
        obtain ⟨arr, h1, h2⟩ := hyc (min ys.length len) (Nat.min_le_left _ _)
        have hrow := lay_row hyl h2 (Nat.min_le_left _ _)
        have htake : ys.take (min ys.length len) = ys.take len := by
          rcases Nat.le_total ys.length len with h | h
          · rw [Nat.min_eq_left h, List.take_length, List.take_of_length_le h]
          · rw [Nat.min_eq_right h]
        rw [htake] at hrow
        have hlt : (ys.take len).length = min ys.length len := by simp [Nat.min_comm]
        by_cases hm : min ys.length len = 0
        · have harr : arr = #[] := by have := h2.1; rw [hm] at this; simpa using this
          subst harr
          refine ⟨_, w, pre rfl h1 rfl, G, _, _, G.le_refl, hs, .raw _, Fr.refl H w, ?_⟩
          have : ys.take len = [] := by
            have : (ys.take len).length = 0 := by omega
            exact List.eq_nil_of_length_eq_zero this
          rw [this, hm] at hk
          simp only [Nat.add_zero, List.append_nil, List.take_append_drop] at hk
          rw [set_same hb] at hk
          rw [hm]
          exact hk
        · have hoff' := hoff (by omega)
          subst hoff'
          obtain ⟨w', h3, h4⟩ := lay_done (K := K) hs h0 (row := row) hb hrow (fun e he => hok e (List.mem_of_mem_take he)) (by rw [hlt]; omega)
          refine ⟨_, w', pre rfl h1 h3, h4 _ _ (.raw _) ?_⟩
          rw [hlt]
          exact hk
      · exact hk.elim
    · exact hk.elim
  · rename_i b sz' row col len cap
    split at hk
    · rename_i hc
      obtain ⟨e1, hflat⟩ := hc
      subst e1
      cases hH : storeH H (min ys.length len) (.ptr b sz' row col) (.agg (ys.take len)) with
      | none => rw [hH] at hk; exact hk.elim
      | some H' =>
        rw [hH] at hk
        cases hsv with
        | sc _ _ _ _ _ _ off hlc hoff =>
          obtain ⟨arr, h1, h2⟩ := hyc (min ys.length len) (Nat.min_le_left _ _)
          have hrow := lay_row hyl h2 (Nat.min_le_left _ _)
          have htake : ys.take (min ys.length len) = ys.take len := by
            rcases Nat.le_total ys.length len with h | h
            · rw [Nat.min_eq_left h, List.take_length, List.take_of_length_le h]
            · rw [Nat.min_eq_right h]
          rw [htake] at hrow
          have hfl : ∀ c, c ∈ ys.take len → c.cells = [c] := fun c hc => by
            rw [List.all_eq_true] at hflat
            have := hflat c hc
            unfold AVal.flat at this
            unfold AVal.cells
            split at this <;> simp_all
          have hcr : CRel G (AVal.agg (ys.take len)).cells arr := by
            refine ⟨by rw [hrow.size, Nat.mul_one]; rfl, fun i c v hc hv => ?_⟩
            have hc' : (ys.take len)[i]? = some c := hc
            refine hrow.cell i 0 c v (cellAt_some hc' ?_) (by simpa using hv)
            rw [hfl c (List.mem_of_getElem? hc')]
            rfl
          obtain ⟨h3, w', h4, h5⟩ := storeH_sound (P := P) (K := K) hs hcr hH
          by_cases hcap : cap = 0
          · have hm : min ys.length len = 0 := by omega
            have harr : arr = #[] := by have := h2.1; rw [hm] at this; simpa using this
            subst harr
            have hw : w' = w := by
              have : (storeCells ⟨b, row * sz' + col, none⟩ (#[] : Array Value).toList).run P w = .ok () w := rfl
              rw [this] at h4
              injection h4 with _ h4
              exact h4.symm
            subst hw
            exact ⟨_, w', pre rfl h1 rfl, h5 _ _ (.raw _) hk⟩
          · have hoff' := hoff hcap
            subst hoff'
            exact ⟨_, w', pre rfl h1 h4, h5 _ _ (.raw _) hk⟩
    · exact hk.elim
  · exact hk.elim

theorem clrs_sound (hs : St G H w) {ts : Array TypeId} {ty t0 e : TypeId} {sz : Nat} (ht0 : ts[0]? = some t0) (hu : P.underlying t0 = some (.slice e)) {zv : AVal} (hz : tyZ P e sz = some zv) {R : Regs} {x : AX} {s : AVal} {sv : Value}
    (hx : x.ev R = some s) (hsv : VRel G s sv) (hk : step P K R H (.clrs sz zv x)) : ∃ cv w', (Builtin.clear_ ts ty #[sv]).run P w = .ok cv w' ∧ Done H w G K cv w' := by
  obtain ⟨hz1, hz2, h0⟩ := tyZ_spec hz
  obtain ⟨z0, hz0, rfl⟩ := zero_all (P := P) hz1
  have htup : VRel G (.tup []) (.tuple #[]) := .tup [] #[] rfl (fun i c v h _ => by simp at h)
  simp only [step, hx] at hk
  unfold Builtin.clear_
  simp only [ht0, List.getElem?_toArray, List.getElem?_cons_zero]
  rw [run_ok (run_underlying hu w)]
  split at hk
  · rename_i heq
    cases heq
    have := VRel.raw_inv hsv
    subst this
    exact ⟨_, w, rfl, G, _, _, G.le_refl, hs, htup, Fr.refl H w, hk⟩
  · rename_i heq
    cases heq
    cases hsv with
    | z base =>
      refine ⟨.tuple #[], w, ?_, G, _, _, G.le_refl, hs, htup, Fr.refl H w, hk⟩
      cases base <;> rfl
  · rename_i b sz' row len cap heq
    cases heq
    split at hk
    · rename_i sz'' es hb
      obtain ⟨e1, e2, hle, hok, hk⟩ := hk
      subst e1
      subst e2
      obtain ⟨arr0, T, lo, hi, hob, _⟩ := own_row hs hb
      obtain ⟨off, rfl, hlc, hoff, hcap⟩ := sl_fits hs hb hsv hob
      by_cases hl0 : len = 0
      · subst hl0
        refine ⟨_, w, rfl, G, _, _, G.le_refl, hs, htup, Fr.refl H w, ?_⟩
        simp only [Nat.add_zero, List.replicate_zero, List.append_nil, List.take_append_drop] at hk
        rwa [set_same hb] at hk
      · have hoff' := hoff (by omega)
        subst hoff'
        have hzs : z0.cells.size = sz := by rw [(cells_rel (vrel_ofValue G z0)).1, hz2]
        have hrow : RowRel G sz (List.replicate len (.ofValue z0)) (Builtin.zeroCells z0.cells len) := by
          have := zeros_rel (n := len) (vrel_ofValue G z0) hz2 h0
          unfold Builtin.zeroCells
          rw [hzs] at this ⊢
          exact this
        obtain ⟨w', h3, h4⟩ := lay_done (K := K) hs h0 (row := row) hb hrow (fun e he => hok e (by rw [List.eq_of_mem_replicate he]; simp)) (by simp; omega)
        refine ⟨.tuple #[], w', ?_, h4 _ _ htup (by simpa using hk)⟩
        cases len with
        | zero => exact absurd rfl hl0
        | succ n =>
          simp only []
          rw [run_ok (hz0 w), run_ok h3]
          rfl
    · exact hk.elim
  · exact hk.elim

theorem s2b_sound (hs : St G H w) {src dst e : TypeId} (h1 : P.underlying src = some .string) (h2 : P.underlying dst = some (.slice e)) (h3 : P.underlying e = some (.int .u8)) {s : ByteArray} (hsz : s.size ≤ 2 ^ 40)
    (hk : ∀ b cap, H b = none → s.size ≤ cap → K (.sl b 1 0 s.size cap) (H.set b (.rows 1 (s.data.toList.map fun c => .raw (.int .u8 c.toNat))))) :
    ∃ cv w', (convert src dst (.string s)).run P w = .ok cv w' ∧ Done H w G K cv w' := by
  obtain ⟨c, hc, hch⟩ := run_chooseCap (P := P) s.size 0 e (by omega) w
  have hrow : RowRel G 1 (s.data.toList.map fun c => .raw (.int .u8 c.toNat)) (s.data.map fun b => .int .u8 b.toNat) := by
    refine ⟨by simp, fun e he => ?_, fun i j c v hcc hv => ?_⟩
    · rw [List.mem_map] at he
      obtain ⟨c, _, rfl⟩ := he
      rfl
    · obtain ⟨e, g1, g2⟩ := cellAt_inv hcc
      rw [List.getElem?_map] at g1
      cases hb : s.data.toList[i]? with
      | none => simp [hb] at g1
      | some u =>
        simp [hb] at g1
        subst g1
        have hj := lt_of_get? g2
        simp [AVal.cells] at hj
        subst hj
        simp [AVal.cells] at g2
        subst g2
        rw [Nat.mul_one, Nat.add_zero, Array.getElem?_map] at hv
        rw [Array.getElem?_toList] at hb
        rw [hb] at hv
        simp at hv
        subst hv
        exact .raw _
  let arr : Array Value := (s.data.map fun b => Value.int .u8 b.toNat) ++ Array.replicate (c - s.size) (Value.int .u8 0)
  have hsz' : arr.size = c := by simp [arr, ByteArray.size_data]; omega
  refine ⟨.slice (some ⟨w.heap.size, 0, none⟩) s.size c, { w with drawn := w.drawn + 1, heap := w.heap.push (.cells arr e (arr.size, arr.size + 1)) }, ?_, ?_⟩
  · unfold convert
    rw [run_ok (run_underlying h1 w), run_ok (run_underlying h2 w)]
    simp only []
    rw [run_ok (run_underlying h3 w)]
    simp only []
    unfold Conv.stringToBytes
    rw [run_ok hch, run_ok (run_newRow e arr)]
    have hmark : ∀ w1 : World, w1.heap = w.heap.push (.cells arr e) → (markStringish ⟨w.heap.size, 0, none⟩).run P w1 = .ok () { w1 with heap := w.heap.push (.cells arr e (arr.size, arr.size + 1)) } := by
      intro w1 hw1
      unfold markStringish
      have hsh : (shape w.heap.size).run P w1 = .ok (some (e, arr.size)) w1 := by
        simp [shape, Sem.run, World.shape?, hw1]
      rw [run_ok hsh]
      simp only [freeze, Sem.run, World.freeze]
      have : (w1.heap.modify w.heap.size fun
        | .cells c elem (lo, hi) => .cells c elem (if lo == hi then (arr.size, arr.size + 1) else (min lo arr.size, max hi (arr.size + 1)))
        | o => o) = w.heap.push (.cells arr e (arr.size, arr.size + 1)) := by
        rw [hw1]
        apply Array.ext
        · simp
        · intro i h1 h2
          simp at h1
          rw [Array.getElem_modify]
          by_cases hi : w.heap.size = i
          · subst hi; simp
          · rw [if_neg hi, Array.getElem_push_lt (by omega), Array.getElem_push_lt (by omega)]
      rw [if_neg (by decide)]
      exact congrArg (fun h => Result.ok () { w1 with heap := h }) this
    rw [run_ok (hmark _ rfl)]
    rfl
  · refine alloc_done hs (sz := 1) (arr := s.data.map fun b => Value.int .u8 b.toNat) (rest := Array.replicate (c - s.size) (Value.int .u8 0)) (T := e) (f := (arr.size, arr.size + 1)) ⟨rfl, rfl, rfl⟩ rfl hrow (fun k hk => ?_) ?_ (hk _ c hs.fresh hc)
    · show ¬ (arr.size ≤ k ∧ k < arr.size + 1)
      have : k < arr.size := hk
      omega
    · refine .sl _ _ _ _ _ 0 arr.size hc (fun _ => by simp) (by simp [Ghost.addSh, arr]) ?_
      rw [hsz']; omega

end
end Heron
end

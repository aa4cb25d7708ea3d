/- The tree: Get, Pages, Count; the tree as one thing. -/
import Derived.Test.YtecfhfddgolpfaaGreatPagesB
import Derived.Maps.RangeWalk
import Derived.Test.YtecfhfddgolpfaaGreatLibD
import Derived.Shelf.Sort.Plain
import Derived.Sort.OwnSortedInts
import Derived.Shelf.Slices.In.SortNone
import Derived.Test.YtecfhfddgolpfaaGreatTreeI

/- Maps with int keys that a loop ranges over: no stamp stands twice. -/
namespace Go.Proofs.YtecfhfddgolpfaaGreat
open Go.RowKit
variable {P : Program} {w w' : World} {t kt et : TypeId} {b n : Nat} {f : Int → Option Value}

/-- The map's stamps are in order. -/
def Stm (w : World) (b : Nat) : Prop := ∃ es clock, w.heap[b]? = some (.map es clock) ∧ MapKept.Stamped es clock
structure MapG (w : World) (b : Nat) (f : Int → Option Value) (n : Nat) : Prop where
  is : MapF w b f n
  stm : Stm w b
theorem MapG.upd {F : Nat → Prop} (h : MapG w b f n) (hU : Upd F w w') (hF : ¬ F b) : MapG w' b f n := by
  refine ⟨h.is.upd hU hF, ?_⟩
  obtain ⟨es, c, h1, h2⟩ := h.stm
  exact ⟨es, c, hU.heap h1 hF, h2⟩
theorem MapG.lt (h : MapG w b f n) : b < w.heap.size := h.is.lt
theorem MapG.notCells (h : MapG w b f n) (cs : Array Value) (E : TypeId) (fr : Nat × Nat) : w.heap[b]? ≠ some (.cells cs E fr) := h.is.notCells cs E fr
theorem MapG.made (w : World) : MapG (w.alloc (.map #[] 0)) w.heap.size (fun _ => none) 0 := ⟨MapF.made w, #[], 0, heap_alloc_new w _, MapKept.stamped_empty 0⟩
theorem MapG.run_upd (h : MapG w b f n) (hm : P.underlying t = some (.map kt et)) (hd : P.underlying kt = some (.int .i64)) (k : Int) (v : Value) :
    ∃ w', (Instr.mapUpdate t (.map (some b)) (.int .i64 k) v).run P w = .ok () w' ∧ MapG w' b (fun j => if j = k then some v else f j) (if (f k).isSome then n else n + 1) ∧ Upd (fun i => i = b) w w' := by
  obtain ⟨w', h1, h2, h3⟩ := h.is.run_upd hm hd k v
  refine ⟨w', h1, ⟨h2, ?_⟩, h3⟩
  obtain ⟨es, clock, hb, -, hk, -⟩ := h.is
  obtain ⟨es2, c2, hb2, hs⟩ := h.stm
  rw [hb] at hb2
  cases hb2
  obtain ⟨es', c', g1, g2, -⟩ := MapKept.mapUpdate_keeps hm hd hb hs (MapF.keys hk) (isKey_int k) h1
  exact ⟨es', c', g1, g2⟩
theorem wpList_updG {ops : Array Oper} {rest : List Oper} {o : Oper} {a : Act} {Q : Exit → Act → World → Prop} (hg : o.guard = none) (m x v : Operand) (t kt et : TypeId) (hop : o.op = Op.mapUpdate t m x v)
    (hm : P.underlying t = some (.map kt et)) (hd : P.underlying kt = some (.int .i64)) (b n : Nat) (f : Int → Option Value) (h : MapG w b f n) (he : a.eval m = .map (some b)) (k : Int) (hx : a.eval x = .int .i64 k) (u : Value) (hv : a.eval v = u) (hf : f k = none)
    (hK : ∀ w', MapG w' b (fun j => if j = k then some u else f j) (n + 1) → Upd (fun i => i = b) w w' → wpList P ops Q rest (a.put o.dst undef) w') : wpList P ops Q (o :: rest) a w := by
  obtain ⟨w', hr, h1, h2⟩ := h.run_upd hm hd k u
  rw [hf] at h1
  refine wpList_plain hg fun K' hK' => ?_
  unfold Oper.wp
  simp [execOp, hop, he, hx, hv, hr, Result.andThen]
  exact hK' _ _ (hK w' h1 h2)

/-! ### ranged over -/
theorem plainElem_bool_inv {H : Type} {e : TypeId} (he : P.underlying e = some .bool) {v : Value} {z : DataW H × List MemPlace} (h : plainElem P e v = some z) : ∃ a, v = .bool a := by
  unfold plainElem at h
  rw [he] at h
  cases v <;> simp at h
  exact ⟨_, rfl⟩
theorem intLit_wf (k : Int) (h : -9223372036854775808 ≤ k ∧ k < 9223372036854775808) : (Lit.int .i64 k).wf = true := by
  have e1 : IntKind.i64.min = -9223372036854775808 := by decide
  have e2 : IntKind.i64.max = 9223372036854775807 := by decide
  simp [Lit.wf, e1, e2]; omega
/-- A map with int keys of range and bools reads. -/
theorem MapG.owns (h : MapG w b f n) (hk : P.underlying kt = some (.int .i64)) (he : P.underlying et = some .bool) (hf : ∀ k v, f k = some v → (-9223372036854775808 ≤ k ∧ k < 9223372036854775808) ∧ ∃ c, v = .bool c) (hn : n ≤ maxLen) :
    ∃ D : DataW Unit, w.ownsMap P kt (plainElem P et) b n D ∧ Maps.size D = n ∧ ∀ z, Maps.has D z = true ↔ ∃ k, z = .int .i64 k ∧ (f k).isSome = true := by
  obtain ⟨es, clock, hb, hz, hks, hnd, hfs⟩ := h.is
  obtain ⟨es2, c2, hb2, hs⟩ := h.stm
  rw [hb] at hb2
  cases hb2
  have hrd : ∀ x ∈ es.toList, ∃ k c, x.key = .int .i64 k ∧ f k = some (.bool c) ∧ Go.WideElems.rd (H := Unit) P kt (plainElem P et) x = some (.int .i64 k, .lit (.bool c)) := fun x hx => by
    obtain ⟨k, hxk⟩ := hks x hx
    have hfx := (hfs k x.val).2 ⟨x, hx, hxk, rfl⟩
    obtain ⟨hr, c, hc⟩ := hf k _ hfx
    refine ⟨k, c, hxk, by rw [hfx, hc], ?_⟩
    have := Go.WideElems.rd_mk (P := P) (k := kt) (R := plainElem (H := Unit) P et) (born := x.born) (Maps.keyOf_int_mk hk (intLit_wf k hr)) (plainElem_bool he c)
    rw [← hxk, ← hc] at this
    exact this
  refine ⟨_, ⟨es, clock, hb, ⟨by omega, hs, fun x hx => ?_⟩, by omega, rfl⟩, ?_, fun z => ?_⟩
  · obtain ⟨k, c, -, -, h3⟩ := hrd x hx
    exact ⟨_, h3⟩
  · simp only [Maps.size]
    rw [(Go.WideShapes.sorted_perm _).length_eq]
    simp [hz]
  · rw [Maps.has_eq, List.any_eq_true]
    constructor
    · rintro ⟨p, hp, hpz⟩
      rw [mem_sorted, List.mem_map] at hp
      obtain ⟨x, hx, rfl⟩ := hp
      obtain ⟨k, c, -, h2, h3⟩ := hrd x hx
      rw [Go.WideElems.rg_of h3] at hpz
      exact ⟨k, (WideAt.sameKey_eq hpz).symm, by rw [h2]; rfl⟩
    · rintro ⟨k, rfl, hk2⟩
      obtain ⟨v, hv⟩ := Option.isSome_iff_exists.1 hk2
      obtain ⟨x, hx, hxk, -⟩ := (hfs k v).1 hv
      obtain ⟨k', c, h1, h2, h3⟩ := hrd x hx
      rw [hxk] at h1
      cases h1
      refine ⟨_, mem_sorted.2 (List.mem_map.2 ⟨x, hx, rfl⟩), ?_⟩
      rw [Go.WideElems.rg_of h3]
      exact WideAt.sameKey_self (by trivial)
theorem wpList_rangeG {ops : Array Oper} {rest : List Oper} {o : Oper} {a : Act} {Q : Exit → Act → World → Prop} (hg : o.guard = none) (m : Operand) (t kt et : TypeId) (hop : o.op = Op.range t m)
    (hm : P.underlying t = some (.map kt et)) (hk : P.underlying kt = some (.int .i64)) (het : P.underlying et = some .bool) (b n : Nat) (f : Int → Option Value) (h : MapG w b f n) (he : a.eval m = .map (some b)) (hf : ∀ k v, f k = some v → (-9223372036854775808 ≤ k ∧ k < 9223372036854775808) ∧ ∃ c, v = .bool c) (hn : n ≤ maxLen)
    (hK : ∀ (w' : World) (D : DataW Unit) (left : Lit → Bool), w'.ranges P kt (plainElem P et) b w.heap.size n D left n → (∀ z, left z = true ↔ ∃ k, z = .int .i64 k ∧ (f k).isSome = true) → Ext w w' → w'.heap.size = w.heap.size + 1 → wpList P ops Q rest (a.put o.dst (.pointer (some ⟨w.heap.size, 0, none⟩))) w') : wpList P ops Q (o :: rest) a w := by
  obtain ⟨D, h1, h2, h3⟩ := h.owns hk het hf hn
  refine wpList_range_own (w := w) hg m t hop kt et (Maps.int_keyed hk) hm (plainElem P et) b n D he h1 fun w' g1 g2 g3 => ?_
  rw [h2] at g1
  exact hK w' D _ g1 h3 (Upd.ofGrown g2 (fun k hk => by cases hk)) g3
theorem wpList_nextG {ops : Array Oper} {rest : List Oper} {o : Oper} {a : Act} {Q : Exit → Act → World → Prop} (hg : o.guard = none) (it : Operand) (hop : o.op = Op.next it false) (kt et : TypeId)
    (hk : P.underlying kt = some (.int .i64)) (het : P.underlying et = some .bool) (b r n : Nat) (D : DataW Unit) (left : Lit → Bool) (cnt : Nat) (hit : a.eval it = .pointer (some ⟨r, 0, none⟩)) (h : w.ranges P kt (plainElem P et) b r n D left cnt)
    (hDone : cnt = 0 → (∀ z, left z = false) → wpList P ops Q rest (a.put o.dst (.tuple #[.bool false])) w)
    (hMore : ∀ (k : Int) (v : Value) (w' : World) (cnt' : Nat), left (.int .i64 k) = true → w'.ranges P kt (plainElem P et) b r n D (fun z => left z && !z.sameKey (.int .i64 k)) cnt' → cnt' < cnt → Upd (fun i => i = r) w w' → w'.heap.size = w.heap.size →
      (Instr.entry (.pointer (some ⟨r, 0, none⟩))).run P w' = .ok (.tuple #[.int .i64 k, v]) w' → wpList P ops Q rest (a.put o.dst (.tuple #[.bool true, .int .i64 k, v])) w') : wpList P ops Q (o :: rest) a w := by
  refine wpList_next_ranges (w := w) hg it hop kt (Maps.int_keyed hk) (plainElem P et) (Value.int .i64) Value.bool (fun key kl hkey => by obtain ⟨x, rfl, _⟩ := Maps.keyOf_int_inv hk hkey; exact ⟨x, rfl⟩) (fun v y hv => plainElem_bool_inv het hv) b r n D left cnt hit h hDone ?_
  intro k c kl y w' cnt' hkey hlk hv hat hrg hlt hgr hsz hen
  obtain ⟨x, hx, rfl, -⟩ := Maps.keyOf_int_inv hk hkey
  cases hx
  exact hMore _ (.bool c) w' cnt' hlk hrg hlt (Upd.ofGrown hgr (fun j hj => by cases hj; exact .inl rfl)) hsz hen
theorem ranges_upd {H : Type} {k : TypeId} {R : Value → Option (DataW H × List MemPlace)} {r : Nat} {D : DataW H} {left : Lit → Bool} {cnt : Nat} {F : Nat → Prop} (h : w.ranges P k R b r n D left cnt) (hU : Upd F w w') (hb : ¬ F b) (hr : ¬ F r) : w'.ranges P k R b r n D left cnt := by
  obtain ⟨es, clock, since, seen, c0, h1, F', hs, hD, h2, rest⟩ := h
  exact ⟨es, clock, since, seen, c0, hU.heap h1 hb, F', hs, hD, hU.heap h2 hr, rest⟩
end Go.Proofs.YtecfhfddgolpfaaGreat

/- slices.Sort at []int: the library's own contract, laid at this program. -/
namespace Go.Proofs.YtecfhfddgolpfaaGreat
open Go.Shelf Go.RowKit

def sort_ren : Ren := {
  f := fun n => match n with
    | 125 => 119
    | 128 => 143
    | 129 => 144
    | 189 => 88
    | 215 => 159
    | 216 => 140
    | 257 => 118
    | 294 => 134
    | 295 => 135
    | 296 => 136
    | 297 => 137
    | 298 => 138
    | 299 => 139
    | 300 => 141
    | 301 => 142
    | 328 => 154
    | 329 => 155
    | 330 => 156
    | 331 => 157
    | 332 => 158
    | 343 => 163
    | _ => 0
  t := fun n => match n with
    | 0 => 0
    | 3 => 3
    | 4 => 4
    | 5 => 5
    | 9 => 9
    | 28 => 62
    | 46 => 110
    | 51 => 201
    | 53 => 30
    | 131 => 149
    | 182 => 222
    | 183 => 223
    | 218 => 239
    | 222 => 243
    | 228 => 251
    | 229 => 252
    | _ => 0
  g := fun n => n }
theorem sort_lays : Lays.n189 Tryz.prog sort_ren := {
  mixed := by kernel_rfl,
  f125 := by kernel_rfl,
  f128 := by kernel_rfl,
  f129 := by kernel_rfl,
  f189 := by kernel_rfl,
  f215 := by kernel_rfl,
  f216 := by kernel_rfl,
  f257 := by kernel_rfl,
  f294 := by kernel_rfl,
  f295 := by kernel_rfl,
  f296 := by kernel_rfl,
  f297 := by kernel_rfl,
  f298 := by kernel_rfl,
  f299 := by kernel_rfl,
  f300 := by kernel_rfl,
  f301 := by kernel_rfl,
  f328 := by kernel_rfl,
  f329 := by kernel_rfl,
  f330 := by kernel_rfl,
  f331 := by kernel_rfl,
  f332 := by kernel_rfl,
  f343 := by kernel_rfl,
  t0 := by kernel_rfl,
  a0 := fun w => by kernel_rfl,
  z0 := fun w => by kernel_rfl,
  v0 := fun w => by kernel_rfl,
  t3 := by kernel_rfl,
  a3 := fun w => by kernel_rfl,
  z3 := fun w => by kernel_rfl,
  v3 := fun w => by kernel_rfl,
  t4 := by kernel_rfl,
  a4 := fun w => by kernel_rfl,
  z4 := fun w => by kernel_rfl,
  v4 := fun w => by kernel_rfl,
  t5 := by kernel_rfl,
  a5 := fun w => by kernel_rfl,
  z5 := fun w => by kernel_rfl,
  v5 := fun w => by kernel_rfl,
  t9 := by kernel_rfl,
  a9 := fun w => by kernel_rfl,
  z9 := fun w => by kernel_rfl,
  v9 := fun w => by kernel_rfl,
  t28 := by kernel_rfl,
  a28 := fun w => by kernel_rfl,
  z28 := fun w => by kernel_rfl,
  v28 := fun w => by kernel_rfl,
  t46 := by kernel_rfl,
  a46 := fun w => by kernel_rfl,
  z46 := fun w => by kernel_rfl,
  v46 := fun w => by kernel_rfl,
  t51 := by kernel_rfl,
  a51 := fun w => by kernel_rfl,
  z51 := fun w => by kernel_rfl,
  v51 := fun w => by kernel_rfl,
  t53 := by kernel_rfl,
  a53 := fun w => by kernel_rfl,
  z53 := fun w => by kernel_rfl,
  v53 := fun w => by kernel_rfl,
  t131 := by kernel_rfl,
  a131 := fun w => by kernel_rfl,
  z131 := fun w => by kernel_rfl,
  v131 := fun w => by kernel_rfl,
  t182 := by kernel_rfl,
  a182 := fun w => by kernel_rfl,
  z182 := fun w => by kernel_rfl,
  v182 := fun w => by kernel_rfl,
  t183 := by kernel_rfl,
  a183 := fun w => by kernel_rfl,
  z183 := fun w => by kernel_rfl,
  v183 := fun w => by kernel_rfl,
  t218 := by kernel_rfl,
  a218 := fun w => by kernel_rfl,
  z218 := fun w => by kernel_rfl,
  v218 := fun w => by kernel_rfl,
  t222 := by kernel_rfl,
  a222 := fun w => by kernel_rfl,
  z222 := fun w => by kernel_rfl,
  v222 := fun w => by kernel_rfl,
  t228 := by kernel_rfl,
  a228 := fun w => by kernel_rfl,
  z228 := fun w => by kernel_rfl,
  v228 := fun w => by kernel_rfl,
  t229 := by kernel_rfl,
  a229 := fun w => by kernel_rfl,
  z229 := fun w => by kernel_rfl,
  v229 := fun w => by kernel_rfl }
end Go.Proofs.YtecfhfddgolpfaaGreat

/- slices.Sort of a row of ints of the call's own. -/
namespace Go.Proofs.YtecfhfddgolpfaaGreat
open Go.RowKit
variable {w : World}

theorem sort_int {v : Value} {zs : List Int} (h : Own w 3 v (intv zs)) (hz : zs.length ≤ 1000000000) :
    Calls Tryz.prog 88 #[v] w fun e w' => e = .returned (.tuple #[]) ∧ (∃ ts, ts.Perm zs ∧ Own w' 3 v (intv ts)) ∧ Upd (fun k => v.ownBlock = some k) w w' := by
  unfold Own at h
  rw [intv_length] at h
  obtain ⟨h1, ⟨rfl, h0⟩ | ⟨g, cap, cur, rfl, hbase, hb, h2, h3, h4, h5⟩⟩ := h
  · have := Go.Proofs.Any.slices_Sort_int_none sort_lays none 0 w
    refine this.mono ?_
    rintro e w' ⟨rfl, rfl⟩
    obtain rfl : zs = [] := List.eq_nil_of_length_eq_zero h0
    exact ⟨rfl, ⟨[], List.Perm.refl _, Own.nil _ _⟩, Upd.refl _ _⟩
  · have hgl : g < w.heap.size := heap_lt hb
    have hs := Go.Proofs.Any.slices_Sort_int sort_lays g 0 cap zs w (holds_of_blockI hb (by rw [Nat.mul_one] at h5; exact h5)) hgl (by omega)
    refine hs.mono ?_
    rintro e w' ⟨rfl, nn, os, rfl⟩
    have hl := List.length_mergeSort (le := fun x y : Int => decide (x ≤ y)) zs
    refine ⟨rfl, ⟨zs.mergeSort fun x y => decide (x ≤ y), List.mergeSort_perm zs _, ?_⟩, Upd.ofGrown (grownBy_sortedI _) (fun k hk => by cases hk; exact .inl rfl)⟩
    have := ownsRow_sortedI (n := nn) (os := os) hl hbase hb h2 h3 h4
    unfold Own
    rw [intv_length, hl]
    exact this
end Go.Proofs.YtecfhfddgolpfaaGreat

/- The tree's walks: Get. -/
namespace Go.Proofs.YtecfhfddgolpfaaGreat
open Go.RowKit
variable {w w' : World} {F G : Nat → Prop} {p nf pool dn N t : Nat} {σ : List Int} {C : Int → Bytes} {h : Nat} {x : Nd} {es : List Ent} {ps : List Int}

def GetV (w : World) (v : Value) (o : Option Bytes) : Prop := match o with
  | some b => Bts w v b
  | none => v = .slice none 0 0
def GetPost (w : World) (F : Nat → Prop) (p nf pool dn : Nat) (σ : List Int) (C : Int → Bytes) (N : Nat) (o : Option Bytes) (e : Ending) (w' : World) : Prop :=
  ∃ v F', e = .returned (.tuple #[v, .bool o.isSome, .int .i64 0]) ∧ GetV w' v o ∧ Pgs w' F' p nf pool dn σ C N ∧ (∀ i, F' i → F i ∨ w.heap.size ≤ i) ∧ Upd F w w'
set_option maxRecDepth 100000 in
set_option maxHeartbeats 4000000 in
theorem get_tree {root : Int} {H : Nat} (ht : TrRow w t p root) (hP : Pgs w F p nf pool dn σ C N) (hN : N + 4 * H + 4 ≤ 1000000000) (hH : H ≤ 20) (hT : WTree C H root es ps) (ho : ∀ m ∈ ps, stOf σ m = 2) (kv : Value) (key : Bytes) (hkey : Bts w kv key) :
    Calls Tryz.prog 32 #[.pointer (some ⟨t, 0, none⟩), kv] w (GetPost w F p nf pool dn σ C (N + 4 * H) (look key es)) := by
  have q1 : w.cell? ⟨t, 1, none⟩ = some (.int .i64 root) := by rw [cell_heap ht]; rfl
  obtain ⟨kp, kc, rfl, -⟩ := hkey.open
  obtain ⟨kl, hkl⟩ : ∃ kl, kl = key.length := ⟨_, rfl⟩
  rw [← hkl] at hkey ⊢
  have HT := Lib.hid ht
  have HP := Lib.hid hP
  have HTF := Lib.hid (ht.not hP)
  have HW := Lib.hid hT
  have HO := Lib.hid ho
  have HK := Lib.hid hkey
  clear ht hP hT ho hkey hkl
  go_enter Tryz.func32, Tryz.ntmps32
  go_wp2
  go_loopw [7, 8] (fun nv dv wr => ∃ (k r : Nat) (Fk : Nat → Prop) (n : Int) (es' : List Ent) (ps' : List Int), nv = .int .i64 n ∧ dv = .int .i64 ((k : Int) + 1) ∧ k + r = H ∧ WTree C r n es' ps' ∧ look key es' = look key es ∧ (∀ m ∈ ps', stOf σ m = 2) ∧ Pgs wr Fk p nf pool dn σ C (N + 4 * k) ∧ (∀ i, Fk i → F i ∨ w.heap.size ≤ i) ∧ Upd F w wr) (fun _ dv _ => H + 1 - (intOf dv).toNat)
  case atStart => exact ⟨0, H, F, root, es, ps, rfl, by go_num, by omega, HW.out, rfl, HO.out, HP.out.mono (by omega), fun i hi => .inl hi, Upd.refl _ _⟩
  case round =>
    obtain ⟨k, r, Fk, n, es', ps', rfl, rfl, hkr, hwt, hlk, hon, hpk, hFk, hU⟩ := hrel
    have HLK := Lib.hid hlk
    clear hlk
    rcases hwt with ⟨rfl, rfl, rfl, -⟩ | htr
    · obtain rfl : k = H := by omega
      have HK2 := Lib.hid (And.intro hpk (And.intro hFk hU))
      clear hpk hFk hU hon
      go_wp2
      go_ret3
      have e : look key es = none := by rw [← HLK.out]; rfl
      rw [e]
      exact ⟨_, Fk, rfl, rfl, HK2.out⟩
    · obtain ⟨r, rfl⟩ : ∃ r', r = r' + 1 := ⟨r - 1, by have := htr.pos; omega⟩
      obtain ⟨x, ps0, hk0, hC, hsz, hb, rfl⟩ := htr
      have htw : TrRow wr t p root := hU.heap HT.out HTF.out
      have hn2 := hon n (by simp)
      have hn0 : n ≠ -1 := fun e => by have := stOf_range (σ := σ) (k := n) (by omega); omega
      have hnb : (n == -1) = false := by simpa using hn0
      have hnb2 : (n != -1) = true := by simpa using hn0
      have hrd := read_tree htw hpk (by omega) n (.inr hn2) x hC hb.shaped hsz ((k : Int) + 1) (by omega)
      have HRD := Lib.hid hrd
      have HB := Lib.hid hb
      have HKW := Lib.hid (HK.out.upd hU HP.out.notByte)
      have HPN := Lib.hid (fun b cs fr (hb : Fk b) => hpk.notByte b cs fr hb)
      have HU := Lib.hid (And.intro hFk (And.intro hU hon))
      have HX := Lib.hid (And.intro hb.shaped (hb.shaped.small (by omega)))
      have hk20 : k ≤ 20 := by omega
      clear hrd hU hon hpk hFk htw hb hC hsz hk0 hn2
      cases hl : x.leaf with
      | true =>
        rw [hl] at HRD
        go_wp2_with fail
        refine HRD.out.mono ?_
        rintro e w1 ⟨F1, sk, sv, sc, kvs, vvs, rfl, hap, h1, hF1, hU1⟩
        have hkw1 := HKW.out.upd hU1 HPN.out
        obtain ⟨ak, ck, av, cv, ac, cc, rfl, rfl, rfl, hnode⟩ := hap.own.node
        obtain ⟨nk, hnk⟩ : ∃ nk, nk = x.keys.length := ⟨_, rfl⟩
        obtain ⟨nv, hnv⟩ : ∃ nv, nv = x.vals.length := ⟨_, rfl⟩
        obtain ⟨nc, hnc⟩ : ∃ nc, nc = x.kids.length := ⟨_, rfl⟩
        rw [← hnk, ← hnv, ← hnc] at hap ⊢
        obtain ⟨W1, hW1⟩ : ∃ W1, W1 = w1.alloc (.cells #[.bool true, .slice ak nk ck, .slice av nv cv, .slice ac nc cc] 144) := ⟨_, rfl⟩
        have hx1 : Ext w1 W1 := by rw [hW1]; exact (Upd.refl _ w1).alloc _
        have hr1 : W1.heap[w1.heap.size]? = some (.cells #[.bool true, .slice ak nk ck, .slice av nv cv, .slice ac nc cc] 144 (0, 0)) := by rw [hW1]; exact heap_alloc_new w1 _
        have y0 := one_cells hr1 0 _ rfl
        have y1 := one_cells hr1 1 _ rfl
        have y2 := one_cells hr1 2 _ rfl
        have y3 := one_cells hr1 3 _ rfl
        have hfd := find_any (.bool true) (.slice av nv cv) (.slice ac nc cc) (.slice ak nk ck) kvs (.slice kp kl kc) x.keys key W1 (own_rd (hap.ext hx1).own.k) (hap.ext hx1).own.kl (hkw1.ext hx1) HX.out.1.srt (by have := HX.out.2.n; omega)
        have hr0 : r = 0 ∧ es' = x.keys.zip x.vals := by
          rcases HB.out.2 with ⟨e, -, e2, -⟩ | ⟨-, e, -⟩
          · exact ⟨e, e2⟩
          · rw [hl] at e; simp at e
        have hlen := (HX.out.1.leafv hl).1
        have hlook := look_zip key x.keys x.vals hlen HX.out.1.srt
        rw [← hr0.2, HLK.out] at hlook
        have HLOOK := Lib.hid hlook
        have HW1 := Lib.hid hW1
        have HA := Lib.hid (And.intro h1 (And.intro hF1 (And.intro hU1 (And.intro (hap.ext hx1) (And.intro hx1 hr1)))))
        have HL := Lib.hid (And.intro hnk (And.intro hnv hlen))
        rw [hW1] at y0 y1 y2 y3
        by_cases hf : ∃ h : fk x.keys key < x.keys.length, x.keys[fk x.keys key] = key
        · rw [decide_eq_true hf] at hfd
          obtain ⟨q, hq⟩ : ∃ q, q = fk x.keys key := ⟨_, rfl⟩
          rw [if_pos hf, ← hq] at hlook
          rw [← hq] at hfd
          have hql : q < vvs.length := by obtain ⟨hf, -⟩ := hf; rw [hap.own.vl.1]; omega
          have HLK2 := Lib.hid hlook
          have HFD := Lib.hid hfd
          have HQ := Lib.hid hql
          have hqn : q < nv := by rw [hnv, ← hap.own.vl.1]; exact hql
          have hap1 := hap.ext hx1
          obtain ⟨gv, cv', cur, hge, hgv, -⟩ := own_open hap1.own.v (by omega)
          simp only [Value.slice.injEq] at hge
          obtain ⟨rfl, hge2, rfl⟩ := hge
          have HGE := Lib.hid hge2
          have hgl : gv < w1.heap.size := by
            have := own_lt hap.own.v (k := gv) rfl; exact this
          clear hnode hap h1 hF1 hU1 hnk hnv hnc hx1 hr1 hfd hr0 hlen hlook hW1 hf hq hql hkw1 hgv hap1 hge2
          go_wp2_with fail
          rw [← HW1.out]
          refine HFD.out.mono ?_
          rintro e w2 ⟨rfl, hU2⟩
          obtain ⟨h1, hF1, hU1, hap, hx1, hr1⟩ := HA.out
          have hap2 := hap.ext hU2
          have y2' := one_cells (hU2.heap hr1 (fun f => f)) 2 _ rfl
          obtain ⟨uv, hu1⟩ : ∃ uv, vvs[q]? = some uv := ⟨_, List.getElem?_eq_getElem HQ.out⟩
          obtain ⟨bq, hvq⟩ : ∃ b, x.vals[q]? = some b := ⟨_, List.getElem?_eq_getElem (by rw [← hap2.own.vl.1]; exact HQ.out)⟩
          have hu2 : Bts w2 uv bq := hap2.own.vl.2 q uv bq hu1 hvq
          have hvo := hap2.own.v
          unfold Own at hvo
          rw [← HGE.out] at hvo
          have cg : w2.cell? ⟨gv, q, none⟩ = some uv := by rw [hvo.cellAt q (by omega)]; exact hu1
          have H2 := Lib.hid (And.intro hu2 hU2)
          have HVQ := Lib.hid (HLK2.out.trans hvq)
          clear h1 hF1 hU1 hap hx1 hr1 hap2 hu1 hu2 hvo hU2 hvq y0 y1 y2 y3
          obtain ⟨up, un, uc, rfl⟩ : ∃ up un uc, uv = .slice up un uc := by
            obtain ⟨up, uc, e, -⟩ := H2.out.1.open
            exact ⟨up, _, uc, e⟩
          go_wp2_with fail
          go_ret3
          rw [HVQ.out]
          obtain ⟨h1, hF1, hU1, hap, hx1, hr1⟩ := HA.out
          obtain ⟨hFk, hU, hon⟩ := HU.out
          exact ⟨_, F1, rfl, H2.out.1, ((h1.mono (by omega)).ext hx1).ext H2.out.2, fun i hi => (hF1 i hi).elim (hFk i) (fun e => .inr (by have := hU.size; omega)), ((hU.trans hU1 hFk).andExt hx1).andExt H2.out.2⟩
        · rw [decide_eq_false hf] at hfd
          rw [if_neg hf] at hlook
          have HLK2 := Lib.hid hlook
          have HFD := Lib.hid hfd
          clear hnode hap h1 hF1 hU1 hnk hnv hnc hx1 hr1 hfd hr0 hlen hlook hW1 hf hkw1
          go_wp2_with fail
          rw [← HW1.out]
          refine HFD.out.mono ?_
          rintro e w2 ⟨rfl, hU2⟩
          have H2 := Lib.hid hU2
          clear hU2 y0 y1 y2 y3
          go_wp2_with fail
          go_ret3
          rw [HLK2.out]
          obtain ⟨h1, hF1, hU1, hap, hx1, hr1⟩ := HA.out
          obtain ⟨hFk, hU, hon⟩ := HU.out
          exact ⟨_, F1, rfl, rfl, ((h1.mono (by omega)).ext hx1).ext H2.out, fun i hi => (hF1 i hi).elim (hFk i) (fun e => .inr (by have := hU.size; omega)), ((hU.trans hU1 hFk).andExt hx1).andExt H2.out⟩
      | false =>
        obtain ⟨i1, i2, i3⟩ := HX.out.1.inn hl
        obtain ⟨c, hc⟩ : ∃ c, c = kidx x.keys key := ⟨_, rfl⟩
        have hcle := kidx_le x.keys key
        rw [← hc] at hcle
        have hcl : c < x.kids.length := by omega
        obtain ⟨L, s, R, hat⟩ := HB.out.at hl hcl
        obtain ⟨kd, hkd⟩ : ∃ kd, x.kids[c]? = some kd := ⟨_, List.getElem?_eq_getElem hcl⟩
        have htr := hat.kid hkd
        have hlk2 : look key s.1 = look key es := by
          rw [← HLK.out, hat.es, List.append_assoc, look_app_left (hat.low hc), look_app_right (hat.high HX.out.1 hl hc)]
        have hsub : ∀ m ∈ s.2, m ∈ n :: ps0 := fun m hm => by rw [hat.ps]; simp [hm]
        have HTR := Lib.hid (And.intro htr (And.intro hlk2 (And.intro hsub hkd)))
        rw [hl] at HRD
        clear htr hlk2 hsub hat i1 i3 hkd
        go_wp2_with fail
        refine HRD.out.mono ?_
        rintro e w1 ⟨F1, sk, sv, sc, kvs, vvs, rfl, hap, h1, hF1, hU1⟩
        have hkw1 := HKW.out.upd hU1 HPN.out
        obtain ⟨gc, cc, cur, rfl, hgc, -⟩ := own_open hap.own.c (by rw [intv_length]; omega)
        obtain ⟨ak, ck, av, cv, -, -, rfl, rfl, -, -⟩ := hap.own.node
        obtain ⟨nk, hnk⟩ : ∃ nk, nk = x.keys.length := ⟨_, rfl⟩
        obtain ⟨nv, hnv⟩ : ∃ nv, nv = x.vals.length := ⟨_, rfl⟩
        obtain ⟨nc, hnc⟩ : ∃ nc, nc = (intv x.kids).length := ⟨_, rfl⟩
        rw [← hnk, ← hnv, ← hnc] at hap
        rw [← hnk, ← hnv, ← hnc]
        obtain ⟨W1, hW1⟩ : ∃ W1, W1 = w1.alloc (.cells #[.bool false, .slice ak nk ck, .slice av nv cv, .slice (some ⟨gc, 0, none⟩) nc cc] 144) := ⟨_, rfl⟩
        have hx1 : Ext w1 W1 := by rw [hW1]; exact (Upd.refl _ w1).alloc _
        have hr1 : W1.heap[w1.heap.size]? = some (.cells #[.bool false, .slice ak nk ck, .slice av nv cv, .slice (some ⟨gc, 0, none⟩) nc cc] 144 (0, 0)) := by rw [hW1]; exact heap_alloc_new w1 _
        have y0 := one_cells hr1 0 _ rfl
        have hap1 := hap.ext hx1
        have hkk : ∀ wz, Ext W1 wz → Calls Tryz.prog 57 #[.agg #[.bool false, .slice ak nk ck, .slice av nv cv, .slice (some ⟨gc, 0, none⟩) nc cc], .slice kp kl kc] wz fun e w' => e = .returned (.int .i64 (kidx x.keys key : Nat)) ∧ Ext wz w' := fun wz hz =>
          kid_any (.bool false) (.slice av nv cv) (.slice (some ⟨gc, 0, none⟩) nc cc) (.slice ak nk ck) kvs (.slice kp kl kc) x.keys key wz (own_rd (hap1.ext hz).own.k) (hap1.ext hz).own.kl ((hkw1.ext hx1).ext hz) HX.out.1.srt (by have := HX.out.2.n; omega)
        rw [← hc] at hkk
        have hco := hap1.own.c
        unfold Own at hco
        rw [← hnc] at hco
        have cg : W1.cell? ⟨gc, c, none⟩ = some (.int .i64 kd) := by
          rw [hco.cellAt c (by rw [hnc, intv_length]; omega)]
          rw [intv, List.getElem?_map, HTR.out.2.2.2]; rfl
        have hS0 : W1.drew.cell? ⟨w1.heap.size, 0, none⟩ = some (.bool false) ∧ W1.drew.cell? ⟨w1.heap.size, 1, none⟩ = some (.slice ak nk ck) ∧ W1.drew.cell? ⟨w1.heap.size, 2, none⟩ = some (.slice av nv cv) ∧ W1.drew.cell? ⟨w1.heap.size, 3, none⟩ = some (.slice (some ⟨gc, 0, none⟩) nc cc) ∧ W1.drew.cell? ⟨gc, c, none⟩ = some (.int .i64 kd) :=
          ⟨one_cells hr1 0 _ rfl, one_cells hr1 1 _ rfl, one_cells hr1 2 _ rfl, one_cells hr1 3 _ rfl, cg⟩
        have HKK := Lib.hid hkk
        have HA := Lib.hid (And.intro h1 (And.intro hF1 (And.intro hU1 hx1)))
        have HW1 := Lib.hid hW1
        have hcn : c < nc := by rw [hnc, intv_length]; omega
        have hgl : gc < w1.heap.size := heap_lt hgc
        have hxd : Ext W1 W1.drew := (Upd.refl _ W1).drew
        have HXD := Lib.hid hxd
        rw [hW1] at y0
        clear hap h1 hF1 hU1 hnk hnv hnc hx1 hr1 hap1 hkk hco cg hW1 hgc hkw1 hcl hcle hc hxd
        go_wp2_with fail
        rw [← HW1.out]
        clear y0
        go_region_held3 (fun w' => w'.cell? ⟨w1.heap.size, 0, none⟩ = some (.bool false) ∧ w'.cell? ⟨w1.heap.size, 1, none⟩ = some (.slice ak nk ck) ∧ w'.cell? ⟨w1.heap.size, 2, none⟩ = some (.slice av nv cv) ∧ w'.cell? ⟨w1.heap.size, 3, none⟩ = some (.slice (some ⟨gc, 0, none⟩) nc cc) ∧ w'.cell? ⟨gc, c, none⟩ = some (.int .i64 kd))
          (first
            | assumption
            | exact hS0)
          (first
            | (go_at_call 57
               refine (HKK.out _ HXD.out).mono ?_
               rintro e w5 ⟨rfl, hU5⟩
               have hS1 : w5.cell? ⟨w1.heap.size, 0, none⟩ = some (.bool false) ∧ w5.cell? ⟨w1.heap.size, 1, none⟩ = some (.slice ak nk ck) ∧ w5.cell? ⟨w1.heap.size, 2, none⟩ = some (.slice av nv cv) ∧ w5.cell? ⟨w1.heap.size, 3, none⟩ = some (.slice (some ⟨gc, 0, none⟩) nc cc) ∧ w5.cell? ⟨gc, c, none⟩ = some (.int .i64 kd) :=
                 ⟨hU5.cell hS0.1 (fun f => f), hU5.cell hS0.2.1 (fun f => f), hU5.cell hS0.2.2.1 (fun f => f), hU5.cell hS0.2.2.2.1 (fun f => f), hU5.cell hS0.2.2.2.2 (fun f => f)⟩
               have H5 := Lib.hid hU5
               clear hU5))
        go_wp2_with fail
        go_roundw
        case rel =>
          obtain ⟨h1, hF1, hU1, hx1⟩ := HA.out
          obtain ⟨hFk, hU, hon⟩ := HU.out
          obtain ⟨htr, hlk2, hsub, hkd⟩ := HTR.out
          have hxx : Ext w1 w5 := (hx1.andExt HXD.out).andExt H5.out
          exact ⟨k + 1, r, F1, kd, s.1, s.2, rfl, by go_num, by omega, .inr htr, hlk2, fun m hm => hon m (hsub m hm), (h1.mono (by omega)).ext hxx, fun i hi => (hF1 i hi).elim (hFk i) (fun e => .inr (by have := hU.size; omega)), (hU.trans hU1 hFk).andExt hxx⟩
        case measure => simp [intOf]; omega
end Go.Proofs.YtecfhfddgolpfaaGreat

/- The tree's walks: collect. -/
namespace Go.Proofs.YtecfhfddgolpfaaGreat
open Go.RowKit
variable {w w' : World} {F G : Nat → Prop} {p nf pool dn N t : Nat} {σ : List Int} {C : Int → Bytes} {h : Nat} {x : Nd} {es : List Ent} {ps : List Int}

theorem Body.kids {sub : Int → List Ent → List Int → Prop} (hb : Body sub h x es ps) : ∃ ss : List (List Ent × List Int), ss.length = x.kids.length ∧ (∀ (i : Nat) (k : Int) (s : List Ent × List Int), x.kids[i]? = some k → ss[i]? = some s → sub k s.1 s.2) ∧ ps = pgsOf ss := by
  obtain ⟨hx, hb⟩ := hb
  rcases hb with ⟨-, hl, -, hp⟩ | ⟨-, -, ss, s1, s2, -, -, hp⟩
  · have := (hx.leafv hl).2.1
    exact ⟨[], by rw [this]; rfl, fun i k s _ h => by simp at h, hp⟩
  · exact ⟨ss, s1, s2, hp⟩
theorem zero_bool (w : World) : (zeroValue 4).run Tryz.prog w = .ok (.bool false) w := by
  have hi : Tryz.prog.info? 4 = some Tryz.t4 := by kernel_rfl
  simp [zeroValue, typeInfo, hi, Result.andThen, Tryz.t4]
/-- What has been seen. -/
def seenF (f : Int → Option Value) (ps : List Int) : Int → Option Value := fun j => if j ∈ ps then some (.bool true) else f j
theorem seenF_app (f : Int → Option Value) (a b : List Int) : seenF (seenF f a) b = seenF f (a ++ b) := by
  funext j; unfold seenF
  by_cases h1 : j ∈ b
  · simp [h1]
  · by_cases h2 : j ∈ a <;> simp [h1, h2]
theorem pgsOf_succ (ss : List (List Ent × List Int)) (j : Nat) (h : j < ss.length) : pgsOf (ss.take (j + 1)) = pgsOf (ss.take j) ++ ss[j].2 := by
  unfold pgsOf
  rw [List.take_succ_eq_append_getElem h, List.map_append, List.flatten_append]; simp
def ColPost (w : World) (F : Nat → Prop) (p nf pool dn : Nat) (σ : List Int) (C : Int → Bytes) (N sb cnt : Nat) (f : Int → Option Value) (ps : List Int) (e : Ending) (w' : World) : Prop :=
  ∃ F', e = .returned (.int .i64 0) ∧ MapG w' sb (seenF f ps) (cnt + ps.length) ∧ Pgs w' F' p nf pool dn σ C (N + 4 * ps.length) ∧ (∀ i, F' i → F i ∨ w.heap.size ≤ i) ∧ Upd (fun i => F i ∨ i = sb) w w'
set_option maxRecDepth 100000 in
set_option maxHeartbeats 4000000 in
theorem collect_tree {root : Int} : ∀ (H : Nat) (w : World) (F : Nat → Prop) (N : Nat) (n : Int) (es : List Ent) (ps : List Int) (deep : Int) (sb cnt : Nat) (f : Int → Option Value), TrRow w t p root → Pgs w F p nf pool dn σ C N → N + 4 * ps.length ≤ 1000000000 → Tree C H n es ps → Own2 σ ps → 0 ≤ deep → deep + H ≤ 21 → MapG w sb f cnt → (∀ m ∈ ps, f m = none) → ¬ F sb →
    Calls Tryz.prog 87 #[.pointer (some ⟨t, 0, none⟩), .int .i64 n, .int .i64 deep, .map (some sb)] w (ColPost w F p nf pool dn σ C N sb cnt f ps) := by
  intro H
  induction H with
  | zero => intro w F N n es ps deep sb cnt f _ _ _ ht; exact ht.elim
  | succ H ih =>
    intro w F N n es ps deep sb cnt f htr hP hN ht ho hd0 hd hM hf hsb
    obtain ⟨x, ps0, hk0, hC, hsz, hb, rfl⟩ := ht
    have hx := hb.shaped
    obtain ⟨ss, hs1, hs2, rfl⟩ := hb.kids
    have hn2 := ho.on n (by simp)
    have hn0 : n ≠ -1 := fun e => by have := stOf_range (σ := σ) (k := n) (by omega); omega
    have hnb : (n == -1) = false := by simpa using hn0
    have hkn : x.kids.length ≤ 5000 := by have := (hx.small (by omega)).cn; omega
    simp only [List.length_cons] at hN
    have HRD := Lib.hid (read_tree htr hP (by omega) n (.inr hn2) x hC hx hsz deep (by omega))
    have HT := Lib.hid (And.intro htr (htr.not hP))
    have HM := Lib.hid hM
    have HF := Lib.hid (And.intro hf hsb)
    have HO := Lib.hid ho
    have HS := Lib.hid (And.intro hs1 hs2)
    have HIH := Lib.hid ih
    have HNL := Lib.hid hN
    have HPN := Lib.hid (fun b cs fr (hb : F b) => hP.notByte b cs fr hb)
    clear htr hP ho hM hf hsb hb hs1 hs2 ih hC hsz hk0 hn2 hN
    go_enter Tryz.func87, Tryz.ntmps87
    go_wp2_with fail
    refine HRD.out.mono ?_
    rintro e w1 ⟨F1, sk, sv, sc, kvs, vvs, rfl, hap, h1, hF1, hU1⟩
    obtain ⟨ak, ck, av, cv, ac, cc, rfl, rfl, rfl, -⟩ := hap.own.node
    obtain ⟨nc, hnc⟩ : ∃ nc, nc = x.kids.length := ⟨_, rfl⟩
    rw [← hnc] at hap ⊢
    have hnc5 : nc ≤ 5000 := by omega
    obtain ⟨W1, hW1⟩ : ∃ W1, W1 = w1.alloc (.cells #[.bool x.leaf, .slice ak x.keys.length ck, .slice av x.vals.length cv, .slice ac nc cc] 144) := ⟨_, rfl⟩
    have hx1 : Ext w1 W1 := by rw [hW1]; exact (Upd.refl _ w1).alloc _
    have hr1 : W1.heap[w1.heap.size]? = some (.cells #[.bool x.leaf, .slice ak x.keys.length ck, .slice av x.vals.length cv, .slice ac nc cc] 144 (0, 0)) := by rw [hW1]; exact heap_alloc_new w1 _
    have hM1 : MapG W1 sb f cnt := (HM.out.upd hU1 HF.out.2).upd hx1 (fun f => f)
    have hfn : f n = none := HF.out.1 n (by simp)
    have y3 := one_cells hr1 3 _ rfl
    have HA := Lib.hid (And.intro (hap.ext hx1) (And.intro (h1.ext hx1) (And.intro hF1 (And.intro hU1 (And.intro hx1 hr1)))))
    have HW1 := Lib.hid hW1
    have HM1 := Lib.hid hM1
    have HFN := Lib.hid hfn
    have HNC := Lib.hid hnc
    have HZ := Lib.hid (zero_bool W1)
    rw [hW1] at y3
    clear hap h1 hF1 hU1 hx1 hr1 hM1 hfn hnc hW1
    go_wp2_with (first
      | (rw [← HW1.out]; at_lookup; refine wpList_lookF rfl _ _ 178 3 4 false rfl (by kernel_rfl) (by kernel_rfl) sb cnt f HM1.out.is rfl n rfl _ HZ.out ?_; rw [HFN.out])
      | (at_mapUpdate
         refine wpList_updG rfl _ _ _ 178 3 4 rfl (by kernel_rfl) (by kernel_rfl) sb cnt f HM1.out rfl n rfl _ rfl HFN.out ?_
         intro w2 hm2 hU2
         have hr2 := hU2.heap HA.out.2.2.2.2.2 (fun e => HM1.out.notCells _ _ _ (e ▸ HA.out.2.2.2.2.2))
         have y32 := one_cells hr2 3 _ rfl
         have H2 := Lib.hid (And.intro hm2 hU2)
         clear hm2 hU2 hr2)
      | fail)
    obtain ⟨hap, h1, hF1, hU1, hx1, hr1⟩ := HA.out
    obtain ⟨hm2, hU2⟩ := H2.out
    have hsbF1 : ¬ F1 sb := fun e => (hF1 sb e).elim HF.out.2 (by have := HM.out.lt; omega)
    have hnb2 : ∀ b cs fr, b = sb → W1.heap[b]? ≠ some (.cells cs 5 fr) := by rintro b cs fr rfl; exact HM1.out.notCells _ _ _
    have hcsb : ∀ k, (Value.slice ac nc cc).ownBlock = some k → k ≠ sb := fun k hk e => by
      obtain ⟨cur, hc⟩ := ownN_type hap.own.c hk
      rw [e] at hc; exact HM1.out.notCells _ _ _ hc
    have hc2 := own_ext hap.own.c hU2 hcsb
    have h2 := h1.upd hU2 (fun i hi e => hsbF1 (e ▸ hi)) hnb2
    have hme : (fun j => if j = n then some (Value.bool true) else f j) = seenF f [n] := by funext j; simp [seenF]
    have hm2 : MapG w2 sb (seenF f [n]) (cnt + 1) := by rw [← hme]; exact hm2
    have hU02 : Upd (fun i => F i ∨ i = sb) w w2 := ((hU1.mono (fun i _ e => .inl e)).andExt hx1).trans hU2 (fun i e => .inl (.inr e))
    have hcl : ∀ k, (Value.slice ac nc cc).ownBlock = some k → ¬ F1 k ∧ k < w2.heap.size := fun k hk => ⟨hap.fc k hk, own_lt hc2 hk⟩
    have htr2 : TrRow w2 t p root := hU02.heap HT.out.1 (fun e => e.elim HT.out.2 (fun e => by have := HT.out.1; rw [e] at this; exact HM.out.notCells _ _ _ this))
    have hs12 := hU1.size
    have hs22 := hU02.size
    have hF1w : ∀ i, F1 i → F i ∨ w.heap.size ≤ i := hF1
    have htF1 : ¬ F1 t := (show TrRow W1 t p root from hx1.heap (hU1.heap HT.out.1 HT.out.2) (fun f => f)).not h1
    have htsb : t ≠ sb := fun e => by have := HT.out.1; rw [e] at this; exact HM.out.notCells _ _ _ this
    have HB2 := Lib.hid (And.intro hm2 (And.intro h2 (And.intro hU02 (And.intro hc2 (And.intro hcl (And.intro htr2 (And.intro hF1w (And.intro hsbF1 (And.intro hcsb (And.intro htF1 htsb))))))))))
    clear hap h1 hF1 hU1 hx1 hr1 hm2 hU2 hsbF1 hnb2 hcsb hc2 h2 hme hU02 hcl htr2 hs12 hs22 hF1w y3 htF1 htsb
    have HSW := Lib.hid (show w.heap.size ≤ w2.heap.size from HB2.out.2.2.1.size)
    go_loopw [34] (fun iv wr => ∃ (j : Nat) (Fj : Nat → Prop), j ≤ x.kids.length ∧ iv = .int .i64 j ∧ MapG wr sb (seenF f (n :: pgsOf (ss.take j))) (cnt + 1 + (pgsOf (ss.take j)).length) ∧ Pgs wr Fj p nf pool dn σ C (N + 4 + 4 * (pgsOf (ss.take j)).length) ∧ (∀ i, Fj i → F1 i ∨ w2.heap.size ≤ i) ∧ Upd (fun i => F1 i ∨ i = sb) w2 wr) (fun iv _ => x.kids.length - (intOf iv).toNat)
    case atStart =>
      obtain ⟨hm2, h2, hU02, hc2, hcl, htr2, hF1w, hsbF1, hcsb, htF1, htsb⟩ := HB2.out
      exact ⟨0, F1, by omega, rfl, by simpa [pgsOf] using hm2, by simpa [pgsOf] using h2, fun i hi => .inl hi, Upd.refl _ _⟩
    case round =>
      obtain ⟨j, Fj, hj, rfl, hmj, hpj, hFj, hUj⟩ := hrel
      obtain ⟨hm2, h2, hU02, hc2, hcl, htr2, hF1w, hsbF1, hcsb, htF1, htsb⟩ := HB2.out
      have hcj := own_ext hc2 hUj (fun k hk e => e.elim (hcl k hk).1 (hcsb k hk))
      have htj : TrRow wr t p root := hUj.heap htr2 (fun e => e.elim htF1 htsb)
      have hnc' := HNC.out
      by_cases hlt : j < x.kids.length
      · obtain ⟨gc, cc', cur, hge, hgc, -⟩ := own_open hcj (by rw [intv_length]; omega)
        simp only [Value.slice.injEq] at hge
        obtain ⟨rfl, hge2, rfl⟩ := hge
        obtain ⟨kd, hkd⟩ : ∃ kd, x.kids[j]? = some kd := ⟨_, List.getElem?_eq_getElem hlt⟩
        have hco := hcj
        unfold Own at hco
        rw [← hge2] at hco
        have cg : wr.cell? ⟨gc, j, none⟩ = some (.int .i64 kd) := by
          rw [hco.cellAt j (by omega)]
          rw [intv, List.getElem?_map, hkd]; rfl
        have hjs : j < ss.length := by rw [HS.out.1]; exact hlt
        obtain ⟨s, hs⟩ : ∃ s, s = ss[j] := ⟨_, rfl⟩
        have hsj : ss[j]? = some s := by rw [hs]; exact List.getElem?_eq_getElem hjs
        have htree := HS.out.2 j kd s hkd hsj
        have hpsucc := pgsOf_succ ss j hjs
        rw [← hs] at hpsucc
        have hsplit : pgsOf ss = pgsOf (ss.take j) ++ s.2 ++ pgsOf (ss.drop (j + 1)) := by
          have e : ss = ss.take j ++ s :: ss.drop (j + 1) := by rw [hs, ← List.drop_eq_getElem_cons hjs, List.take_append_drop]
          conv => lhs; rw [e]
          simp [pgsOf]
        have hown := HO.out
        rw [hsplit] at hown
        have hown2 := hown.perm (perm_mid n _ _ _).symm
        have hnew : ∀ m ∈ s.2, seenF f (n :: pgsOf (ss.take j)) m = none := fun m hm => by
          have h1 : m ∉ n :: (pgsOf (ss.take j) ++ pgsOf (ss.drop (j + 1))) := fun e => hown2.apart m e hm
          have h2 : m ∉ n :: pgsOf (ss.take j) := fun e => h1 (by simp at e ⊢; rcases e with e | e <;> simp [e])
          unfold seenF
          rw [if_neg h2]
          exact HF.out.1 m (by rw [hsplit]; simp [hm])
        have hlen2 : (pgsOf ss).length = (pgsOf (ss.take j)).length + s.2.length + (pgsOf (ss.drop (j + 1))).length := by rw [hsplit, List.length_append, List.length_append]
        have hcall := HIH.out wr Fj (N + 4 + 4 * (pgsOf (ss.take j)).length) kd s.1 s.2 (deep + 1) sb _ _ htj hpj (by have := HNL.out; omega) htree hown2.right (by omega) (by omega) hmj hnew (fun e => (hFj sb e).elim hsbF1 (fun e => by have := hm2.lt; omega))
        have HC := Lib.hid hcall
        have HJ := Lib.hid (And.intro hFj (And.intro hUj hpsucc))
        have hjn : j < nc := by omega
        clear hm2 h2 hU02 hc2 hcl htr2 hF1w hsbF1 hcsb htF1 htsb hcj htj hnc' hge2 hgc hkd hco htree hpsucc hsplit hown hown2 hnew hlen2 hcall hFj hUj hmj hpj hs hsj hjs y32
        go_wp2_with fail
        refine HC.out.mono ?_
        rintro e w5 ⟨F5, rfl, hm5, h5, hF5, hU5⟩
        have H5 := Lib.hid (And.intro hm5 (And.intro h5 (And.intro hF5 hU5)))
        clear hm5 h5 hF5 hU5 cg
        go_wp2_with fail
        go_roundw
        case rel =>
          obtain ⟨hFj, hUj, hpsucc⟩ := HJ.out
          obtain ⟨hm5, h5, hF5, hU5⟩ := H5.out
          have hsj := hUj.size
          refine ⟨j + 1, F5, by omega, by go_num, ?_, ?_, fun i hi => (hF5 i hi).elim (hFj i) (fun e => .inr (by omega)), hUj.trans hU5 (fun i e => e.elim (fun e => (hFj i e).imp .inl id) (fun e => .inl (.inr e)))⟩
          · rw [hpsucc]
            rw [seenF_app] at hm5
            simpa [Nat.add_assoc] using hm5
          · rw [hpsucc]
            refine h5.mono ?_
            simp; omega
        case measure => simp [intOf]; omega
      · obtain rfl : j = nc := by omega
        have hfull : ss.take j = ss := List.take_of_length_le (by rw [HS.out.1]; omega)
        rw [hfull] at hmj hpj
        have HJ := Lib.hid (And.intro hFj (And.intro hUj (And.intro hmj hpj)))
        clear hm2 h2 hU02 hc2 hcl htr2 hF1w hsbF1 hcsb htF1 htsb hcj htj hnc' hFj hUj hmj hpj hfull y32
        go_wp2_with fail
        go_ret
        obtain ⟨hm2, h2, hU02, hc2, hcl, htr2, hF1w, hsbF1, hcsb, htF1, htsb⟩ := HB2.out
        obtain ⟨hFj, hUj, hmj, hpj⟩ := HJ.out
        refine ⟨Fj, rfl, ?_, ?_, fun i hi => (hFj i hi).elim (hF1w i) (fun e => .inr (by have := HSW.out; omega)), hU02.trans hUj (fun i e => e.elim (fun e => (hF1w i e).imp .inl id) (fun e => .inl (.inr e)))⟩
        · simpa [Nat.add_assoc, Nat.add_comm] using hmj
        · refine hpj.mono ?_
          simp; omega
end Go.Proofs.YtecfhfddgolpfaaGreat

/- The tree's pages, listed. -/
namespace Go.Proofs.YtecfhfddgolpfaaGreat
open Go.RowKit
variable {w w' : World} {F G : Nat → Prop} {p nf pool dn N t : Nat} {σ : List Int} {C : Int → Bytes} {h : Nat} {x : Nd} {es : List Ent} {ps : List Int}

/-- What has been taken and what is left. -/
structure Gone (ps zs : List Int) (left : Lit → Bool) : Prop where
  nd : zs.Nodup
  sub : ∀ k ∈ zs, k ∈ ps
  left : ∀ z, left z = true ↔ ∃ k, z = .int .i64 k ∧ k ∈ ps ∧ k ∉ zs
theorem Gone.step {ps zs : List Int} {left : Lit → Bool} (h : Gone ps zs left) {k : Int} (hk : left (.int .i64 k) = true) : Gone ps (zs ++ [k]) (fun z => left z && !z.sameKey (.int .i64 k)) := by
  obtain ⟨k', e, h1, h2⟩ := (h.left _).1 hk
  simp only [Lit.int.injEq, true_and] at e
  subst e
  refine ⟨?_, fun j hj => ?_, fun z => ?_⟩
  · rw [List.nodup_append]
    exact ⟨h.nd, by simp, fun a ha b hb e => by simp at hb; subst hb; subst e; exact h2 ha⟩
  · simp at hj
    rcases hj with hj | rfl
    · exact h.sub j hj
    · exact h1
  · rw [Bool.and_eq_true, h.left z]
    constructor
    · rintro ⟨⟨j, rfl, g1, g2⟩, g3⟩
      refine ⟨j, rfl, g1, fun e => ?_⟩
      simp at e
      rcases e with e | rfl
      · exact g2 e
      · rw [WideAt.sameKey_self (by trivial)] at g3; cases g3
    · rintro ⟨j, rfl, g1, g2⟩
      simp at g2
      refine ⟨⟨j, rfl, g1, g2.1⟩, ?_⟩
      cases hs : (Lit.int .i64 j).sameKey (.int .i64 k) with
      | false => rfl
      | true => have := WideAt.sameKey_eq hs; simp at this; exact absurd this g2.2
theorem Gone.all {ps zs : List Int} {left : Lit → Bool} (h : Gone ps zs left) (hps : ps.Nodup) (h0 : ∀ z, left z = false) : zs.Perm ps := by
  refine (List.perm_ext_iff_of_nodup h.nd hps).2 fun k => ⟨h.sub k, fun hk => ?_⟩
  by_cases hz : k ∈ zs
  · exact hz
  · have := (h.left (.int .i64 k)).2 ⟨k, rfl, hk, hz⟩
    rw [h0] at this; cases this
def PagesPost (w : World) (F : Nat → Prop) (p nf pool dn : Nat) (σ : List Int) (C : Int → Bytes) (N : Nat) (ps : List Int) (e : Ending) (w' : World) : Prop :=
  ∃ F' v zs, e = .returned (.tuple #[v, .int .i64 0]) ∧ Own w' 3 v (intv zs) ∧ zs.Perm ps ∧ Pgs w' F' p nf pool dn σ C N ∧ (∀ k, v.ownBlock = some k → ¬ F' k ∧ w.heap.size ≤ k) ∧ (∀ i, F' i → F i ∨ w.heap.size ≤ i) ∧ Upd F w w'
set_option maxRecDepth 100000 in
set_option maxHeartbeats 4000000 in
theorem pages_tree {root : Int} {H : Nat} (htr : TrRow w t p root) (hP : Pgs w F p nf pool dn σ C N) (hN : N + 4 * ps.length ≤ 1000000000) (ht : Tree C H root es ps) (ho : Own2 σ ps) (hd : 1 + H ≤ 21) :
    Calls Tryz.prog 58 #[.pointer (some ⟨t, 0, none⟩)] w (PagesPost w F p nf pool dn σ C (N + 4 * ps.length) ps) := by
  have hmm : ∀ wz, (Instr.makeMap 178 none).run Tryz.prog wz = .ok (.map (some wz.heap.size)) (wz.alloc (.map #[] 0)) := fun wz => run_mkmap _ wz
  obtain ⟨W0, hW0⟩ : ∃ W0, W0 = w.alloc (.map #[] 0) := ⟨_, rfl⟩
  have hx0 : Ext w W0 := by rw [hW0]; exact (Upd.refl _ w).alloc _
  have hM0 : MapG W0 w.heap.size (fun _ => none) 0 := by rw [hW0]; exact MapG.made w
  have hs0 : w.heap.size < W0.heap.size := hM0.lt
  have q1 : (w.alloc (.map #[] 0)).cell? ⟨t, 1, none⟩ = some (.int .i64 root) := by
    rw [← hW0]; exact one_cells (hx0.heap htr (fun f => f)) 1 _ rfl
  have HCOL := Lib.hid (collect_tree H W0 F N root es ps 1 w.heap.size 0 (fun _ => none) (hx0.heap htr (fun f => f)) (hP.ext hx0) hN ht ho (by omega) (by omega) hM0 (fun _ _ => rfl) (fun e => by have := hP.lt e; omega))
  have HNB := Lib.hid (fun b cs fr (hb : F b) => hP.notByte b cs fr hb)
  have HLT := Lib.hid (fun i (hi : F i) => hP.lt hi)
  have HO := Lib.hid ho
  have HW := Lib.hid (And.intro hW0 hx0)
  have HSL := Lib.hid (show ps.length ≤ 250000000 by omega)
  have HSI := Lib.hid hP.slen
  clear htr hP hN ht ho hx0 hM0
  go_enter Tryz.func58, Tryz.ntmps58
  go_wp2_with fail
  rw [← HW.out.1]
  refine HCOL.out.mono ?_
  rintro e w1 ⟨F1, rfl, hm1, h1, hF1, hU1⟩
  have hrng : ∀ k v, seenF (fun _ => none) ps k = some v → (-9223372036854775808 ≤ k ∧ k < 9223372036854775808) ∧ ∃ c, v = Value.bool c := fun k v hkv => by
    unfold seenF at hkv
    by_cases hk : k ∈ ps
    · rw [if_pos hk] at hkv
      cases hkv
      have := stOf_range (σ := σ) (k := k) (by have := HO.out.on k hk; omega)
      have := HSI.out
      exact ⟨⟨by omega, by omega⟩, true, rfl⟩
    · rw [if_neg hk] at hkv; cases hkv
  have HM1 := Lib.hid hm1
  have HR := Lib.hid hrng
  have H1 := Lib.hid (And.intro h1 (And.intro hF1 hU1))
  clear hm1 hrng h1 hF1 hU1
  go_wp2_with (first
    | (at_range; refine wpList_rangeG rfl _ 178 3 4 rfl (by kernel_rfl) (by kernel_rfl) (by kernel_rfl) w.heap.size _ _ HM1.out rfl HR.out (by have := HSL.out; unfold maxLen; omega) ?_; intro w2 D left0 hrg hlf hx2 hsz2)
    | fail)
  go_frame
  have H2 := Lib.hid (And.intro hx2 hsz2)
  have HLF := Lib.hid hlf
  have HCN := Lib.hid (show (0 : Nat) + ps.length = ps.length by omega)
  rw [HCN.out] at hrg
  clear hx2 hsz2 hlf
  go_loopw [6] (fun v wr => ∃ (left : Lit → Bool) (cnt : Nat) (zs : List Int), wr.ranges Tryz.prog 3 (plainElem Tryz.prog 4) w.heap.size w1.heap.size ps.length D left cnt ∧ Own wr 3 v (intv zs) ∧ Hid (Gone ps zs left) ∧ zs.length + cnt ≤ ps.length ∧
      Hid (∀ k, v.ownBlock = some k → w2.heap.size ≤ k) ∧ Hid (Upd (fun i => i = w1.heap.size) w2 wr)) (fun _ wr => wr.rangeLeft w.heap.size w1.heap.size)
  case atStart =>
    refine ⟨left0, ps.length, [], hrg, Own.nil _ _, ⟨List.nodup_nil, fun k h => by simp at h, fun z => ?_⟩, by simp, (fun k h => by simp [Value.ownBlock] at h), Upd.refl _ _⟩
    rw [HLF.out z]
    constructor
    · rintro ⟨k, rfl, hk⟩
      refine ⟨k, rfl, ?_, by simp⟩
      unfold seenF at hk
      by_cases hm : k ∈ ps
      · exact hm
      · rw [if_neg hm] at hk; simp at hk
    · rintro ⟨k, rfl, hk, -⟩
      exact ⟨k, rfl, by unfold seenF; rw [if_pos hk]; rfl⟩
  case round =>
    obtain ⟨left, cnt, zs, hrg2, hown, HG, hlen, HNW, HU⟩ := hrel
    go_wp2_with (first
      | (at_next; refine wpList_nextG rfl _ rfl 3 4 (by kernel_rfl) (by kernel_rfl) w.heap.size w1.heap.size _ D left cnt rfl hrg2 ?_ ?_)
      | fail)
    · intro hc0 hl0
      have hperm := HG.out.all HO.out.nd hl0
      have HPM := Lib.hid hperm
      have HSRT := Lib.hid (sort_int hown (by have := hperm.length_eq; have := HSL.out; omega))
      clear hrg2 hown hperm hlen hl0
      go_wp2_with (go_at_call 88; refine HSRT.out.mono ?_; rintro e w5 ⟨rfl, ⟨ts, hp, ho⟩, hU5⟩)
      go_ret2
      obtain ⟨h1, hF1, hU1⟩ := H1.out
      obtain ⟨hx2, hsz2⟩ := H2.out
      have hx15 : Ext w1 w5 := (hx2.trans HU.out (fun i e => .inr (by omega))).trans hU5 (fun i e => .inr (by have := HNW.out i e; omega))
      have hs1 := hU1.size
      refine ⟨F1, _, ts, rfl, ho, hp.trans HPM.out, h1.ext hx15, fun k hk => ?_, fun i hi => (hF1 i hi).imp id (fun e => by omega), ?_⟩
      · have := HNW.out k hk
        exact ⟨fun e => by have := h1.lt e; omega, by omega⟩
      · exact ((Upd.ext HW.out.2 : Upd F w W0).trans hU1 (fun i e => e.imp id (fun e => by omega))).andExt hx15
    · intro k c w3 cnt3 hlk hrg3 hlt hU3 hsz3 hen
      have hown3 := own_ext hown hU3 (fun k hk e => by have := HNW.out k hk; have := H2.out.2; omega)
      obtain ⟨W3, hW3⟩ : ∃ W3, W3 = w3.alloc (.cells #[.int .i64 k] 3) := ⟨_, rfl⟩
      have hx3 : Ext w3 W3 := by rw [hW3]; exact (Upd.refl _ w3).alloc _
      have hown3 : Own W3 3 _ (intv zs) := own_ext hown3 hx3 (fun _ _ f => f)
      have hrd3 : Rd W3 3 (.slice (some ⟨w3.heap.size, 0, none⟩) 1 1) [.int .i64 k] := by rw [hW3]; exact Rd.one w3 _ _
      have HA := Lib.hid (And.intro hown3 hrd3)
      have HLN := Lib.hid hlen
      have HRG := Lib.hid (And.intro hrg3 (And.intro hU3 (And.intro hsz3 (And.intro hx3 (And.intro hlk (And.intro hlt hrg2))))))
      have HW3 := Lib.hid hW3
      clear hown hown3 hrd3 hlen hrg3 hU3 hsz3 hx3 hlk hlt hrg2 hW3
      go_wp2_with (first
        | (at_builtin; rw [← HW3.out]; refine wpList_app rfl _ _ 62 rfl 3 _ _ (by kernel_rfl) info_int rfl _ (intv zs) rfl HA.out.1 _ [.int .i64 k] rfl HA.out.2 (by simp [Value.oneCell']) (by have := HLN.out; have := HSL.out; rw [intv_length]; simp; omega) (by decide) ?_; intro v4 w4 ho4 hnw4 hU4)
        | fail)
      go_roundw
      case rel =>
        obtain ⟨hrg3, hU3, hsz3, hx3, hlk, hlt, hrg2⟩ := HRG.out
        have hl3 := HLN.out
        have hnr : ∀ i, (Value.ownBlock _ = some i) → i ≠ w1.heap.size := fun i e => by have := HNW.out i e; have := H2.out.2; omega
        have hnb : ∀ i, (Value.ownBlock _ = some i) → i ≠ w.heap.size := fun i e => by have := HNW.out i e; have := H2.out.2; have := hs0; have := H1.out.2.2.size; omega
        have hs3 := hx3.size
        refine ⟨_, cnt3, zs ++ [k], ranges_upd (ranges_upd hrg3 hx3 (fun f => f) (fun f => f)) hU4 (fun e => hnb _ e rfl) (fun e => hnr _ e rfl), by simpa [intv] using ho4, HG.out.step hlk, by simp; omega, fun i hi => ?_, ?_⟩
        · rcases hnw4 i hi with e | e
          · exact HNW.out i e
          · have := HU.out.size; omega
        · exact (HU.out.trans (hU3.andExt hx3) (fun i e => .inl e)).trans hU4 (fun i e => .inr (HNW.out i e))
      case measure =>
        obtain ⟨hrg3, hU3, hsz3, hx3, hlk, hlt, hrg2⟩ := HRG.out
        have hnr : ∀ i, (Value.ownBlock _ = some i) → i ≠ w1.heap.size := fun i e => by have := HNW.out i e; have := H2.out.2; omega
        have hnb : ∀ i, (Value.ownBlock _ = some i) → i ≠ w.heap.size := fun i e => by have := HNW.out i e; have := H2.out.2; have := hs0; have := H1.out.2.2.size; omega
        rw [(ranges_upd (ranges_upd hrg3 hx3 (fun f => f) (fun f => f)) hU4 (fun e => hnb _ e rfl) (fun e => hnr _ e rfl)).left_eq, hrg2.left_eq]
        exact hlt
end Go.Proofs.YtecfhfddgolpfaaGreat

/- The tree's entries, counted. -/
namespace Go.Proofs.YtecfhfddgolpfaaGreat
open Go.RowKit
variable {w w' : World} {F G : Nat → Prop} {p nf pool dn N t : Nat} {σ : List Int} {C : Int → Bytes} {h : Nat} {x : Nd} {es : List Ent} {ps : List Int}

/-- A page and its node. -/
def NdAt (C : Int → Bytes) (q : Int × Nd) : Prop := C q.1 = page q.2 ∧ Shaped q.2 ∧ nsize q.2 ≤ 1024
def valsOf (qs : List (Int × Nd)) : Nat := (qs.map (fun q => q.2.vals.length)).sum
theorem valsOf_app (a b : List (Int × Nd)) : valsOf (a ++ b) = valsOf a + valsOf b := by simp [valsOf]
theorem kids_nodes {C : Int → Bytes} {h : Nat} : ∀ (ks : List Int) (ss : List (List Ent × List Int)), ss.length = ks.length → (∀ (i : Nat) (k : Int) (s : List Ent × List Int), ks[i]? = some k → ss[i]? = some s → ∃ qs : List (Int × Nd), qs.map Prod.fst = s.2 ∧ (∀ q ∈ qs, NdAt C q) ∧ valsOf qs = s.1.length) →
    ∃ qs : List (Int × Nd), qs.map Prod.fst = (ss.map Prod.snd).flatten ∧ (∀ q ∈ qs, NdAt C q) ∧ valsOf qs = (ss.map Prod.fst).flatten.length
  | [], ss, hl, _ => by
    obtain rfl : ss = [] := List.eq_nil_of_length_eq_zero (by simpa using hl)
    exact ⟨[], rfl, fun q h => by simp at h, rfl⟩
  | k :: ks, [], hl, _ => by simp at hl
  | k :: ks, s :: ss, hl, hs => by
    obtain ⟨q1, a1, b1, c1⟩ := hs 0 k s rfl rfl
    obtain ⟨q2, a2, b2, c2⟩ := kids_nodes (h := h) ks ss (by simpa using hl) (fun i k s h1 h2 => hs (i + 1) k s (by simpa using h1) (by simpa using h2))
    refine ⟨q1 ++ q2, by simp [a1, a2], fun q hq => ?_, by rw [valsOf_app, c1, c2]; simp⟩
    rcases List.mem_append.1 hq with hq | hq
    · exact b1 q hq
    · exact b2 q hq
/-- Every page has its node; the leaves' values are the entries'. -/
theorem Tree.nodes {C : Int → Bytes} : ∀ {h : Nat} {n : Int} {es : List Ent} {ps : List Int}, Tree C h n es ps → ∃ qs : List (Int × Nd), qs.map Prod.fst = ps ∧ (∀ q ∈ qs, NdAt C q) ∧ valsOf qs = es.length
  | 0, _, _, _, ht => ht.elim
  | h + 1, n, es, ps, ht => by
    obtain ⟨x, ps0, h1, h2, h3, ⟨h4, h5⟩, rfl⟩ := ht
    have hx : NdAt C (n, x) := ⟨h2, h4, h3⟩
    rcases h5 with ⟨-, hl, rfl, rfl⟩ | ⟨-, hl, ss, s1, s2, -, rfl, rfl⟩
    · have := (h4.leafv hl).1
      exact ⟨[(n, x)], rfl, fun q hq => by simp at hq; rw [hq]; exact hx, by simp [valsOf]; omega⟩
    · obtain ⟨qs, a, b, c⟩ := kids_nodes (C := C) (h := h) x.kids ss s1 (fun i k s g1 g2 => (s2 i k s g1 g2).nodes)
      refine ⟨(n, x) :: qs, by simp [a], fun q hq => ?_, ?_⟩
      · rcases List.mem_cons.1 hq with rfl | hq
        · exact hx
        · exact b q hq
      · have := (h4.inn hl).1
        rw [← c]
        simp [valsOf, this]
theorem perm_lift {α β : Type} (f : α → β) {l1 l2 : List β} (h : l1.Perm l2) : ∀ qs : List α, qs.map f = l2 → ∃ qs' : List α, qs'.Perm qs ∧ qs'.map f = l1 := by
  induction h with
  | nil => intro qs hq; exact ⟨[], by rw [List.map_eq_nil_iff.1 hq], rfl⟩
  | cons a _ ih =>
    intro qs hq
    obtain ⟨b, qs1, rfl, rfl, h2⟩ := List.map_eq_cons_iff.1 hq
    obtain ⟨qs', g1, g2⟩ := ih qs1 h2
    exact ⟨b :: qs', g1.cons b, by simp [g2]⟩
  | swap a b l =>
    intro qs hq
    obtain ⟨c, qs1, rfl, rfl, h2⟩ := List.map_eq_cons_iff.1 hq
    obtain ⟨d, qs2, rfl, rfl, h3⟩ := List.map_eq_cons_iff.1 h2
    exact ⟨d :: c :: qs2, List.Perm.swap _ _ _, by simp [h3]⟩
  | trans _ _ ih1 ih2 =>
    intro qs hq
    obtain ⟨q2, a, b⟩ := ih2 qs hq
    obtain ⟨q1, c, d⟩ := ih1 q2 b
    exact ⟨q1, c.trans a, d⟩
theorem valsOf_perm {a b : List (Int × Nd)} (h : a.Perm b) : valsOf a = valsOf b := (h.map (fun q : Int × Nd => q.2.vals.length)).sum_nat
theorem valsOf_take (qs : List (Int × Nd)) (j : Nat) (h : j < qs.length) : valsOf (qs.take (j + 1)) = valsOf (qs.take j) + qs[j].2.vals.length := by
  rw [List.take_succ_eq_append_getElem h, valsOf_app]; simp [valsOf]
theorem valsOf_le (qs : List (Int × Nd)) (j : Nat) : valsOf (qs.take j) ≤ valsOf qs := by
  conv => rhs; rw [← List.take_append_drop j qs]
  rw [valsOf_app]; omega
def CountPost (w : World) (F : Nat → Prop) (p nf pool dn : Nat) (σ : List Int) (C : Int → Bytes) (N c : Nat) (e : Ending) (w' : World) : Prop :=
  ∃ F', e = .returned (.tuple #[.int .i64 c, .int .i64 0]) ∧ Pgs w' F' p nf pool dn σ C N ∧ (∀ i, F' i → F i ∨ w.heap.size ≤ i) ∧ Upd F w w'
set_option maxRecDepth 100000 in
set_option maxHeartbeats 4000000 in
theorem count_tree {root : Int} {H : Nat} (htr : TrRow w t p root) (hP : Pgs w F p nf pool dn σ C N) (hN : N + 8 * ps.length ≤ 1000000000) (ht : Tree C H root es ps) (ho : Own2 σ ps) (hd : 1 + H ≤ 21) (hes : es.length ≤ 1000000000) :
    Calls Tryz.prog 33 #[.pointer (some ⟨t, 0, none⟩)] w (CountPost w F p nf pool dn σ C (N + 8 * ps.length) es.length) := by
  have HPG := Lib.hid (pages_tree htr hP (by omega) ht ho hd)
  have HT := Lib.hid (And.intro htr (htr.not hP))
  obtain ⟨qs0, hq1, hq2, hq3⟩ := ht.nodes
  have HQ := Lib.hid (And.intro hq1 (And.intro hq2 hq3))
  have HO := Lib.hid ho
  have HNL := Lib.hid hN
  have HES := Lib.hid hes
  have HNB := Lib.hid (fun i (hi : F i) => hP.lt hi)
  clear htr hP hN ht ho hd hes hq1 hq2 hq3
  go_enter Tryz.func33, Tryz.ntmps33
  go_wp2_with fail
  refine HPG.out.mono ?_
  rintro e w1 ⟨F1, v, zs, rfl, hown, hperm, h1, hfv, hF1, hU1⟩
  obtain ⟨qs, hp1, hp2⟩ := perm_lift Prod.fst hperm qs0 HQ.out.1
  have hlen : zs.length = ps.length := hperm.length_eq
  obtain ⟨va, vc, rfl, hvc⟩ := own_slice hown
  obtain ⟨m, hm⟩ : ∃ m, m = (intv zs).length := ⟨_, rfl⟩
  rw [← hm] at hown hfv hvc ⊢
  rw [intv_length] at hm
  have hm5 : m ≤ 1000000000 := by have := HNL.out; omega
  have HM := Lib.hid hm
  have HQS := Lib.hid (And.intro hp1 hp2)
  have HLN := Lib.hid hlen
  have HOW := Lib.hid hown
  have H1 := Lib.hid (And.intro h1 (And.intro hF1 (And.intro hU1 hfv)))
  clear hm hp1 hp2 hlen hown h1 hF1 hU1 hperm hfv
  go_wp2_with fail
  go_loopw [6, 18] (fun tv iv wr => ∃ (j : Nat) (Fj : Nat → Prop), j ≤ m ∧ iv = .int .i64 j ∧ tv = .int .i64 (valsOf (qs.take j) : Nat) ∧ Pgs wr Fj p nf pool dn σ C (N + 4 * ps.length + 4 * j) ∧ (∀ i, Fj i → F1 i ∨ w1.heap.size ≤ i) ∧ Upd F1 w1 wr) (fun _ iv _ => m - (intOf iv).toNat)
  case atStart => exact ⟨0, F1, by omega, rfl, by simp [valsOf], H1.out.1, fun i hi => .inl hi, Upd.refl _ _⟩
  case round =>
    obtain ⟨j, Fj, hj, rfl, rfl, hpj, hFj, hUj⟩ := hrel
    obtain ⟨h1, hF1, hU1, hfv⟩ := H1.out
    have hcj := own_ext HOW.out hUj (fun k hk => (hfv k hk).1)
    have htF1 : ¬ F1 t := fun e => (hF1 t e).elim HT.out.2 (fun e => by have := heap_lt HT.out.1; omega)
    have htj : TrRow wr t p root := hUj.heap (hU1.heap HT.out.1 HT.out.2) htF1
    have hnb : ∀ i, Fj i → i < wr.heap.size := fun i hi => hpj.lt hi
    obtain ⟨sm, hsm⟩ : ∃ sm, sm = valsOf (qs.take j) := ⟨_, rfl⟩
    have hqp := HQS.out.1
    have hql : qs.length = m := by
      have := congrArg List.length HQS.out.2
      rw [List.length_map] at this
      have := HM.out; omega
    have hsum : valsOf qs = es.length := (valsOf_perm hqp).trans HQ.out.2.2
    by_cases hlt : j < m
    · have hjq : j < qs.length := by omega
      obtain ⟨q, hq⟩ : ∃ q, q = qs[j] := ⟨_, rfl⟩
      have hqm : q ∈ qs := by rw [hq]; exact List.getElem_mem hjq
      obtain ⟨g1, g2, g3⟩ := HQ.out.2.1 q (hqp.mem_iff.1 hqm)
      have hq1 : q.1 ∈ ps := by
        rw [← HQ.out.1]
        exact List.mem_map.2 ⟨q, hqp.mem_iff.1 hqm, rfl⟩
      have hzj : zs[j]? = some q.1 := by
        rw [← HQS.out.2, List.getElem?_map, List.getElem?_eq_getElem hjq, ← hq]; rfl
      obtain ⟨gc, cc', cur, hge, hgc, -⟩ := own_open hcj (by rw [intv_length]; have := HM.out; omega)
      simp only [Value.slice.injEq] at hge
      obtain ⟨rfl, -, rfl⟩ := hge
      have hco := hcj
      unfold Own at hco
      have cg : wr.cell? ⟨gc, j, none⟩ = some (.int .i64 q.1) := by
        rw [intv_length, ← HM.out] at hco
        rw [hco.cellAt j (by omega), intv, List.getElem?_map, hzj]; rfl
      have htk := valsOf_take qs j hjq
      rw [← hq, ← hsm] at htk
      have hle := valsOf_le qs (j + 1)
      have hsm9 : sm + q.2.vals.length ≤ 1000000000 := by have := HES.out; omega
      have HRD := Lib.hid (read_tree htj hpj (by have := HNL.out; have := HLN.out; have := HM.out; omega) q.1 (.inr (HO.out.on q.1 hq1)) q.2 g1 g2 g3 1 (by omega))
      have HTK := Lib.hid htk
      have HJ := Lib.hid (And.intro hFj hUj)
      rw [← hsm]
      have HSM := Lib.hid hsm
      clear h1 hF1 hU1 hfv hcj htF1 htj hnb hqp hql hsum hjq hqm g1 g2 g3 hq1 hzj hgc hco htk hle hpj hFj hUj hsm hq
      go_wp2_with fail
      refine HRD.out.mono ?_
      rintro e w5 ⟨F5, sk, sv, sc, kvs, vvs, rfl, hap, h5, hF5, hU5⟩
      obtain ⟨ak, ck, av, cv, ac, cc, rfl, rfl, rfl, -⟩ := hap.own.node
      obtain ⟨L, hL⟩ : ∃ L, L = q.2.vals.length := ⟨_, rfl⟩
      rw [← hL] at hsm9 ⊢
      have HL := Lib.hid hL
      obtain ⟨W5, hW5⟩ : ∃ W5, W5 = w5.alloc (.cells #[.bool q.2.leaf, .slice ak q.2.keys.length ck, .slice av L cv, .slice ac q.2.kids.length cc] 144) := ⟨_, rfl⟩
      have hx5 : Ext w5 W5 := by rw [hW5]; exact (Upd.refl _ w5).alloc _
      have hr5 : W5.heap[w5.heap.size]? = some (.cells #[.bool q.2.leaf, .slice ak q.2.keys.length ck, .slice av L cv, .slice ac q.2.kids.length cc] 144 (0, 0)) := by rw [hW5]; exact heap_alloc_new w5 _
      have y2 := one_cells hr5 2 _ rfl
      rw [hW5] at y2
      have H5 := Lib.hid (And.intro h5 (And.intro hF5 (And.intro hU5 hx5)))
      have HW5 := Lib.hid hW5
      clear hap h5 hF5 hU5 hx5 hr5 hW5 hL cg
      go_wp2_with fail
      go_roundw
      case rel =>
        obtain ⟨h5, hF5, hU5, hx5⟩ := H5.out
        obtain ⟨hFj, hUj⟩ := HJ.out
        have hsj := hUj.size
        refine ⟨j + 1, F5, by omega, by go_num, ?_, ?_, fun i hi => (hF5 i hi).elim (hFj i) (fun e => .inr (by omega)), ?_⟩
        · rw [HTK.out, ← HL.out]; go_num
        · rw [← HW5.out]; exact (h5.ext hx5).mono (by omega)
        · rw [← HW5.out]; exact (hUj.trans hU5 hFj).andExt hx5
      case measure => simp [intOf]; omega
    · obtain rfl : j = m := by omega
      have hfull : qs.take j = qs := List.take_of_length_le (by omega)
      rw [hfull, hsum]
      have HJ := Lib.hid (And.intro hFj (And.intro hUj (And.intro hpj (And.intro h1 (And.intro hF1 hU1)))))
      clear h1 hF1 hU1 hfv hcj htF1 htj hnb hqp hql hsum hpj hFj hUj hsm hfull
      go_wp2_with fail
      go_ret2
      obtain ⟨hFj, hUj, hpj, h1, hF1, hU1⟩ := HJ.out
      have := hU1.size
      exact ⟨Fj, rfl, hpj.mono (by have := HLN.out; have := HM.out; omega), fun i hi => (hFj i hi).elim (hF1 i) (fun e => .inr (by omega)), hU1.trans hUj hF1⟩
end Go.Proofs.YtecfhfddgolpfaaGreat

/- The tree as one thing: entries in, entries out. -/
namespace Go.Proofs.YtecfhfddgolpfaaGreat
open Go.RowKit
variable {w w' : World} {F G : Nat → Prop} {p nf pool dn N t M B : Nat} {σ : List Int} {C : Int → Bytes} {h : Nat} {x : Nd} {es : List Ent} {ps : List Int}

/-! ### how many pages, how high -/
theorem flat_bounds (h : Nat) : ∀ ss : List (List Ent × List Int), (∀ s ∈ ss, s.2.length + 1 ≤ 2 * s.1.length ∧ 2 ^ h ≤ 2 * s.1.length) → (ss.map Prod.snd).flatten.length + ss.length ≤ 2 * (ss.map Prod.fst).flatten.length ∧ ss.length * 2 ^ h ≤ 2 * (ss.map Prod.fst).flatten.length
  | [], _ => by simp
  | s :: ss, hs => by
    obtain ⟨a, b⟩ := hs s (by simp)
    obtain ⟨c, d⟩ := flat_bounds h ss (fun s hs' => hs s (by simp [hs']))
    simp only [List.map_cons, List.flatten_cons, List.length_append, List.length_cons]
    refine ⟨by omega, ?_⟩
    rw [Nat.add_mul]
    omega
theorem Tree.bounds {C : Int → Bytes} : ∀ {h : Nat} {n : Int} {es : List Ent} {ps : List Int}, Tree C h n es ps → ps.length + 1 ≤ 2 * es.length ∧ 2 ^ h ≤ 2 * es.length
  | 0, _, _, _, ht => ht.elim
  | h + 1, n, es, ps, ht => by
    obtain ⟨x, ps0, h1, h2, h3, ⟨h4, h5⟩, rfl⟩ := ht
    have hk : 0 < x.keys.length := List.length_pos_iff.2 h1
    rcases h5 with ⟨rfl, hl, rfl, rfl⟩ | ⟨-, hl, ss, s1, s2, -, rfl, rfl⟩
    · have := (h4.leafv hl).1
      simp only [List.length_zip, List.length_cons, List.length_nil]
      omega
    · have := (h4.inn hl).2
      obtain ⟨a, b⟩ := flat_bounds h ss (fun s hs => by
        obtain ⟨i, hi⟩ := List.getElem?_of_mem hs
        have hi2 : i < x.kids.length := by rw [← s1]; exact (List.getElem?_eq_some_iff.1 hi).1
        exact (s2 i x.kids[i] s (List.getElem?_eq_getElem hi2) hi).bounds)
      refine ⟨by simp only [List.length_cons]; omega, ?_⟩
      have : 2 * 2 ^ h ≤ ss.length * 2 ^ h := Nat.mul_le_mul_right _ (by omega)
      rw [Nat.pow_succ]; omega

/-! ### put, then looked up -/
theorem ins_mem (k v : Bytes) : ∀ (l : List Ent) (e : Ent), e ∈ ins k v l → e = (k, v) ∨ e ∈ l
  | [], e, h => by simp [ins] at h; exact .inl h
  | a :: l, e, h => by
    unfold ins at h
    split at h
    · rcases List.mem_cons.1 h with rfl | h
      · exact .inr (by simp)
      · exact (ins_mem k v l e h).imp id (fun h => by simp [h])
    · split at h
      · rcases List.mem_cons.1 h with rfl | h
        · exact .inl rfl
        · exact .inr (by simp [h])
      · rcases List.mem_cons.1 h with rfl | h
        · exact .inl rfl
        · exact .inr h
theorem ins_new (k v : Bytes) : ∀ (l : List Ent), (∀ e ∈ l, e.1 ≠ k) → (ins k v l).length = l.length + 1
  | [], _ => rfl
  | a :: l, h => by
    unfold ins
    split
    · simp [ins_new k v l (fun e he => h e (by simp [he]))]
    · rw [if_neg (h a (by simp))]; simp
theorem ins_len (k v : Bytes) : ∀ (l : List Ent), (ins k v l).length ≤ l.length + 1
  | [] => by simp [ins]
  | a :: l => by
    unfold ins
    split
    · have := ins_len k v l; simp; omega
    · split <;> simp
theorem look_ins (k v : Bytes) : ∀ (l : List Ent), look k (ins k v l) = some v
  | [] => by simp [ins, look]
  | a :: l => by
    unfold ins
    split
    · rename_i h
      have := look_ins k v l
      unfold look at this ⊢
      rw [List.find?_cons_of_neg (by simp; exact cmp_lt_ne h)]
      exact this
    · split <;> simp [look]
theorem look_none (k : Bytes) (l : List Ent) (h : ∀ e ∈ l, e.1 ≠ k) : look k l = none := by
  unfold look
  rw [List.find?_eq_none.2 (fun e he => by simpa using h e he)]; rfl

/-! ### the tree -/
/-- What was bytes still is. -/
def BK (w w' : World) : Prop := ∀ v l, Bts w v l → Bts w' v l
theorem BK.refl (w : World) : BK w w := fun _ _ h => h
theorem BK.trans {a b c : World} (h : BK a b) (k : BK b c) : BK a c := fun v l x => k v l (h v l x)
theorem BK.ofExt (h : Ext w w') : BK w w' := fun _ _ x => x.ext h
theorem BK.ofUpd (h : Upd F w w') (hF : ∀ b cs fr, F b → w.heap[b]? ≠ some (.cells cs 5 fr)) : BK w w' := fun _ _ x => Rd.upd h hF x
/-- The tree whose handle is block t, over the pages p, its blocks from B on: entries es, M pages of room and of its own. -/
def TS (B : Nat) (w : World) (t p nf pool dn N M : Nat) (es : List Ent) : Prop :=
  ∃ (root : Int) (H : Nat) (F : Nat → Prop) (σ : List Int) (C : Int → Bytes) (ps : List Int), TrRow w t p root ∧ Pgs w F p nf pool dn σ C N ∧ (∀ i, F i → B ≤ i) ∧ B ≤ t ∧ roomOf σ + ps.length = M ∧ Own2 σ ps ∧ WTree C H root es ps
theorem TS.ext (h : TS B w t p nf pool dn N M es) (hU : Ext w w') : TS B w' t p nf pool dn N M es := by
  obtain ⟨root, H, F, σ, C, ps, h1, h2, h3⟩ := h
  exact ⟨root, H, F, σ, C, ps, hU.heap h1 (fun f => f), h2.ext hU, h3⟩
theorem TS.mono {N' : Nat} (h : TS B w t p nf pool dn N M es) (hN : N ≤ N') : TS B w t p nf pool dn N' M es := by
  obtain ⟨root, H, F, σ, C, ps, h1, h2, h3⟩ := h
  exact ⟨root, H, F, σ, C, ps, h1, h2.mono hN, h3⟩
theorem WTree.bounds {root : Int} {H : Nat} (h : WTree C H root es ps) : ps.length ≤ 2 * es.length ∧ 2 ^ H ≤ 2 * es.length + 1 := by
  rcases h with ⟨rfl, -, rfl, rfl⟩ | h
  · simp
  · have := h.bounds; omega
theorem pow_small {H : Nat} (h : 2 ^ H ≤ 2000) : H ≤ 10 := by
  by_cases hh : H ≤ 10
  · exact hh
  · have : 2 ^ 11 ≤ 2 ^ H := Nat.pow_le_pow_right (by omega) (by omega)
    have e : (2 : Nat) ^ 11 = 2048 := by decide
    omega
theorem BK.put {root : Int} (ht : TrRow w t p root) (hP : Pgs w F p nf pool dn σ C N) (hU : Upd (fun i => F i ∨ i = t) w w') : BK w w' :=
  BK.ofUpd hU (fun b cs fr hb e => by
    rcases hb with hb | rfl
    · exact hP.notByte b cs fr hb e
    · rw [show w.heap[b]? = _ from ht] at e; simp at e)
theorem ts_put (h : TS B w t p nf pool dn N M es) (hN : N + 800 ≤ 1000000000) (hes : es.length ≤ 900) (hM : es.length = 0 ∧ 3 ≤ M ∨ 2 * es.length + 23 ≤ M) (hB : B ≤ w.heap.size) (kv vv : Value) (key v : Bytes) (hkey : Bts w kv key) (hval : Bts w vv v) (hk1 : 1 ≤ key.length) (hk2 : key.length ≤ 240) (hv : v.length ≤ 260) :
    Calls Tryz.prog 30 #[.pointer (some ⟨t, 0, none⟩), kv, vv] w fun e w' => e = .returned (.int .i64 0) ∧ TS B w' t p nf pool dn (N + 800) M (ins key v es) ∧ Upd (fun i => B ≤ i) w w' ∧ BK w w' := by
  obtain ⟨root, H, F, σ, C, ps, ht, hP, hF, hBt, hM2, ho, hT⟩ := h
  obtain ⟨b1, b2⟩ := hT.bounds
  have hH := pow_small (H := H) (by omega)
  have key : ∀ e w', PutTop w F t p nf pool dn σ C (N + 34 * H + 100) H (ins key v es) ps e w' → e = .returned (.int .i64 0) ∧ TS B w' t p nf pool dn (N + 800) M (ins key v es) ∧ Upd (fun i => B ≤ i) w w' ∧ BK w w' := by
    rintro e w' ⟨rfl, root', H', σ', C', F', ps', h1, h2, h3, h4, h5, h6, h7⟩
    refine ⟨rfl, ⟨root', H', F', σ', C', ps', h1, h2.mono (by omega), fun i hi => (h6 i hi).elim (hF i) (fun e => by omega), hBt, by have := h5.room; omega, h5.own, .inr h3⟩, h7.mono (fun i _ e => e.elim (hF i) (fun e => by omega)), BK.put ht hP h7⟩
  rcases hT with ⟨rfl, rfl, rfl, rfl⟩ | hT
  · exact (put_top_none ht hP (by omega) (by simp at hM2 hM; omega) kv vv _ v hkey hval hk1 hk2 hv).mono key
  · have hpos := hT.bounds
    exact (put_top_some ht hP (by omega) (by omega) hT ho (by omega) kv vv _ v hkey hval hk1 hk2 hv).mono key
theorem ts_new (ht : TrRow w t p (-1)) {n : Nat} (hP : Pgs w F p nf pool dn (List.replicate n 0) C N) (hF : ∀ i, F i → B ≤ i) (hB : B ≤ t) : TS B w t p nf pool dn N n [] :=
  ⟨-1, 0, F, _, C, [], ht, hP, hF, hB, by unfold roomOf; simp [List.countP_replicate], ⟨List.nodup_nil, fun m h => by simp at h⟩, .inl ⟨rfl, rfl, rfl, rfl⟩⟩
theorem ts_get (h : TS B w t p nf pool dn N M es) (hN : N + 100 ≤ 1000000000) (hes : es.length ≤ 900) (hB : B ≤ w.heap.size) (kv : Value) (key : Bytes) (hkey : Bts w kv key) :
    Calls Tryz.prog 32 #[.pointer (some ⟨t, 0, none⟩), kv] w fun e w' => ∃ v, e = .returned (.tuple #[v, .bool (look key es).isSome, .int .i64 0]) ∧ GetV w' v (look key es) ∧ TS B w' t p nf pool dn (N + 100) M es ∧ Upd (fun i => B ≤ i) w w' ∧ BK w w' := by
  obtain ⟨root, H, F, σ, C, ps, ht, hP, hF, hBt, hM2, ho, hT⟩ := h
  obtain ⟨b1, b2⟩ := hT.bounds
  have hH := pow_small (H := H) (by omega)
  refine (get_tree ht hP (by omega) (by omega) hT ho.on kv key hkey).mono ?_
  rintro e w' ⟨v, F', rfl, h1, h2, h3, h4⟩
  exact ⟨v, rfl, h1, ⟨root, H, F', σ, C, ps, h4.heap ht (ht.not hP), h2.mono (by omega), fun i hi => (h3 i hi).elim (hF i) (fun e => by omega), hBt, hM2, ho, hT⟩, h4.mono (fun i _ e => hF i e), BK.ofUpd h4 (fun b cs fr hb => hP.notByte b cs fr hb)⟩
theorem ts_count (h : TS B w t p nf pool dn N M es) (h0 : es ≠ []) (hN : N + 20000 ≤ 1000000000) (hes : es.length ≤ 900) (hB : B ≤ w.heap.size) :
    Calls Tryz.prog 33 #[.pointer (some ⟨t, 0, none⟩)] w fun e w' => e = .returned (.tuple #[.int .i64 es.length, .int .i64 0]) ∧ TS B w' t p nf pool dn (N + 20000) M es ∧ Upd (fun i => B ≤ i) w w' ∧ BK w w' := by
  obtain ⟨root, H, F, σ, C, ps, ht, hP, hF, hBt, hM2, ho, hT⟩ := h
  obtain ⟨b1, b2⟩ := hT.bounds
  have hH := pow_small (H := H) (by omega)
  rcases hT with ⟨-, -, rfl, -⟩ | hT
  · exact absurd rfl h0
  · refine (count_tree ht hP (by omega) hT ho (by omega) (by omega)).mono ?_
    rintro e w' ⟨F', rfl, h2, h3, h4⟩
    exact ⟨rfl, ⟨root, H, F', σ, C, ps, h4.heap ht (ht.not hP), h2.mono (by omega), fun i hi => (h3 i hi).elim (hF i) (fun e => by omega), hBt, hM2, ho, .inr hT⟩, h4.mono (fun i _ e => hF i e), BK.ofUpd h4 (fun b cs fr hb => hP.notByte b cs fr hb)⟩
end Go.Proofs.YtecfhfddgolpfaaGreat

/- Memory words of this family: what a call may have written ('Upd', 'Ext'), and how a slice of one-cell elements reads ('Rd', 'Bts'). -/
import Derived.Test.YtecfhfddgolpfaaGreatProg
import Derived.WalkKit
import Derived.WalkSpells
import Derived.WalkLawsBesides
import Derived.Deep.QuietTactic
import Derived.BigQuiet
import Derived.Lib.Hide
import Derived.Laws.AppendOwnNone
import Derived.Laws.CopyOwn
import Derived.StillTailTactics
import Derived.Deep.RegionHeld3
import Derived.Deep.DeepCutAuto
import Derived.Outline
import Derived.Lib.SliceRun
namespace Go.Proofs.YtecfhfddgolpfaaGreat
open Go.RowKit

/-- All blocks that were there, but those in F, are as they were. -/
structure Upd (F : Nat → Prop) (w w' : World) : Prop where
  os : w'.os = w.os
  tape : w'.tape = w.tape
  output : w'.output = w.output
  size : w.heap.size ≤ w'.heap.size
  block : ∀ k, k < w.heap.size → ¬ F k → w'.heap[k]? = w.heap[k]?

/-- Nothing that was there has turned. -/
abbrev Ext (w w' : World) : Prop := Upd (fun _ => False) w w'

theorem Upd.refl (F : Nat → Prop) (w : World) : Upd F w w := ⟨rfl, rfl, rfl, Nat.le_refl _, fun _ _ _ => rfl⟩
theorem Upd.trans {F G : Nat → Prop} {a b c : World} (h : Upd F a b) (k : Upd G b c) (hG : ∀ i, G i → F i ∨ a.heap.size ≤ i) : Upd F a c :=
  ⟨k.os.trans h.os, k.tape.trans h.tape, k.output.trans h.output, Nat.le_trans h.size k.size,
    fun i hi hF => (k.block i (Nat.lt_of_lt_of_le hi h.size) (fun g => (hG i g).elim hF (by omega))).trans (h.block i hi hF)⟩
theorem Upd.mono {F G : Nat → Prop} {a b : World} (h : Upd F a b) (hG : ∀ i, i < a.heap.size → F i → G i) : Upd G a b :=
  ⟨h.os, h.tape, h.output, h.size, fun i hi hF => h.block i hi (fun f => hF (hG i hi f))⟩
theorem Upd.ext {F : Nat → Prop} {a b : World} (h : Ext a b) : Upd F a b := h.mono (fun _ _ f => f.elim)
theorem Upd.andExt {F : Nat → Prop} {a b c : World} (h : Upd F a b) (k : Ext b c) : Upd F a c := h.trans k (fun _ f => f.elim)
theorem Upd.drew {F : Nat → Prop} {a w : World} (h : Upd F a w) : Upd F a w.drew := ⟨h.os, h.tape, h.output, h.size, h.block⟩
theorem Upd.drewN {F : Nat → Prop} {a w : World} (n : Nat) (h : Upd F a w) : Upd F a (w.drewN n) := ⟨h.os, h.tape, h.output, h.size, h.block⟩
theorem Upd.alloc {F : Nat → Prop} {a w : World} (h : Upd F a w) (o : Obj) : Upd F a (w.alloc o) :=
  ⟨h.os, h.tape, h.output, by have := h.size; simp; omega, fun k hk hF => (Below.heap_alloc _ _ _ (Nat.lt_of_lt_of_le hk h.size)).trans (h.block k hk hF)⟩
theorem Upd.setCell {F : Nat → Prop} {a w : World} (h : Upd F a w) {p : Addr} (u : Value) (hp : F p.block ∨ a.heap.size ≤ p.block) : Upd F a (w.setCell p u) :=
  ⟨h.os, h.tape, h.output, by have := h.size; simpa using this, fun k hk hF => (Below.heap_setCell _ _ _ _ (fun e => by subst e; exact hp.elim hF (by omega))).trans (h.block k hk hF)⟩
theorem Upd.grown {F : Nat → Prop} {a w w' : World} {row : Option Nat} (h : Upd F a w) (hg : w.grownBy w' row) (hr : ∀ k, row = some k → F k ∨ a.heap.size ≤ k) : Upd F a w' :=
  ⟨hg.os.trans h.os, hg.tape.trans h.tape, hg.output.trans h.output, Nat.le_trans h.size hg.size,
    fun k hk hF => (hg.block k (Nat.lt_of_lt_of_le hk h.size) (fun e => (hr k e.symm).elim hF (by omega))).trans (h.block k hk hF)⟩
theorem Upd.below {F : Nat → Prop} {B : Nat} {w w' : World} (h : Upd F w w') (hB : B ≤ w.heap.size) (hF : ∀ k, k < B → ¬ F k) : Below B w w' :=
  ⟨h.os, h.tape, h.output, h.size, fun k hk => h.block k (by omega) (hF k hk)⟩
theorem Upd.ofBelow {w w' : World} (h : Below w.heap.size w w') : Ext w w' := ⟨h.os, h.tape, h.output, h.size, fun k hk _ => h.block k hk⟩
theorem Upd.ofGrown {F : Nat → Prop} {w w' : World} {row : Option Nat} (hg : w.grownBy w' row) (hr : ∀ k, row = some k → F k ∨ w.heap.size ≤ k) : Upd F w w' := (Upd.refl F w).grown hg hr
theorem Upd.cell {F : Nat → Prop} {w w' : World} (h : Upd F w w') {p : Addr} {v : Value} (hc : w.cell? p = some v) (hF : ¬ F p.block) : w'.cell? p = some v :=
  (World.cell?_of_block (h.block p.block (World.block_lt_of_cell? w p hc) hF)).trans hc
theorem Upd.frozen {F : Nat → Prop} {w w' : World} (h : Upd F w w') {p : Addr} (hb : p.block < w.heap.size) (hF : ¬ F p.block) : w'.frozen? p = w.frozen? p :=
  World.frozen?_of_block (h.block p.block hb hF)
theorem heap_lt {w : World} {b : Nat} {o : Obj} (h : w.heap[b]? = some o) : b < w.heap.size := (Array.getElem?_eq_some_iff.1 h).1
theorem Upd.heap {F : Nat → Prop} {w w' : World} (h : Upd F w w') {b : Nat} {o : Obj} (hb : w.heap[b]? = some o) (hF : ¬ F b) : w'.heap[b]? = some o :=
  (h.block b (heap_lt hb) hF).trans hb

theorem cell_heap {w : World} {b i : Nat} {cs : Array Value} {E : TypeId} {fr : Nat × Nat} (h : w.heap[b]? = some (.cells cs E fr)) : w.cell? ⟨b, i, none⟩ = cs[i]? := cell_of_row w b i cs E fr h
theorem frozen_heap {w : World} {b i : Nat} {cs : Array Value} {E : TypeId} (h : w.heap[b]? = some (.cells cs E (0, 0))) : w.frozen? ⟨b, i, none⟩ = false := frozen_of_row w b i cs E h

/-! ### how a slice of one-cell elements reads -/
def RdAt (w : World) (E : TypeId) (a : Option Addr) (xs : List Value) : Prop :=
  xs = [] ∨ ∃ b o cs fr, a = some ⟨b, o, none⟩ ∧ w.heap[b]? = some (.cells cs E fr) ∧ ∀ j x, xs[j]? = some x → cs[o + j]? = some x
def Rd (w : World) (E : TypeId) (v : Value) (xs : List Value) : Prop :=
  ∃ a cap, v = .slice a xs.length cap ∧ xs.length ≤ cap ∧ cap ≤ maxLen ∧ (a = none → cap = 0) ∧ RdAt w E a xs

theorem RdAt.news {w : World} {E : TypeId} {ad : Addr} {xs : List Value} (h : RdAt w E (some ad) xs) : ∀ j u, xs[j]? = some u → w.cell? (ad.add j) = some u := by
  intro j u hu
  rcases h with rfl | ⟨b, o, cs, fr, ha, hb, hc⟩
  · simp at hu
  · cases ha
    rw [Addr.add_lit, cell_heap hb]
    exact hc j u hu
theorem RdAt.upd {F : Nat → Prop} {w w' : World} {E : TypeId} {a : Option Addr} {xs : List Value} (hU : Upd F w w') (hF : ∀ b cs fr, F b → w.heap[b]? ≠ some (.cells cs E fr)) (h : RdAt w E a xs) : RdAt w' E a xs := by
  rcases h with rfl | ⟨b, o, cs, fr, ha, hb, hc⟩
  · exact .inl rfl
  · exact .inr ⟨b, o, cs, fr, ha, hU.heap hb (fun f => hF b cs fr f hb), hc⟩
theorem Rd.upd {F : Nat → Prop} {w w' : World} {E : TypeId} {v : Value} {xs : List Value} (hU : Upd F w w') (hF : ∀ b cs fr, F b → w.heap[b]? ≠ some (.cells cs E fr)) (h : Rd w E v xs) : Rd w' E v xs := by
  obtain ⟨a, cap, h1, h2, h3, h4, h5⟩ := h
  exact ⟨a, cap, h1, h2, h3, h4, h5.upd hU hF⟩
theorem Rd.ext {w w' : World} {E : TypeId} {v : Value} {xs : List Value} (h : Rd w E v xs) (hU : Ext w w') : Rd w' E v xs := h.upd hU (fun _ _ _ f => f.elim)
theorem RdAt.ext {w w' : World} {E : TypeId} {a : Option Addr} {xs : List Value} (h : RdAt w E a xs) (hU : Ext w w') : RdAt w' E a xs := h.upd hU (fun _ _ _ f => f.elim)
theorem Rd.nil (w : World) (E : TypeId) : Rd w E (.slice none 0 0) [] := ⟨none, 0, rfl, Nat.le_refl _, by unfold maxLen; omega, fun _ => rfl, .inl rfl⟩
/-- What is owned reads. -/
theorem own_rd {w : World} {base : Nat} {E : TypeId} {v : Value} {n : Nat} {xs : List Value} (h : w.ownsRow base E 1 v n xs) : Rd w E v xs := by
  obtain ⟨hl, h | ⟨g, cap, cur, rfl, hb, hg, hn, hc, hs, ht⟩⟩ := h
  · obtain ⟨rfl, rfl⟩ := h
    have : xs = [] := List.eq_nil_of_length_eq_zero (by simpa using hl)
    subst this
    exact Rd.nil w E
  · have hl' : xs.length = n := by simpa using hl
    refine ⟨some ⟨g, 0, none⟩, cap, by rw [hl'], by omega, hc, fun h => by simp at h, .inr ⟨g, 0, cur, (0, 0), rfl, hg, fun j x hx => ?_⟩⟩
    rw [← ht, List.getElem?_take] at hx
    split at hx
    · simpa using hx
    · simp at hx
theorem own_len {w : World} {base : Nat} {E : TypeId} {v : Value} {n : Nat} {xs : List Value} (h : w.ownsRow base E 1 v n xs) : xs.length = n := by simpa using h.1

theorem Rd.lit (w : World) (E : TypeId) (cs : Array Value) (h : cs.size ≤ 1000) : Rd (w.alloc (.cells cs E)) E (.slice (some ⟨w.heap.size, 0, none⟩) cs.size cs.size) cs.toList :=
  ⟨some ⟨w.heap.size, 0, none⟩, cs.size, by simp, by simp, by unfold maxLen; omega, fun h => by simp at h, .inr ⟨w.heap.size, 0, cs, (0, 0), rfl, heap_alloc_new w _, fun j x hx => by simpa using hx⟩⟩
theorem Rd.one (w : World) (E : TypeId) (x : Value) : Rd (w.alloc (.cells #[x] E)) E (.slice (some ⟨w.heap.size, 0, none⟩) 1 1) [x] := Rd.lit w E #[x] (by simp)

/-- Where a slice's row may lie: where v's lay, or in new memory. -/
def Nw (w : World) (v v' : Value) : Prop := ∀ k, v'.ownBlock = some k → v.ownBlock = some k ∨ w.heap.size ≤ k
theorem Nw.refl (w : World) (v : Value) : Nw w v v := fun _ h => .inl h
theorem Nw.trans {w w' : World} {u v v' : Value} (h : Nw w u v) (k : Nw w' v v') (hs : w.heap.size ≤ w'.heap.size) : Nw w u v' := fun i hi =>
  (k i hi).elim (fun e => h i e) (fun e => .inr (by omega))
/-- A slice of the call's own: at the head of a row without marks, that nobody else writes. -/
abbrev Own (w : World) (E : TypeId) (v : Value) (xs : List Value) : Prop := w.ownsRow 0 E 1 v xs.length xs
theorem own_ext {w w' : World} {E : TypeId} {sz n : Nat} {v : Value} {xs : List Value} {F : Nat → Prop} (h : w.ownsRow 0 E sz v n xs) (hU : Upd F w w') (hF : ∀ k, v.ownBlock = some k → ¬ F k) : w'.ownsRow 0 E sz v n xs := by
  refine ⟨h.1, ?_⟩
  rcases h.2 with h2 | ⟨g, cap, cur, rfl, hb, hg, r⟩
  · exact .inl h2
  · exact .inr ⟨g, cap, cur, rfl, hb, hU.heap hg (hF g rfl), r⟩
theorem own_lt {w : World} {E : TypeId} {sz n : Nat} {v : Value} {xs : List Value} (h : w.ownsRow 0 E sz v n xs) {k : Nat} (hk : v.ownBlock = some k) : k < w.heap.size := (h.lt k hk).2
theorem Own.nil (w : World) (E : TypeId) : Own w E (.slice none 0 0) [] := World.ownsRow_nil w 0 E 1

theorem setRow_upd {w : World} {g : Nat} (cs : Array Value) {cur : Array Value} {E : TypeId} (_ : w.heap[g]? = some (.cells cur E (0, 0))) : Upd (fun k => k = g) w (w.setRow g cs) :=
  ⟨rfl, rfl, rfl, by simp [World.setRow], fun k _ hk => setRow_other w g k cs (fun e => hk e)⟩

/-- append, whatever comes of it. -/
theorem run_app {P : Program} {w : World} (t ty e : TypeId) (z : Value) (size bytes : Nat) (ht : P.underlying t = some (.slice e)) (hi : (P.info? e).map (fun i => (i.zero, i.size, i.bytes)) = some (some z, size, bytes)) (hzs : z.cells.size = size)
    (v : Value) (n : Nat) (xs : List Value) (hown : w.ownsRow 0 e size v n xs)
    (a : Addr) (m c : Nat) (news : List Value) (hl : news.length = m * size) (hnews : ∀ j u, news[j]? = some u → w.cell? (a.add j) = some u) (h1 : ∀ u ∈ news, u.oneCell' = true)
    (h63 : n + m ≤ maxLen) (hbytes : (n + m) * bytes ≤ 140737488355328) :
    ∃ v' w', (Builtin.append_ #[t, t] ty #[v, .slice (some a) m c]).run P w = .ok v' w' ∧ w'.ownsRow 0 e size v' (n + m) (xs ++ news) ∧ Nw w v v' ∧ Upd (fun k => v.ownBlock = some k) w w' := by
  obtain ⟨i, hi', hz, hsize, hby⟩ := info_parts hi
  clear hi
  have hi := hi'
  clear hi'
  subst hsize
  subst hby
  have hsmall : n + m ≤ 9223372036854775807 := by simp only [maxLen] at h63; omega
  have hlen : (xs ++ news).length = (n + m) * i.size := by rw [List.length_append, hown.1, hl, Nat.add_mul]
  have grown : ∀ (old : Nat), old < n + m →
      (w.drew.alloc (.cells (xs.toArray ++ news.toArray ++ Builtin.zeroCells z.cells (grownCap w (n + m) old e - (n + m))) e)).ownsRow 0 e i.size
        (.slice (some ⟨w.heap.size, 0, none⟩) (n + m) (grownCap w (n + m) old e)) (n + m) (xs ++ news) := by
    intro old ho
    have hge := grownCap_ge w (n + m) old e
    have hcm : grownCap w (n + m) old e ≤ maxLen := grownCap_le_maxLen w (n + m) old e h63
    refine ⟨hlen, .inr ⟨w.heap.size, _, _, rfl, Nat.zero_le _, heap_alloc_new w.drew _, hge, hcm, ?_, ?_⟩⟩
    · simp only [Array.size_append, List.size_toArray, size_zeroCells, hzs, hown.1, hl, ← Nat.add_mul]
      congr 1
      omega
    · simp only [Array.toList_append, List.append_assoc]
      rw [← List.append_assoc, ← hlen]
      exact List.take_left
  have hnw : ∀ n' c' , Nw w v (.slice (some ⟨w.heap.size, 0, none⟩) n' c') := fun n' c' k hk => .inr (by simp [Value.ownBlock] at hk; omega)
  rcases hown.2 with ⟨rfl, rfl⟩ | ⟨g, cap, cur, rfl, hbg, hg, hnc, hcm, hcs, htake⟩
  · have hx : xs = [] := List.eq_nil_of_length_eq_zero (by simpa using hown.1)
    subst hx
    by_cases hm : m = 0
    · subst hm
      have hn : news = [] := List.eq_nil_of_length_eq_zero (by simpa using hl)
      subst hn
      refine ⟨.slice none 0 0, w, ?_, World.ownsRow_nil w 0 e i.size, Nw.refl _ _, Upd.refl _ _⟩
      simp [Builtin.append_, run_underlying ht, sizeOf, typeInfo, hi, Builtin.lenOf, Builtin.firstCells, loadCells, loadCellsFrom]
    · have hr := run_append_nil (P := P) w t ty e i z ht hi hz a m c news hl hnews (by omega) (by omega) (by have hb := hbytes; simp only [Nat.zero_add] at hb; omega)
      have hgr := grown 0 (by omega)
      simp only [Nat.zero_add, List.nil_append, Array.empty_append] at hgr ⊢
      exact ⟨_, _, hr, hgr, hnw _ _, (Upd.refl _ w).drew.alloc _⟩
  · by_cases hroom : n + m ≤ cap
    · have hfit : n * i.size + news.length ≤ cur.size := by rw [hl, hcs, ← Nat.add_mul]; exact Nat.mul_le_mul_right _ hroom
      have hr := run_append_room (P := P) w t ty e i ht hi g n cap cur hg a m c news hl hnews h1 hroom hfit
      refine ⟨_, _, hr, ⟨hlen, .inr ⟨g, cap, _, rfl, hbg, setRow_heap w g cur _ e _ hg, hroom, hcm, ?_, ?_⟩⟩, fun k hk => .inl hk, (setRow_upd _ hg).mono (fun k _ e => by simp [Value.ownBlock, e])⟩
      · simp only [List.size_toArray, List.length_append, List.length_take, List.length_drop, Array.length_toList]
        omega
      · rw [htake, ← hlen]
        exact List.take_left
    · have holds : ∀ j u, xs[j]? = some u → w.cell? ((⟨g, 0, none⟩ : Addr).add j) = some u := hown.cells (g := g) rfl
      have hr := run_append_grow (P := P) w t ty e i z ht hi hz ⟨g, 0, none⟩ n cap xs hown.1 holds a m c news hl hnews (by omega) (by omega) (growslice_fits (by omega) hbytes)
      exact ⟨_, _, hr, grown cap (by omega), hnw _ _, (Upd.refl _ w).drew.alloc _⟩

theorem wpList_run {P : Program} {w : World} {ops : Array Oper} {rest : List Oper} {o : Oper} {a : Act} {Q : Exit → Act → World → Prop} (hgd : o.guard = none) {v' : Value} {w' : World}
    (hr : (execOp a.eval o).run P w = .ok (.value v') w') (h : wpList P ops Q rest (a.put o.dst v') w') : wpList P ops Q (o :: rest) a w :=
  wpList_plain hgd fun _ hK => by unfold Oper.wp; rw [hr]; exact hK _ _ h
/-- append onto a slice of the call's own (elements of one cell), from whatever reads. -/
theorem wpList_app {P : Program} {w : World} {ops : Array Oper} {rest : List Oper} {o : Oper} {a : Act} {Q : Exit → Act → World → Prop} (hgd : o.guard = none) (s x : Operand) (t : TypeId)
    (ho : o.op = .call { callee := .builtin .append, args := #[s, x], argTypes := #[t, t] })
    (e : TypeId) (z : Value) (bytes : Nat) (ht : P.underlying t = some (.slice e)) (hi : (P.info? e).map (fun i => (i.zero, i.size, i.bytes)) = some (some z, 1, bytes)) (hzs : z.cells.size = 1)
    (v : Value) (xs : List Value) (hs : a.eval s = v) (hown : Own w e v xs)
    (u : Value) (ys : List Value) (hx : a.eval x = u) (hrd : Rd w e u ys) (h1 : ∀ y ∈ ys, y.oneCell' = true)
    (h63 : xs.length + ys.length ≤ 1099511627776) (hbytes : bytes ≤ 64)
    (h : ∀ v' w', Own w' e v' (xs ++ ys) → Nw w v v' → Upd (fun k => v.ownBlock = some k) w w' → wpList P ops Q rest (a.put o.dst v') w') : wpList P ops Q (o :: rest) a w := by
  obtain ⟨p, cap, rfl, hc1, hc2, hc3, hrd⟩ := hrd
  cases p with
  | none =>
    obtain rfl : cap = 0 := hc3 rfl
    obtain rfl : ys = [] := List.eq_nil_of_length_eq_zero (by omega)
    obtain ⟨i, hi, _⟩ := info_parts hi
    refine wpList_append_own_none hgd s x t ho 0 e i 1 ht hi v _ xs hs hown hx ?_
    exact h v w (by simpa using hown) (Nw.refl _ _) (Upd.refl _ _)
  | some ad =>
    obtain ⟨v', w', hrun, h2, h3, h4⟩ := run_app (P := P) t o.type e z 1 bytes ht hi hzs v _ xs hown ad ys.length cap ys (by simp) hrd.news h1 (by unfold maxLen; omega)
      (calc (xs.length + ys.length) * bytes ≤ 1099511627776 * 64 := Nat.mul_le_mul h63 hbytes
        _ ≤ 140737488355328 := by decide)
    refine wpList_plain hgd fun K hK => ?_
    unfold Oper.wp
    simp [execOp, ho, resolve, invoke, builtin, hs, hx, hrun, Result.andThen]
    exact hK _ _ (h v' w' (by unfold Own; rw [List.length_append]; exact h2) h3 h4)

/-! ### bytes -/
def byv (l : List UInt8) : List Value := l.map fun b => .int .u8 (b.toNat : Int)
@[simp] theorem byv_length (l : List UInt8) : (byv l).length = l.length := by simp [byv]
@[simp] theorem byv_nil : byv [] = [] := rfl
theorem byv_append (a b : List UInt8) : byv (a ++ b) = byv a ++ byv b := by simp [byv]
theorem byv_get (l : List UInt8) (i : Nat) (h : i < l.length) : (byv l)[i]? = some (.int .u8 (l[i].toNat : Int)) := by simp [byv, h]
theorem byv_one (l : List UInt8) : ∀ u ∈ byv l, u.oneCell' = true := by
  intro u hu
  obtain ⟨_, _, rfl⟩ := List.mem_map.1 hu
  rfl
def Bts (w : World) (v : Value) (l : List UInt8) : Prop := Rd w 5 v (byv l)
theorem Bts.ext {w w' : World} {v : Value} {l : List UInt8} (h : Bts w v l) (hU : Ext w w') : Bts w' v l := Rd.ext h hU
theorem Bts.open {w : World} {v : Value} {l : List UInt8} (h : Bts w v l) : ∃ a cap, v = .slice a l.length cap ∧ l.length ≤ cap ∧ cap ≤ maxLen ∧ (a = none → cap = 0) ∧ RdAt w 5 a (byv l) := by
  obtain ⟨a, cap, h1, h2, h3, h4, h5⟩ := h
  simp only [byv_length] at h1 h2
  exact ⟨a, cap, h1, h2, h3, h4, h5⟩
theorem RdAt.byte {w : World} {a : Option Addr} {l : List UInt8} (h : RdAt w 5 a (byv l)) {i : Nat} (hi : i < l.length) : ∃ b o, a = some ⟨b, o, none⟩ ∧ w.cell? ⟨b, o + i, none⟩ = some (.int .u8 (l[i].toNat : Int)) ∧ b < w.heap.size := by
  rcases h with h | ⟨b, o, cs, fr, ha, hb, hc⟩
  · have := congrArg List.length h; simp at this; subst this; simp at hi
  · exact ⟨b, o, ha, by rw [cell_heap hb]; exact hc i _ (byv_get l i hi), heap_lt hb⟩

/-! ### the element types' rows of the table -/
theorem info_u8 : (Tryz.prog.info? 5).map (fun i => (i.zero, i.size, i.bytes)) = some (some (.int .u8 0), 1, 1) := by kernel_rfl
theorem info_int : (Tryz.prog.info? 3).map (fun i => (i.zero, i.size, i.bytes)) = some (some (.int .i64 0), 1, 8) := by kernel_rfl
theorem info_bs : (Tryz.prog.info? 23).map (fun i => (i.zero, i.size, i.bytes)) = some (some (.slice none 0 0), 1, 24) := by kernel_rfl
end Go.Proofs.YtecfhfddgolpfaaGreat

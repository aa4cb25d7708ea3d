/- disk.Write. -/
import Derived.Test.YtecfhfddgolpfaaGreatDiskB
namespace Go.Proofs.YtecfhfddgolpfaaGreat
open Go.RowKit

theorem info_wr : (Tryz.prog.info? 250).map (fun i => (i.zero, i.size, i.bytes)) = some (some (.agg #[.int .i64 0, .slice none 0 0]), 2, 32) := by kernel_rfl
/-- append of one element of several cells. -/
theorem wpList_appN {P : Program} {w : World} {ops : Array Oper} {rest : List Oper} {o : Oper} {a : Act} {Q : Exit → Act → World → Prop} (hgd : o.guard = none) (s x : Operand) (t : TypeId)
    (ho : o.op = .call { callee := .builtin .append, args := #[s, x], argTypes := #[t, t] })
    (e : TypeId) (z : Value) (size bytes : Nat) (ht : P.underlying t = some (.slice e)) (hi : (P.info? e).map (fun i => (i.zero, i.size, i.bytes)) = some (some z, size, bytes)) (hzs : z.cells.size = size)
    (v : Value) (n : Nat) (xs : List Value) (hs : a.eval s = v) (hown : w.ownsRow 0 e size v n xs)
    (ad : Addr) (ys : List Value) (hx : a.eval x = .slice (some ad) 1 1) (hl : ys.length = size) (hnews : ∀ j u, ys[j]? = some u → w.cell? (ad.add j) = some u) (h1 : ∀ y ∈ ys, y.oneCell' = true)
    (h63 : n + 1 ≤ 1099511627776) (hbytes : bytes ≤ 64)
    (h : ∀ v' w', w'.ownsRow 0 e size v' (n + 1) (xs ++ ys) → Nw w v v' → Upd (fun k => v.ownBlock = some k) w w' → wpList P ops Q rest (a.put o.dst v') w') : wpList P ops Q (o :: rest) a w := by
  obtain ⟨v', w', hrun, h2, h3, h4⟩ := run_app (P := P) t o.type e z size bytes ht hi hzs v n xs hown ad 1 1 ys (by omega) hnews h1 (by unfold maxLen; omega)
    (calc (n + 1) * bytes ≤ 1099511627776 * 64 := Nat.mul_le_mul h63 hbytes
      _ ≤ 140737488355328 := by decide)
  refine wpList_plain hgd fun K hK => ?_
  unfold Oper.wp
  simp [execOp, ho, resolve, invoke, builtin, hs, hx, hrun, Result.andThen]
  exact hK _ _ (h v' w' h2 h3 h4)

theorem wpList_updFx {P : Program} {w : World} {ops : Array Oper} {rest : List Oper} {o : Oper} {a : Act} {Q : Exit → Act → World → Prop} (hg : o.guard = none) (m x v : Operand) (t kt et : TypeId) (hop : o.op = Op.mapUpdate t m x v)
    (hm : P.underlying t = some (.map kt et)) (hd : P.underlying kt = some (.int .i64)) (b n : Nat) (f : Int → Option Value) (h : MapF w b f n) (he : a.eval m = .map (some b)) (k : Int) (hx : a.eval x = .int .i64 k) (u : Value) (hv : a.eval v = u)
    (hK : ∀ w' n', MapF w' b (fun j => if j = k then some u else f j) n' → Upd (fun i => i = b) w w' → wpList P ops Q rest (a.put o.dst undef) w') : wpList P ops Q (o :: rest) a w :=
  wpList_updF hg m x v t kt et hop hm hd b n f h he k hx u hv (fun w' h1 h2 => hK w' _ h1 h2)

set_option maxRecDepth 100000 in
set_option maxHeartbeats 1000000 in
theorem write_disk {w : World} {d mn ml c : Nat} {n cnt : Nat} {a0 a1 a2 : Int} {pv : Value} {xs : List Value} {f : Int → Option Value} {S : Int → Bytes} (h : DiskRow w d n mn ml pv a0 a1 a2) (hm : MapF w mn f c) (hS : Secs w f S)
    (hp : w.ownsRow 0 250 2 pv cnt xs) (hc : cnt ≤ 1000000000) (k : Nat) (hk : k < n) (bv : Value) (b : Bytes) (hb : Bts w bv b) (hbl : b.length = 256) :
    Calls Tryz.prog 152 #[.pointer (some ⟨d, 0, none⟩), .int .i64 k, bv] w fun e w' => e = .returned (.int .i64 0) ∧ ∃ pv' xs' c' f' r, DiskRow w' d n mn ml pv' a0 r a2 ∧ MapF w' mn f' c' ∧ Secs w' f' (fun j => if j = (k : Int) then b else S j) ∧
      w'.ownsRow 0 250 2 pv' (cnt + 1) xs' ∧ Nw w pv pv' ∧ Upd (fun i => i = d ∨ i = mn ∨ pv.ownBlock = some i) w w' := by
  have hmd : mn ≠ d := fun e => by subst e; exact hm.notCells _ _ _ h
  have hpd : pv.ownBlock ≠ some d := fun e => by
    rcases hp.2 with ⟨rfl, _⟩ | ⟨g, cap, cur, rfl, _, hg, _⟩
    · simp [Value.ownBlock] at e
    · simp [Value.ownBlock] at e; rw [e, show w.heap[d]? = _ from h] at hg; simp at hg
  have hpm : pv.ownBlock ≠ some mn := fun e => by
    rcases hp.2 with ⟨rfl, _⟩ | ⟨g, cap, cur, rfl, _, hg, _⟩
    · simp [Value.ownBlock] at e
    · simp [Value.ownBlock] at e; rw [e] at hg; exact hm.notCells _ _ _ hg
  obtain ⟨pb, cb, rfl, -⟩ := hb.open
  have c0 : w.cell? ⟨d, 0, none⟩ = some (.int .i64 n) := by rw [cell_heap h]; rfl
  have c7 : w.cell? ⟨d, 7, none⟩ = some (.int .i64 a1) := by rw [cell_heap h]; rfl
  have f7 : w.frozen? ⟨d, 7, none⟩ = false := frozen_heap h
  have hkn2 : (k : Int) < (n : Int) := by omega
  have hk0 : ¬ ((k : Int) < 0) := by omega
  have hkn3 : ¬ (n ≤ k) := by omega
  have HD := Lib.hid (down_disk h)
  have HBN := Lib.hid (burn_disk h)
  have HA := Lib.hid (add_any d 7 a1 1 w c7 f7)
  have HH := Lib.hid h
  have HM := Lib.hid hm
  have HS := Lib.hid hS
  have HP := Lib.hid hp
  have HB := Lib.hid hb
  have HBL := Lib.hid hbl
  rw [hbl]
  clear h hm hS c7 f7 hp hb hbl
  go_enter Tryz.func152, Tryz.ntmps152
  go_wp2_with (first
    | (go_at_call 132; refine HD.out.mono ?_; rintro e w1 ⟨rfl, rfl⟩)
    | (go_at_call 162; refine HBN.out.mono ?_; rintro e w1 ⟨rfl, rfl⟩))
  refine HA.out.mono ?_
  rintro e w2 ⟨r, rfl, hw2⟩
  have hU2 : Upd (fun b => b = d) w1 w2 := by rw [hw2]; exact (Upd.refl _ w1).setCell _ (.inl rfl)
  have hr2 : DiskRow w2 d n mn ml pv a0 r a2 := by
    unfold DiskRow
    rw [hw2, heap_setCell_same w1 d 7 _ _ _ HH.out]
    rfl
  have hnb : ∀ b cs fr, b = d → w1.heap[b]? ≠ some (.cells cs 5 fr) := by rintro b cs fr rfl e; rw [HH.out] at e; simp at e
  have hm2 := HM.out.upd hU2 hmd
  have hS2 : Secs w2 f S := HS.out.upd hU2 hnb
  have hb2 := HB.out.upd hU2 hnb
  have hp2 := own_ext HP.out hU2 (fun k hk e => hpd (by rw [hk, e]))
  have HCL := Lib.hid (cloneb_any _ b w2 hb2 (by rw [HBL.out]; omega))
  have HR2 := Lib.hid hr2
  have HM2 := Lib.hid hm2
  have HS2 := Lib.hid hS2
  have HU2 := Lib.hid hU2
  have HP2 := Lib.hid hp2
  have hlen : (Value.slice pb b.length cb) = .slice pb 256 cb := by rw [HBL.out]
  rw [hlen] at HCL
  clear hU2 hr2 hm2 hS2 hw2 c0 hnb hb2 hp2 hlen
  go_wp2_with fail
  refine HCL.out.mono ?_
  rintro e w3 ⟨v3, rfl, ho, hn, hU3⟩
  have hb3 : Bts w3 v3 b := own_rd ho
  have hb3' := hb3
  obtain ⟨p3, q3, rfl, -⟩ := hb3'.open
  have hr3 : DiskRow w3 d n mn ml pv a0 r a2 := hU3.heap HR2.out (fun f => f)
  have c1 : w3.cell? ⟨d, 1, none⟩ = some (.map (some mn)) := by rw [cell_heap hr3]; rfl
  have HR3 := Lib.hid hr3
  have HM3 := Lib.hid (HM2.out.upd hU3 (fun f => f))
  have HS3 := Lib.hid (HS2.out.upd hU3 (fun _ _ _ f => f.elim))
  have HP3 := Lib.hid (own_ext HP2.out hU3 (fun _ _ f => f))
  have HU3 := Lib.hid (HU2.out.andExt hU3)
  have HB3 := Lib.hid hb3
  clear ho hn hU3 hb3 hb3' hr3
  go_wp2_with (first | (at_mapUpdate; refine wpList_updFx rfl _ _ _ 125 3 23 rfl (by kernel_rfl) (by kernel_rfl) mn c f HM3.out rfl (k : Int) rfl _ rfl ?_) | fail)
  intro w4 c4 hm4 hU4
  have hnb : ∀ b cs fr, b = mn → w3.heap[b]? ≠ some (.cells cs 5 fr) := by rintro b cs fr rfl; exact HM3.out.notCells _ _ _
  have hr4 : DiskRow w4 d n mn ml pv a0 r a2 := hU4.heap HR3.out (fun e => hmd e.symm)
  have hS4 : Secs w4 (fun j => if j = (k : Int) then some (.slice p3 b.length q3) else f j) (fun j => if j = (k : Int) then b else S j) := by
    intro j
    by_cases hj : j = (k : Int)
    · simp only [hj, if_true]; exact ⟨HBL.out, HB3.out.upd hU4 hnb⟩
    · simp only [if_neg hj]; exact HS3.out.upd hU4 hnb j
  have hp4 := own_ext HP3.out hU4 (fun k hk e => hpm (by rw [hk, e]))
  have hU4a := HU3.out.mono (G := fun i => i = d ∨ i = mn ∨ pv.ownBlock = some i) (fun i _ h => .inl h) |>.trans hU4 (fun i h => .inl (.inr (.inl h)))
  obtain ⟨W5, hW5⟩ : ∃ W5, W5 = w4.alloc (.cells #[.int .i64 k, .slice p3 b.length q3] 250) := ⟨_, rfl⟩
  have hU5 : Ext w4 W5 := by rw [hW5]; exact (Upd.refl _ w4).alloc _
  have c3 : w4.cell? ⟨d, 3, none⟩ = some pv := by rw [cell_heap hr4]; rfl
  have hnews : ∀ j u, [Value.int .i64 k, .slice p3 b.length q3][j]? = some u → W5.cell? ((⟨w4.heap.size, 0, none⟩ : Addr).add j) = some u := by
    intro j u hu
    rw [hW5, Addr.add_lit, cell_heap (heap_alloc_new w4 _), Nat.zero_add]
    simpa using hu
  have HR5 := Lib.hid (hU5.heap hr4 (fun f => f))
  have HM5 := Lib.hid (hm4.upd hU5 (fun f => f))
  have HS5 := Lib.hid (hS4.upd hU5 (fun _ _ _ f => f.elim))
  have HP5 := Lib.hid (own_ext hp4 hU5 (fun _ _ f => f))
  have HU5 := Lib.hid (hU4a.andExt hU5)
  have HW5 := Lib.hid hW5
  have HNW := Lib.hid hnews
  have HS45 := Lib.hid (show W5.heap.size = w4.heap.size + 1 by rw [hW5]; simp)
  clear hm4 hU4 hnb hr4 hS4 hp4 hU4a hU5 hW5 hnews c1
  go_wp2_with (first | (at_builtin; rw [← HW5.out]; refine wpList_appN rfl _ _ 126 rfl 250 _ 2 32 (by kernel_rfl) info_wr rfl _ cnt xs rfl HP5.out _ [.int .i64 k, .slice p3 b.length q3] rfl rfl HNW.out (by simp [Value.oneCell']) (by omega) (by decide) ?_) | fail)
  intro v6 w6 ho hn hU6
  obtain ⟨g, cap, rfl⟩ : ∃ g cap, v6 = .slice (some ⟨g, 0, none⟩) (cnt + 1) cap := by
    rcases ho.2 with ⟨-, h0⟩ | ⟨g, cap, cur, h0, -⟩
    · omega
    · exact ⟨g, cap, h0⟩
  have hr6 : DiskRow w6 d n mn ml pv a0 r a2 := hU6.heap HR5.out hpd
  have e3 : w6.cell? ⟨d, 3, none⟩ = some pv := by rw [cell_heap hr6]; rfl
  have ef3 : w6.frozen? ⟨d, 3, none⟩ = false := frozen_heap hr6
  have hnb6 : ∀ b cs fr, pv.ownBlock = some b → W5.heap[b]? ≠ some (.cells cs 5 fr) := by
    intro b cs fr hb e
    rcases HP5.out.2 with ⟨rfl, _⟩ | ⟨g, cap, cur, rfl, _, hg, _⟩
    · simp [Value.ownBlock] at hb
    · simp [Value.ownBlock] at hb; rw [← hb, hg] at e; simp at e
  have HS6 := Lib.hid (HS5.out.upd hU6 hnb6)
  have HM6 := Lib.hid (HM5.out.upd hU6 hpm)
  have HU6 := Lib.hid (HU5.out.trans hU6 (fun i h => .inl (.inr (.inr h))))
  have HR6 := Lib.hid hr6
  have HO := Lib.hid ho
  have HN := Lib.hid hn
  clear ho hn hU6 hr6 hnb6 c3
  go_wp2
  go_ret
  have hUs : Upd (fun i => i = d) w6 (w6.setCell ⟨d, 3, none⟩ (.slice (some ⟨g, 0, none⟩) (cnt + 1) cap)) := (Upd.refl _ w6).setCell _ (.inl rfl)
  have hgd : g ≠ d := fun e => by
    rcases HO.out.2 with ⟨h0, -⟩ | ⟨g', cap', cur, h0, -, hg, -⟩
    · simp at h0
    · simp at h0; obtain ⟨rfl, rfl⟩ := h0; rw [e, show w6.heap[d]? = _ from HR6.out] at hg; simp at hg
  refine ⟨rfl, _, _, _, _, r, ?_, HM6.out.upd hUs hmd, HS6.out.upd hUs (by rintro b cs fr rfl e; rw [HR6.out] at e; simp at e), own_ext HO.out hUs (fun k hk e => by simp [Value.ownBlock] at hk; omega), ?_, HU6.out.trans hUs (fun i h => .inl (.inl h))⟩
  · unfold DiskRow
    rw [heap_setCell_same w6 d 3 _ _ _ HR6.out]
    rfl
  · intro k hk
    rcases HN.out k hk with e | e
    · exact .inl e
    · exact .inr (by have := HS45.out; have := HU5.out.size; omega)
end Go.Proofs.YtecfhfddgolpfaaGreat

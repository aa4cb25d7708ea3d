/- Pages: write of a frame. -/
import Derived.Test.YtecfhfddgolpfaaGreatPagesC
namespace Go.Proofs.YtecfhfddgolpfaaGreat
open Go.RowKit
variable {w w' : World} {F G FD : Nat → Prop} {p d nf pool dn mf N : Nat} {isv usv : Value} {fr : Int → Option Value} {us σ : List Int} {V : Int → Prop} {C S : Int → Bytes}

theorem Bts.chunk {w : World} {b o cap : Nat} {l : Bytes} (h : Bts w (.slice (some ⟨b, o, none⟩) 1024 cap) l) (hl : l.length = 1024) (q : Nat) (hq : q < 4) :
    Bts w (.slice (some ⟨b, o + q * 256, none⟩) 256 (cap - q * 256)) (chunk l q) := by
  have h1 : Bts w (.slice (some ⟨b, o, none⟩) l.length cap) l := by rw [hl]; exact h
  obtain ⟨a', cap', he, hc, hm, hnn, hr⟩ := h.open
  simp only [Value.slice.injEq] at he
  obtain ⟨rfl, -, rfl⟩ := he
  have h2 := h1.drop (q * 256) (by omega)
  rw [if_neg (by omega)] at h2
  have h2l : (l.drop (q * 256)).length = l.length - q * 256 := by simp
  rw [← h2l] at h2
  have h3 := h2.take 256 (by rw [h2l]; omega) (fun e => by omega)
  have hcl := chunk_len l hl q hq
  refine ⟨_, _, by rw [byv_length, hcl], by rw [byv_length, hcl]; omega, by omega, fun e => by simp at e, ?_⟩
  simpa [Addr.add_lit, chunk, Go.Proofs.YtecfhfddgolpfaaGreat.chunk] using h3
theorem run_slice_bytes (w : World) (b o len cap l h : Nat) (k1 k2 : Int) (h1 : k1 = l) (h2 : k2 = h) (hlh : l ≤ h) (hc : h ≤ cap) (hlc : l < cap) :
    (Instr.sliceAt 23 (.slice (some ⟨b, o, none⟩) len cap) (some (.int .i64 k1)) (some (.int .i64 k2)) none).run Tryz.prog w = .ok (.slice (some ⟨b, o + l, none⟩) (h - l) (cap - l)) w := by
  obtain ⟨i, hi, hz0, hz1, hz2⟩ := info_parts info_u8
  subst h1 h2
  have ht : Tryz.prog.underlying 23 = some (.slice (Tryz.prog.elem 23)) := by kernel_rfl
  rw [run_sliceAt_slice _ _ _ _ _ _ ht, run_slice_lh _ _ _ _ _ ht _ _ _ _ (by omega) (by omega) (by omega)]
  have he : Tryz.prog.elem 23 = 5 := by kernel_rfl
  rw [he]
  simp [sizeOf, typeInfo, hi, hz1, Result.andThen, sliced, Addr.add_lit]
  omega
theorem write_fin (h : PgsAt w F p nf pool dn σ V C S N d FD isv mf fr usv us) {n : Nat} {fb : Nat} {bv : Value} {dirty : Bool} (hf : fr (n : Int) = some (.pointer (some ⟨fb, 0, none⟩)))
    (hfb : w.heap[fb]? = some (.cells #[.int .i64 n, bv, .bool dirty] 206 (0, 0))) (hbv : Bts w bv (C n)) (hlen : (C n).length = 1024) (hn : n < σ.length)
    {wr : World} {FD' : Nat → Prop} (hd : DiskS wr FD' d dn (laidS S nf n (C n) 4) (N + 4)) (hF : ∀ i, FD' i → FD i ∨ w.heap.size ≤ i) (hU : Upd FD w wr) :
    ∃ F' FD' S', PgsAt (wr.setCell ⟨fb, 2, none⟩ (.bool false)) F' p nf pool dn σ V C S' (N + 4) d FD' isv mf fr usv us ∧
      sec4 S' nf n = C n ∧ (∀ m, m ≠ (n : Int) → sec4 S' nf m = sec4 S nf m) ∧ (∃ bv, (wr.setCell ⟨fb, 2, none⟩ (.bool false)).heap[fb]? = some (.cells #[.int .i64 n, bv, .bool false] 206 (0, 0))) ∧ (∀ i, F' i → F i ∨ w.heap.size ≤ i) ∧ Upd F w (wr.setCell ⟨fb, 2, none⟩ (.bool false)) := by
  obtain ⟨hf1, hf2, hf3, hf4, hf5⟩ := h.fne hfb
  obtain ⟨hp1, hp2, hp3, hp4, hp5, hp6⟩ := h.pne
  have hfl := heap_lt hfb
  have hml := h.pl.frm.lt
  have hr := hU.heap hfb hf2
  have hus : Upd (fun i => i = fb) wr (wr.setCell ⟨fb, 2, none⟩ (.bool false)) := (Upd.refl _ wr).setCell _ (.inl rfl)
  have hnb : ∀ b cs fr, b = fb → wr.heap[b]? ≠ some (.cells cs 5 fr) := by rintro b cs fr rfl e; rw [hr] at e; simp at e
  have hw2 : (wr.setCell ⟨fb, 2, none⟩ (.bool false)).heap[fb]? = some (.cells #[.int .i64 n, bv, .bool false] 206 (0, 0)) := by
    rw [heap_setCell_same wr fb 2 _ _ _ hr]; rfl
  have hfd : ¬ FD' fb := fun e => (hF _ e).elim hf2 (by omega)
  have hmd : ¬ FD' mf := fun e => (hF _ e).elim h.mfd (by omega)
  have h4 := laidS_sec4 S nf n (C n) hlen
  have ho : ∀ m, m ≠ (n : Int) → sec4 (laidS S nf n (C n) 4) nf m = sec4 S nf m := fun m hm => laidS_other S nf n m (C n) hm
  refine ⟨fun i => i = p ∨ FD' i ∨ isv.ownBlock = some i ∨ i = mf ∨ usv.ownBlock = some i ∨ ∃ k, fr k = some (.pointer (some ⟨i, 0, none⟩)), FD', _, ?_, h4, ho, ⟨_, hw2⟩, ?_, ?_⟩
  · refine ⟨(h.pl.upd hU hp1 h.mfd (fun k hk => (hp6 k hk).1)).upd hus (fun e => hf1 e.symm) (fun e => hf4 e.symm) (fun k hk e => hf5 (e ▸ hk)), hd.upd hus (fun i hi e => hfd (e ▸ hi)) hnb, own_ext (own_ext h.is hU (fun k hk => (hp5 k hk).1)) hus (fun k hk e => hf3 (e ▸ hk)), ?_, ?_, h.vr, hmd, h.up, h.p0, h.pm, h.fit, h.dnm, fun i => Iff.rfl⟩
    · intro m v hv
      by_cases hm : m = (n : Int)
      · subst hm
        rw [hf] at hv
        cases hv
        exact ⟨fb, bv, false, rfl, hw2, (hbv.upd hU h.dk.notByte).upd hus hnb, hlen, fun _ => h4.symm, by omega, by omega⟩
      · have h1 := h.frs m v hv
        obtain ⟨gb, gv, gd, rfl, g1, g2, g3, g4, g5⟩ := h1
        have hg := (h.fne g1).2.1
        have hgf : gb ≠ fb := fun e => by subst e; rw [hfb] at g1; simp at g1; omega
        exact ⟨gb, gv, gd, rfl, hus.heap (hU.heap g1 hg) hgf, (g2.upd hU h.dk.notByte).upd hus hnb, g3, fun e => by rw [ho m hm]; exact g4 e, g5⟩
    · intro m hm hv
      have : m ≠ (n : Int) := fun e => by subst e; rw [hf] at hv; simp at hv
      rw [ho m this]; exact h.cold m hm hv
  · intro i hi
    rw [h.foot]
    rcases hi with e | e | e
    · exact .inl (.inl e)
    · exact (hF i e).imp (fun e => .inr (.inl e)) id
    · exact .inl (.inr (.inr e))
  · refine (hU.mono (G := F) (fun i _ e => (h.foot i).2 (.inr (.inl e)))).trans hus (fun i e => .inl ((h.foot i).2 (.inr (.inr (.inr (.inr (.inr ⟨n, by rw [e]; exact hf⟩)))))))
set_option maxRecDepth 100000 in
set_option maxHeartbeats 1000000 in
theorem write_frame (h : PgsAt w F p nf pool dn σ V C S N d FD isv mf fr usv us) (hN : N + 4 ≤ 1000000000) (k : Int) (fb : Nat) (hf : fr k = some (.pointer (some ⟨fb, 0, none⟩))) :
    Calls Tryz.prog 131 #[.pointer (some ⟨p, 0, none⟩), .pointer (some ⟨fb, 0, none⟩)] w fun e w' => e = .returned (.bool true) ∧ ∃ F' FD' S', PgsAt w' F' p nf pool dn σ V C S' (N + 4) d FD' isv mf fr usv us ∧
      sec4 S' nf k = C k ∧ (∀ m, m ≠ k → sec4 S' nf m = sec4 S nf m) ∧ (∃ bv, w'.heap[fb]? = some (.cells #[.int .i64 k, bv, .bool false] 206 (0, 0))) ∧ (∀ i, F' i → F i ∨ w.heap.size ≤ i) ∧ Upd F w w' := by
  obtain ⟨fb', bv, dirty, e1, hfb, hbv, hlen, hcl, hk0, hkc⟩ := h.frs k _ hf
  simp at e1
  subst e1
  obtain ⟨n, rfl⟩ : ∃ n : Nat, k = n := ⟨k.toNat, by omega⟩
  obtain ⟨hf1, hf2, hf3, hf4, hf5⟩ := h.fne hfb
  obtain ⟨hp1, hp2, hp3, hp4, hp5, hp6⟩ := h.pne
  obtain ⟨a, cap, rfl, hc1, hc2, hc3, hrd⟩ := hbv.open
  obtain ⟨bb, bo, rfl⟩ : ∃ bb bo, a = some ⟨bb, bo, none⟩ := by
    rcases hrd with e | ⟨bb, bo, cs, fr, rfl, -⟩
    · have := congrArg List.length e; simp [hlen] at this
    · exact ⟨bb, bo, rfl⟩
  rw [hlen] at hbv hfb
  have c0 := h.pl.row.cells.1
  have c1 := h.pl.row.cells.2.1
  have q0 : w.cell? ⟨fb, 0, none⟩ = some (.int .i64 n) := by rw [cell_heap hfb]; rfl
  have q1 : w.cell? ⟨fb, 1, none⟩ = some (.slice (some ⟨bb, bo, none⟩) 1024 cap) := by rw [cell_heap hfb]; rfl
  have hfit := h.fit
  have hdnm := h.dnm
  have hnf : nf ≤ 100000 := by omega
  have hn1 : n ≤ 100000 := by omega
  have hcap : 1024 ≤ cap := by omega
  have hcapm : cap ≤ 9223372036854775807 := by unfold maxLen at hc2; omega
  have HH := Lib.hid h
  have HB := Lib.hid hbv
  have HLEN := Lib.hid hlen
  have HFB := Lib.hid hfb
  have HC0 := Lib.hid c0
  have HC1 := Lib.hid c1
  have HQ0 := Lib.hid q0
  have HQ1 := Lib.hid q1
  have HF := Lib.hid hf
  clear hrd hc1 hc2 hc3 hbv hlen hfb hcl c0 c1 q0 q1 h hf
  go_enter Tryz.func131, Tryz.ntmps131
  go_wp2
  go_loopw [6] (fun i wr => ∃ r FD', r ≤ 4 ∧ i = .int .i64 (r : Nat) ∧ DiskS wr FD' d dn (laidS S nf n (C n) r) (N + r) ∧ (∀ i, FD' i → FD i ∨ w.heap.size ≤ i) ∧ Upd FD w wr) (fun i _ => 4 - (intOf i).toNat)
  case atStart => exact ⟨0, FD, by omega, rfl, by rw [laidS_zero]; exact HH.out.dk, fun i hi => .inl hi, Upd.refl _ _⟩
  case round =>
    obtain ⟨r, FD', hr, rfl, hdk, hFD, hU⟩ := hrel
    have c0 := hU.cell HC0.out hp1
    have c1 := hU.cell HC1.out hp1
    have q0 := hU.cell HQ0.out hf2
    have q1 := hU.cell HQ1.out hf2
    have HD := Lib.hid hdk
    have HFD := Lib.hid hFD
    have HU := Lib.hid hU
    clear hdk hFD
    by_cases hlt : r < 4
    · have hdr : Ext wr wr.drew := (Upd.refl _ wr).drew
      have hcast : ((nf + 4 * n + r : Nat) : Int) = (nf : Int) + 4 * (n : Int) + (r : Int) := by omega
      have hw := diskS_write (HD.out.upd hdr (fun _ _ f => f) (fun _ _ _ f => f.elim)) (by omega) (nf + 4 * n + r) (by omega) (.slice (some ⟨bb, bo + r * 256, none⟩) 256 (cap - r * 256)) (chunk (C n) r) (((HB.out.upd hU HH.out.dk.notByte).ext hdr).chunk HLEN.out r hlt) (chunk_len _ HLEN.out r hlt)
      rw [hcast, laidS_succ] at hw
      have HW := Lib.hid hw
      have HDR := Lib.hid hdr
      clear hw hU hcast hdr
      go_wp2_with fail
      have e1 : IntKind.i64.wrap (4 * (n : Int)) = 4 * (n : Int) := IntWalk.i64_in _ (by omega)
      have e2 : IntKind.i64.wrap ((nf : Int) + 4 * (n : Int)) = (nf : Int) + 4 * (n : Int) := IntWalk.i64_in _ (by omega)
      have e3 : IntKind.i64.wrap ((nf : Int) + 4 * (n : Int) + (r : Int)) = (nf : Int) + 4 * (n : Int) + (r : Int) := IntWalk.i64_in _ (by omega)
      have e4 : IntKind.i64.wrap ((r : Int) * 256) = (r : Int) * 256 := IntWalk.i64_in _ (by omega)
      have e5 : IntKind.i64.wrap ((r : Int) + 1) = (r : Int) + 1 := IntWalk.i64_in _ (by omega)
      have e6 : IntKind.i64.wrap (((r : Int) + 1) * 256) = ((r : Int) + 1) * 256 := IntWalk.i64_in _ (by omega)
      have hsl : ∀ wz, (Instr.sliceAt 23 (.slice (some ⟨bb, bo, none⟩) 1024 cap) (some (.int .i64 ((r : Int) * 256))) (some (.int .i64 (((r : Int) + 1) * 256))) none).run Tryz.prog wz = .ok (.slice (some ⟨bb, bo + r * 256, none⟩) 256 (cap - r * 256)) wz := by
        intro wz
        rw [run_slice_bytes wz bb bo 1024 cap (r * 256) ((r + 1) * 256) _ _ (by omega) (by omega) (by omega) (by omega) (by omega)]
        congr 2; omega
      go_still_tail 26, (by kernel_rfl)
      change wpList _ _ _ _ _ wr.drew
      clear e1 e2 e3 e4 e5 e6 hsl
      generalize wr.drew = wd at *
      go_wp2_with (go_at_call 152; refine HW.out.mono ?_; rintro e w4 ⟨rfl, FD2, hd4, hF4, hU4⟩)
      go_roundw
      case rel => exact ⟨r + 1, FD2, by omega, by go_num, hd4, fun i hi => (hF4 i hi).elim (fun h => HFD.out i h) (fun h => .inr (by have := HU.out.size; have := HDR.out.size; omega)), (HU.out.andExt HDR.out).trans hU4 (fun i hi => HFD.out i hi)⟩
      case measure => simp [intOf]; omega
    · obtain rfl : r = 4 := by omega
      have hfb : wr.heap[fb]? = some (.cells #[.int .i64 n, .slice (some ⟨bb, bo, none⟩) 1024 cap, .bool dirty] 206 (0, 0)) := hU.heap HFB.out hf2
      have q2 : wr.cell? ⟨fb, 2, none⟩ = some (.bool dirty) := by rw [cell_heap hfb]; rfl
      have f2 : wr.frozen? ⟨fb, 2, none⟩ = false := frozen_heap hfb
      have HFB2 := Lib.hid hfb
      clear hfb hU
      go_wp2
      go_ret
      exact ⟨rfl, write_fin HH.out HF.out HFB.out HB.out HLEN.out (by omega) HD.out HFD.out HU.out⟩
end Go.Proofs.YtecfhfddgolpfaaGreat

/- node.take, node.number: bytes off the front of a page. -/
import Derived.Test.YtecfhfddgolpfaaGreatNodeD
namespace Go.Proofs.YtecfhfddgolpfaaGreat
open Go.RowKit

/-- A variable that holds a slice of bytes. -/
def Cur (w : World) (R : Nat) (l : Bytes) : Prop := ∃ v, w.heap[R]? = some (.cells #[v] 23 (0, 0)) ∧ Bts w v l
theorem Cur.notByte {w : World} {R : Nat} {l : Bytes} (h : Cur w R l) : ∀ b cs fr, b = R → w.heap[b]? ≠ some (.cells cs 5 fr) := by
  obtain ⟨v, h1, h2⟩ := h
  rintro b cs fr rfl h3
  rw [h1] at h3
  simp at h3
theorem Bts.drop {w : World} {a : Option Addr} {l : Bytes} {cap : Nat} (h : Bts w (.slice a l.length cap) l) (n : Nat) (hn : n ≤ l.length) :
    Bts w (.slice (if cap = n then a else a.map fun x => x.add n) (l.length - n) (cap - n)) (l.drop n) := by
  obtain ⟨a', cap', he, hc, hm, hnn, hr⟩ := h.open
  simp only [Value.slice.injEq, true_and] at he
  obtain ⟨rfl, rfl⟩ := he
  have hl : (byv (l.drop n)).length = l.length - n := by simp
  refine ⟨_, _, by rw [hl], by rw [hl]; omega, by omega, ?_, ?_⟩
  · intro h
    split at h
    · omega
    · cases a with
      | none => have := hnn rfl; omega
      | some ad => simp at h
  · rcases hr with h | ⟨b, o, cs, fr, rfl, hb, hcell⟩
    · left
      have : l = [] := by have := congrArg List.length h; simp at this; exact this
      subst this; simp
    · by_cases he : l.length = n
      · left; subst he; simp
      · right
        rw [if_neg (by omega)]
        refine ⟨b, o + n, cs, fr, by simp [Addr.add_lit], hb, fun j x hx => ?_⟩
        rw [Nat.add_assoc]
        exact hcell (n + j) x (by unfold byv at hx ⊢; rw [List.map_drop, List.getElem?_drop] at hx; exact hx)
theorem Bts.take {w : World} {a : Option Addr} {l : Bytes} {cap : Nat} (h : Bts w (.slice a l.length cap) l) (n : Nat) (hn : n ≤ l.length) (h0 : n = 0 → a = none → True) :
    RdAt w 5 a (byv (l.take n)) := by
  obtain ⟨a', cap', he, hc, hm, hnn, hr⟩ := h.open
  simp only [Value.slice.injEq, true_and] at he
  obtain ⟨rfl, rfl⟩ := he
  rcases hr with h | ⟨b, o, cs, fr, rfl, hb, hcell⟩
  · left
    have : l = [] := by have := congrArg List.length h; simp at this; exact this
    subst this; simp
  · exact .inr ⟨b, o, cs, fr, rfl, hb, fun j x hx => hcell j x (by
      unfold byv at hx ⊢
      rw [List.map_take, List.getElem?_take] at hx
      split at hx
      · exact hx
      · simp at hx)⟩

set_option maxRecDepth 100000 in
theorem take_any (R n : Nat) (l : Bytes) (w : World) (hc : Cur w R l) (hn : n ≤ l.length) (hl : l.length ≤ 100000) :
    Calls Tryz.prog 117 #[.pointer (some ⟨R, 0, none⟩), .int .i64 n] w fun e w' => ∃ v, e = .returned (.tuple #[v, .bool true]) ∧ Own w' 5 v (byv (l.take n)) ∧ Nw w (.slice none 0 0) v ∧ Cur w' R (l.drop n) ∧ Upd (fun k => k = R) w w' := by
  have hnb := hc.notByte
  obtain ⟨v, hR, hb⟩ := hc
  obtain ⟨a, cap, rfl, hcap, hmax, hnone, hrd⟩ := hb.open
  have c0 : w.cell? ⟨R, 0, none⟩ = some (.slice a l.length cap) := by rw [cell_heap hR]; rfl
  have f0 : w.frozen? ⟨R, 0, none⟩ = false := frozen_heap hR
  have hd : decide ((l.length : Int) < (n : Int)) = false := decide_eq_false (by omega)
  have hcm : cap ≤ 9223372036854775807 := by unfold maxLen at hmax; omega
  have hdrop := hb.drop n hn
  have htake := hb.take n hn (fun _ _ => trivial)
  have hnl : ¬ (l.length < n) := by omega
  have hnc : n ≤ cap := by omega
  have hc0 : cap = 0 → l = [] := fun h => List.eq_nil_of_length_eq_zero (by omega)
  obtain ⟨ln, hln⟩ : ∃ ln, ln = l.length := ⟨_, rfl⟩
  rw [← hln] at c0 hd hn hl hcap hnl
  -- what is taken, and what is left, whatever the addresses
  have fin : ∀ (a2 : Option Addr) (c2 : Nat), Bts w (.slice a2 (ln - n) c2) (l.drop n) → Calls Tryz.prog 51 #[.slice a n n] (w.setCell ⟨R, 0, none⟩ (.slice a2 (ln - n) c2)) fun e w' =>
      ∃ v, e = .returned v ∧ Own w' 5 v (byv (l.take n)) ∧ Nw w (.slice none 0 0) v ∧ Cur w' R (l.drop n) ∧ Upd (fun k => k = R) w w' := by
    intro a2 c2 hdr
    have hU1 : Upd (fun k => k = R) w (w.setCell ⟨R, 0, none⟩ (.slice a2 (ln - n) c2)) := (Upd.refl _ w).setCell _ (.inl rfl)
    have hR1 : (w.setCell ⟨R, 0, none⟩ (.slice a2 (ln - n) c2)).heap[R]? = some (.cells #[.slice a2 (ln - n) c2] 23 (0, 0)) := by rw [heap_setCell_same w R 0 _ _ _ hR]; rfl
    have hln2 : (l.take n).length = n := by simp; omega
    have hpiece : Bts (w.setCell ⟨R, 0, none⟩ (.slice a2 (ln - n) c2)) (.slice a n n) (l.take n) := ⟨a, n, by rw [byv_length, hln2], by rw [byv_length, hln2]; exact Nat.le_refl _, by omega, fun h => by have := hnone h; omega, htake.upd hU1 hnb⟩
    refine (cloneb_any _ _ _ hpiece (by rw [hln2]; omega)).mono ?_
    rintro e w2 ⟨v, rfl, ho, hnw, hU2⟩
    refine ⟨v, rfl, ho, fun k hk => ?_, ⟨_, hU2.heap hR1 (fun h => h), (hdr.upd hU1 hnb).ext hU2⟩, hU1.andExt hU2⟩
    have := hnw k hk
    simpa using this
  have HF := Lib.hid fin
  have HB := Lib.hid hdrop
  rw [← hln] at HB
  by_cases hz : n = 0
  · subst hz
    have hl0 : Bts w (.slice a (ln - 0) cap) (l.drop 0) := by rw [hln]; simpa using hb
    have HL0 := Lib.hid hl0
    clear hl0 fin hdrop htake hb hrd hnone hnb hln hR hc0
    go_enter Tryz.func117, Tryz.ntmps117
    go_wp2_with fail
    have hh := HF.out a cap HL0.out
    rw [Nat.sub_zero] at hh
    refine hh.mono ?_
    rintro e w2 ⟨v, rfl, h1, h2, h3, h4⟩
    go_wp2
    go_ret2
    exact ⟨v, rfl, h1, h2, h3, h4⟩
  · have hal : ∃ ad, a = some ad := by
      cases a with
      | none => have := hnone rfl; omega
      | some ad => exact ⟨ad, rfl⟩
    obtain ⟨ad, rfl⟩ := hal
    have hn0 : ¬ (0 = n) := by omega
    clear fin hdrop htake hb hrd hnone hnb hln hR hc0
    by_cases hcn : cap = n
    · subst hcn
      have hlc : ln = cap := by omega
      subst hlc
      have hB := HB.out
      rw [if_pos rfl] at hB
      have HB2 := Lib.hid hB
      clear hB
      go_enter Tryz.func117, Tryz.ntmps117
      go_wp2_with fail
      have hh := HF.out (some ad) 0 (by simpa using HB2.out)
      rw [Nat.sub_self] at hh
      refine hh.mono ?_
      rintro e w2 ⟨v, rfl, h1, h2, h3, h4⟩
      go_wp2
      go_ret2
      exact ⟨v, rfl, h1, h2, h3, h4⟩
    · have hB := HB.out
      rw [if_neg hcn] at hB
      have HB2 := Lib.hid hB
      clear hB
      go_enter Tryz.func117, Tryz.ntmps117
      go_wp2_with fail
      refine (HF.out (some (ad.add n)) (cap - n) (by simpa using HB2.out)).mono ?_
      rintro e w2 ⟨v, rfl, h1, h2, h3, h4⟩
      go_wp2
      go_ret2
      exact ⟨v, rfl, h1, h2, h3, h4⟩

def beNum (l : Bytes) : Nat := l.foldl (fun x b => x * 256 + b.toNat) 0
theorem beNum_snoc (l : Bytes) (b : UInt8) : beNum (l ++ [b]) = beNum l * 256 + b.toNat := by simp [beNum]
theorem beNum_lt (l : Bytes) : beNum l < 256 ^ l.length := by
  have : ∀ (l : Bytes) (x m : Nat), x < 256 ^ m → l.foldl (fun x b => x * 256 + b.toNat) x < 256 ^ (m + l.length) := by
    intro l
    induction l with
    | nil => intro x m h; simpa using h
    | cons b l ih =>
      intro x m h
      have hb := b.toNat_lt
      have h2 : x * 256 + b.toNat < 256 ^ (m + 1) := by rw [Nat.pow_succ]; omega
      have := ih _ _ h2
      simp only [List.foldl_cons, List.length_cons]
      rw [show m + (l.length + 1) = m + 1 + l.length by omega]
      exact this
  simpa [beNum] using this l 0 0 (by simp)

set_option maxRecDepth 100000 in
theorem number_any (R n : Nat) (l : Bytes) (w : World) (hc : Cur w R l) (hn : n ≤ l.length) (hn4 : n ≤ 4) (hl : l.length ≤ 100000) :
    Calls Tryz.prog 116 #[.pointer (some ⟨R, 0, none⟩), .int .i64 n] w fun e w' => e = .returned (.int .i64 (beNum (l.take n) : Nat)) ∧ Cur w' R (l.drop n) ∧ Upd (fun k => k = R) w w' := by
  have ht := take_any R n l w hc hn hl
  have HT := Lib.hid ht
  clear ht hc
  go_enter Tryz.func116, Tryz.ntmps116
  go_wp2_with fail
  refine HT.out.mono ?_
  rintro e w1 ⟨v, rfl, hown, hnw, hcur, hU⟩
  have hrd := own_rd hown
  obtain ⟨a, cap, rfl, hcap, hmax, hnone, hr⟩ := (show Bts w1 v (l.take n) from hrd).open
  obtain ⟨c, hc⟩ : ∃ c, c = l.take n := ⟨_, rfl⟩
  have hcl : c.length = n := by rw [hc]; simp; omega
  rw [← hc] at hr ⊢
  rw [hcl]
  have HC := Lib.hid hc
  have HL := Lib.hid hcl
  have HCUR := Lib.hid hcur
  have HU := Lib.hid hU
  clear hc hcl hcur hU hown hrd hnw hcap
  go_wp2_with fail
  go_loop [5, 18] (fun x i => ∃ k : Nat, k ≤ n ∧ i = .int .i64 k ∧ x = .int .i64 (beNum (c.take k) : Nat)) (fun _ i => n - (intOf i).toNat)
  case atStart => exact ⟨0, Nat.zero_le _, rfl, rfl⟩
  case round =>
    obtain ⟨k, hk, rfl, rfl⟩ := hrel
    by_cases hlt : k < n
    · obtain ⟨b, o, rfl, hcell, hlt2⟩ := hr.byte (i := k) (by have := HL.out; omega)
      have hkc : k < c.length := by have := HL.out; omega
      have hsn : c.take (k + 1) = c.take k ++ [c[k]] := by rw [List.take_succ_eq_append_getElem hkc]
      have hbe : beNum (c.take (k + 1)) = beNum (c.take k) * 256 + c[k].toNat := by rw [hsn, beNum_snoc]
      have hb0 := beNum_lt (c.take k)
      have hkl : (c.take k).length ≤ 3 := by simp; omega
      have hb1 : beNum (c.take k) < 16777216 := Nat.lt_of_lt_of_le hb0 (by have := Nat.pow_le_pow_right (show 0 < 256 by omega) hkl; omega)
      obtain ⟨m, hm⟩ : ∃ m, m = beNum (c.take k) := ⟨_, rfl⟩
      obtain ⟨d, hd⟩ : ∃ d, d = c[k].toNat := ⟨_, rfl⟩
      have hd256 : d < 256 := by rw [hd]; exact c[k].toNat_lt
      rw [← hm] at hbe hb1 ⊢
      rw [← hd] at hbe hcell
      have hor : bits .or .i64 ((m : Int) * 256) (d : Int) = (m : Int) * 256 + (d : Int) := by
        have h63 : (2 : Int) ^ 63 = 9223372036854775808 := by decide
        have h8 : (2 : Int) ^ 8 = 256 := by decide
        exact bits_join .i64 63 (by decide) (fun n h0 h1 => by rw [h63] at h1; rw [IntKind.wrap_i64]; omega) 8 _ _ (by omega) (by rw [h8]; omega) (by rw [h63]; omega) (by omega) (by rw [h8]; omega) (by rw [h63]; omega)
      have HBE := Lib.hid hbe
      clear hm hd hbe hb0 hkl hsn
      go_wp2
      go_round
      case rel => exact ⟨k + 1, by omega, by go_num, by rw [HBE.out]; go_num⟩
      case measure => simp [intOf]; omega
    · have hk2 : k = n := by omega
      subst hk2
      go_wp2
      go_ret
      refine ⟨?_, HCUR.out, HU.out⟩
      rw [← HC.out, List.take_of_length_le (by have := HL.out; omega)]
      rfl
end Go.Proofs.YtecfhfddgolpfaaGreat

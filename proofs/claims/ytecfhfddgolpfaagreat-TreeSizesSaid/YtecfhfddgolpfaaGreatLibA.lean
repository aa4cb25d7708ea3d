/- The library's bytes.Compare, bytes.Equal, slices.Clone at bytes, atomic.Int64.Add: what each returns and leaves. -/
import Derived.Test.YtecfhfddgolpfaaGreatMem
import Derived.Lib.Bytealg
import Derived.Laws.AppendOwnNone
namespace Go.Proofs.YtecfhfddgolpfaaGreat
open Go.RowKit

theorem run_loadBytes {P : Program} {w : World} : ∀ (l : List UInt8) (a : Addr) (acc : ByteArray), (∀ j u, (byv l)[j]? = some u → w.cell? (a.add j) = some u) →
    (Extern.Bytes.loadBytes a l.length acc).run P w = .ok ⟨acc.data ++ l.toArray⟩ w
  | [], a, acc, _ => by simp [Extern.Bytes.loadBytes]
  | b :: l, a, acc, h => by
    have h0 : w.cell? a = some (.int .u8 (b.toNat : Int)) := by have := h 0 _ (by simp [byv]; rfl); simpa [Addr.add] using this
    have ih := run_loadBytes (P := P) l (a.add 1) (acc.push b) (fun j u hu => by
      have := h (j + 1) u (by simpa [byv] using hu)
      have hs := World.cell?_spot h0
      have e : (a.add 1).add j = a.add (j + 1) := by
        cases a; simp at hs; subst hs
        simp only [Addr.add_lit]; congr 1; omega
      rw [e]; exact this)
    simp only [List.length_cons, Extern.Bytes.loadBytes, Sem.run_bind, run_load, h0, Result.andThen]
    have hb : ((b.toNat : Int).toNat).toUInt8 = b := by simp
    rw [hb, ih]
    simp [ByteArray.push]
theorem run_bytesOf {P : Program} {w : World} {a : Option Addr} {l : List UInt8} {cap : Nat} (h : RdAt w 5 a (byv l)) (hn : a = none → cap = 0) (hc : l.length ≤ cap) :
    (Extern.Bytes.bytesOf (.slice a l.length cap)).run P w = .ok ⟨l.toArray⟩ w := by
  cases a with
  | none =>
    have : l = [] := List.eq_nil_of_length_eq_zero (by have := hn rfl; omega)
    subst this
    simp [Extern.Bytes.bytesOf]; rfl
  | some ad =>
    have := run_loadBytes (P := P) l ad .empty h.news
    simpa [Extern.Bytes.bytesOf] using this

set_option maxRecDepth 100000 in
theorem compare_any (u v : Value) (a b : List UInt8) (w : World) (ha : Bts w u a) (hb : Bts w v b) :
    Calls Tryz.prog 69 #[u, v] w fun e w' => e = .returned (.int .i64 (Lib.compareBytes a b)) ∧ w' = w := by
  obtain ⟨p, c, rfl, hp1, _, hp3, hp⟩ := ha.open
  obtain ⟨q, d, rfl, hq1, _, hq3, hq⟩ := hb.open
  have he : (Extern.BytealgCompare.compare #[.slice p a.length c, .slice q b.length d]).run Tryz.prog w = .ok (.int .i64 (Lib.compareBytes a b)) w := by
    change Sem.run Tryz.prog (do pure (goInt (Extern.BytealgCompare.cmp (← Extern.Bytes.bytesOf (.slice p a.length c)) (← Extern.Bytes.bytesOf (.slice q b.length d))))) w = _
    simp only [Sem.run_bind, run_bytesOf hp hp3 hp1, run_bytesOf hq hq3 hq1, Result.andThen, Sem.run_pure, Lib.cmp_eq]
    rfl
  have hx : (callFunc 98 #[.slice p a.length c, .slice q b.length d]).run Tryz.prog w = .ok (.value (.int .i64 (Lib.compareBytes a b))) w := by
    rw [run_callFunc_extern Tryz.func98 (by kernel_rfl) (by kernel_rfl) (by kernel_rfl) (e := Extern.BytealgCompare.compare) (by kernel_rfl), he]
    rfl
  go_enter Tryz.func69, Tryz.ntmps69
  go_wp2
  go_ret
  exact ⟨rfl, rfl⟩

theorem cmp_eq_zero : ∀ (a b : List UInt8), Lib.compareBytes a b = 0 ↔ a = b
  | [], [] => by simp [Lib.compareBytes]
  | [], _ :: _ => by simp [Lib.compareBytes]
  | _ :: _, [] => by simp [Lib.compareBytes]
  | a :: l, b :: m => by
    have ih := cmp_eq_zero l m
    unfold Lib.compareBytes
    by_cases h1 : a < b
    · simp [h1]; intro h; subst h; exact absurd h1 (UInt8.lt_irrefl a)
    · by_cases h2 : b < a
      · simp [h1, h2]; intro h; subst h; exact absurd h2 (UInt8.lt_irrefl a)
      · simp only [h1, h2, if_false, ih, List.cons.injEq]
        have : a = b := UInt8.le_antisymm (UInt8.not_lt.1 h2) (UInt8.not_lt.1 h1)
        simp [this]

theorem run_conv_bytes {w : World} {a : Option Addr} {l : List UInt8} {cap : Nat} (h : RdAt w 5 a (byv l)) (hn : a = none → cap = 0) (hc : l.length ≤ cap) :
    (convert 23 9 (.slice a l.length cap)).run Tryz.prog w = .ok (.string ⟨l.toArray⟩) w := by
  rw [run_convert_bytes_string w 23 9 5 a l.length cap (by kernel_rfl) (by kernel_rfl) (by kernel_rfl)]
  cases a with
  | none =>
    have : l = [] := List.eq_nil_of_length_eq_zero (by have := hn rfl; omega)
    subst this
    simp [Conv.bytesToString]; rfl
  | some ad =>
    have hl := run_loadCells_list (P := Tryz.prog) w ad (byv l) h.news
    simp only [byv_length] at hl
    have e := run_bytesToString (P := Tryz.prog) w ad l.length cap (l.map fun b => (b.toNat : Int)) (by rw [hl]; congr 1; simp [byv, Function.comp_def])
    rw [e]
    congr 2
    have : ∀ (l : List UInt8) (acc : ByteArray), (l.map fun b => (b.toNat : Int)).foldl (fun r n => r.push (UInt8.ofNat n.toNat)) acc = ⟨acc.data ++ l.toArray⟩ := by
      intro l
      induction l with
      | nil => intro acc; simp
      | cons x l ih => intro acc; simp only [List.map_cons, List.foldl_cons]; rw [ih]; simp [ByteArray.push]
    rw [this]
    simp

set_option maxRecDepth 100000 in
theorem equal_any (u v : Value) (a b : List UInt8) (w : World) (ha : Bts w u a) (hb : Bts w v b) :
    Calls Tryz.prog 65 #[u, v] w fun e w' => e = .returned (.bool (decide (a = b))) ∧ w' = w := by
  obtain ⟨p, c, rfl, hp1, _, hp3, hp⟩ := ha.open
  obtain ⟨q, d, rfl, hq1, _, hq3, hq⟩ := hb.open
  have h1 := run_conv_bytes hp hp3 hp1
  have h2 := run_conv_bytes hq hq3 hq1
  go_enter Tryz.func65, Tryz.ntmps65
  go_wp2
  go_ret
  refine ⟨?_, rfl⟩
  congr 2
  by_cases h : a = b <;> simp [h]

set_option maxRecDepth 100000 in
/-- slices.Clone of bytes: new memory. -/
theorem cloneb_any (u : Value) (a : List UInt8) (w : World) (ha : Bts w u a) (hl : a.length ≤ 1099511627776) :
    Calls Tryz.prog 51 #[u] w fun e w' => ∃ v, e = .returned v ∧ Own w' 5 v (byv a) ∧ Nw w (.slice none 0 0) v ∧ Ext w w' := by
  have hr : Rd w 5 u (byv a) := ha
  obtain ⟨p, c, rfl, hp1, hc, hp3, hp⟩ := ha.open
  have hn := Lib.run_eql_slice_nil (P := Tryz.prog) w 23 5 p a.length c 0 0 (by kernel_rfl)
  cases p with
  | none =>
    have : a = [] := List.eq_nil_of_length_eq_zero (by have := hp3 rfl; omega)
    subst this
    have : c = 0 := hp3 rfl
    subst this
    simp only [List.length_nil, Option.isNone_none] at hn
    go_enter Tryz.func51, Tryz.ntmps51
    go_wp2
    go_ret
    exact ⟨_, rfl, Own.nil _ _, Nw.refl _ _, Upd.refl _ _⟩
  | some ad =>
    have ho : Own (w.alloc (.cells #[] 5)) 5 (.slice (some ⟨w.heap.size, 0, none⟩) 0 0) [] := World.ownsRow_made w #[] 0 (base := 0) (e := 5) (size := 1) (Nat.zero_le _) (by unfold maxLen; omega) rfl
    have hr' := hr.ext ((Upd.refl _ w).alloc (.cells #[] 5))
    go_enter Tryz.func51, Tryz.ntmps51
    go_wp2_with (at_builtin; refine wpList_app rfl _ _ 23 rfl 5 _ _ (by kernel_rfl) info_u8 rfl _ [] rfl ho _ (byv a) rfl hr' (byv_one a) (by simpa using hl) (by decide) ?_)
    intro v w' hown hnw hU
    go_wp2
    go_ret
    refine ⟨_, rfl, by simpa using hown, fun k hk => .inr ?_, ((Upd.refl _ w).alloc _).trans hU ?_⟩
    · have := hnw k hk
      simp [Value.ownBlock] at this
      omega
    · intro i hi
      simp [Value.ownBlock] at hi
      omega
end Go.Proofs.YtecfhfddgolpfaaGreat

/- The page of a node; node.append16, append32, Write. -/
import Derived.Test.YtecfhfddgolpfaaGreatNodeB
namespace Go.Proofs.YtecfhfddgolpfaaGreat
open Go.RowKit

def e16 (n : Nat) : Bytes := [UInt8.ofNat (n / 256), UInt8.ofNat n]
def e32 (n : Nat) : Bytes := [UInt8.ofNat (n / 16777216), UInt8.ofNat (n / 65536), UInt8.ofNat (n / 256), UInt8.ofNat n]
/-- An entry's bytes; a node's, up to an entry; a page. -/
def encE (x : Nd) (i : Nat) : Bytes :=
  UInt8.ofNat (x.keys.getD i []).length :: (if x.leaf then e16 (x.vals.getD i []).length ++ (x.keys.getD i [] ++ x.vals.getD i []) else x.keys.getD i [] ++ e32 (x.kids.getD (i + 1) 0).toNat)
def encTo (x : Nd) : Nat → Bytes
  | 0 => (if x.leaf then 1 else 2) :: (e16 x.keys.length ++ if x.leaf then [] else e32 (x.kids.getD 0 0).toNat)
  | k + 1 => encTo x k ++ encE x k
def pad (l : Bytes) : Bytes := l ++ List.replicate (1024 - l.length) 0
def page (x : Nd) : Bytes := pad (encTo x x.keys.length)
theorem encE_length (x : Nd) (i : Nat) : (encE x i).length = esz x i := by
  unfold encE esz
  split
  · simp [e16]; omega
  · simp [e32]; omega
theorem encTo_length (x : Nd) : ∀ k, (encTo x k).length = szTo x k
  | 0 => by unfold encTo szTo; split <;> simp [e16, e32]
  | k + 1 => by rw [encTo, szTo, List.length_append, encTo_length x k, encE_length]
theorem page_length (x : Nd) (h : nsize x ≤ 1024) : (page x).length = 1024 := by
  have := encTo_length x x.keys.length
  unfold nsize at h
  simp [page, pad]
  omega

/-- A page in the making: the bytes written, and zeros behind them. -/
def Buf (w : World) (g : Nat) (l : Bytes) : Prop := l.length ≤ 1024 ∧ w.heap[g]? = some (.cells (byv (pad l)).toArray 5 (0, 0))
theorem pad_append (l m : Bytes) (h : l.length + m.length ≤ 1024) : (byv (pad l)).take l.length ++ byv m ++ (byv (pad l)).drop (l.length + m.length) = byv (pad (l ++ m)) := by
  have e1 : (byv (pad l)).take l.length = byv l := by unfold pad; rw [byv_append, List.take_append_of_le_length (by simp), List.take_of_length_le (by simp)]
  have e2 : (byv (pad l)).drop (l.length + m.length) = byv (List.replicate (1024 - (l.length + m.length)) 0) := by
    unfold pad
    rw [byv_append, List.drop_append]
    rw [List.drop_of_length_le (by simp), List.nil_append, byv_length]
    unfold byv
    rw [← List.map_drop, List.drop_replicate]
    congr 2
    omega
  rw [e1, e2, ← byv_append, ← byv_append]
  unfold pad
  simp
theorem wpList_appbuf {P : Program} {w : World} {ops : Array Oper} {rest : List Oper} {o : Oper} {a : Act} {Q : Exit → Act → World → Prop} (hgd : o.guard = none) (s x : Operand) (t : TypeId)
    (ho : o.op = .call { callee := .builtin .append, args := #[s, x], argTypes := #[t, t] })
    (ht : P.underlying t = some (.slice 5)) (hi : (P.info? 5).map (fun i => (i.zero, i.size, i.bytes)) = some (some (.int .u8 0), 1, 1))
    (g : Nat) (l : Bytes) (n : Nat) (hn : n = l.length) (hs : a.eval s = .slice (some ⟨g, 0, none⟩) n 1024) (hb : Buf w g l)
    (u : Value) (m : Bytes) (hx : a.eval x = u) (hrd : Bts w u m) (hlen : l.length + m.length ≤ 1024)
    (h : ∀ w', Buf w' g (l ++ m) → Upd (fun k => k = g) w w' → wpList P ops Q rest (a.put o.dst (.slice (some ⟨g, 0, none⟩) (n + m.length) 1024)) w') : wpList P ops Q (o :: rest) a w := by
  subst hn
  obtain ⟨i, hi0, hz0, hz1, hz2⟩ := info_parts hi
  obtain ⟨p, cap, rfl, hc1, hc2, hc3, hrd⟩ := hrd.open
  cases p with
  | none =>
    obtain rfl : cap = 0 := hc3 rfl
    obtain rfl : m = [] := List.eq_nil_of_length_eq_zero (by omega)
    have hrun : (Builtin.append_ #[t, t] o.type #[.slice (some ⟨g, 0, none⟩) l.length 1024, .slice none 0 0]).run P w = .ok (.slice (some ⟨g, 0, none⟩) l.length 1024) w := by
      have h1 := hb.1
      simp [Builtin.append_, run_underlying ht, sizeOf, typeInfo, hi0, Builtin.lenOf, Builtin.firstCells, h1, storeCells]
    refine wpList_append_run w hgd s x t t ho _ _ hs hx hrun ?_
    exact h w (by simpa using hb) (Upd.refl _ _)
  | some ad =>
    have hb2 := hb.2
    have hpl : (pad l).length = 1024 := by have := hb.1; simp [pad]; omega
    have hrun := run_append_room (P := P) w t o.type 5 i ht hi0 g l.length 1024 _ hb2 ad m.length cap (byv m) (by rw [hz1]; simp) hrd.news (byv_one m) hlen (by rw [hz1, byv_length, List.size_toArray, byv_length, hpl]; omega)
    refine wpList_append_run w hgd s x t t ho _ _ hs hx hrun ?_
    refine h _ ⟨by rw [List.length_append]; exact hlen, ?_⟩ (setRow_upd _ hb2)
    rw [setRow_heap w g _ _ _ _ hb2]
    congr 2
    rw [hz1, Nat.mul_one, byv_length]
    have := pad_append l m hlen
    simp only [List.append_assoc] at this ⊢
    rw [this]

theorem appbuf_run {P : Program} {w : World} (t ty : TypeId) (ht : P.underlying t = some (.slice 5)) (hi : (P.info? 5).map (fun i => (i.zero, i.size, i.bytes)) = some (some (.int .u8 0), 1, 1))
    (g : Nat) (l : Bytes) (hb : Buf w g l) (u : Value) (m : Bytes) (hrd : Bts w u m) (hlen : l.length + m.length ≤ 1024) :
    ∃ w', (Builtin.append_ #[t, t] ty #[.slice (some ⟨g, 0, none⟩) l.length 1024, u]).run P w = .ok (.slice (some ⟨g, 0, none⟩) (l.length + m.length) 1024) w' ∧ Buf w' g (l ++ m) ∧ Upd (fun k => k = g) w w' := by
  obtain ⟨i, hi0, hz0, hz1, hz2⟩ := info_parts hi
  obtain ⟨p, cap, rfl, hc1, hc2, hc3, hrd⟩ := hrd.open
  cases p with
  | none =>
    obtain rfl : cap = 0 := hc3 rfl
    obtain rfl : m = [] := List.eq_nil_of_length_eq_zero (by omega)
    have h1 := hb.1
    refine ⟨w, ?_, by simpa using hb, Upd.refl _ _⟩
    simp [Builtin.append_, run_underlying ht, sizeOf, typeInfo, hi0, Builtin.lenOf, Builtin.firstCells, h1, storeCells]
  | some ad =>
    have hb2 := hb.2
    have hpl : (pad l).length = 1024 := by have := hb.1; simp [pad]; omega
    have hrun := run_append_room (P := P) w t ty 5 i ht hi0 g l.length 1024 _ hb2 ad m.length cap (byv m) (by rw [hz1]; simp) hrd.news (byv_one m) hlen (by rw [hz1, byv_length, List.size_toArray, byv_length, hpl]; omega)
    refine ⟨_, hrun, ⟨by rw [List.length_append]; exact hlen, ?_⟩, setRow_upd _ hb2⟩
    rw [setRow_heap w g _ _ _ _ hb2]
    congr 2
    rw [hz1, Nat.mul_one, byv_length]
    have := pad_append l m hlen
    simp only [List.append_assoc] at this ⊢
    rw [this]
theorem step_appbuf {P : Program} {ops : Array Oper} {o : Oper} {a : Act} {w : World} {K : Act → World → Prop} {Q : Exit → Act → World → Prop} {E : Prop}
    (hg : o.guard = none) (d x : Operand) (t : TypeId) (hop : o.op = Op.call { callee := Callee.builtin Builtin.append, args := #[d, x], argTypes := #[t, t] })
    (ht : P.underlying t = some (.slice 5)) (hi : (P.info? 5).map (fun i => (i.zero, i.size, i.bytes)) = some (some (.int .u8 0), 1, 1))
    (g : Nat) (l : Bytes) (n : Nat) (hn : n = l.length) (hd : a.eval d = .slice (some ⟨g, 0, none⟩) n 1024) (hb : Buf w g l)
    (u : Value) (m : Bytes) (hx : a.eval x = u) (hrd : Bts w u m) (hlen : l.length + m.length ≤ 1024)
    (hK : ∀ w', Buf w' g (l ++ m) → Upd (fun k => k = g) w w' → K (a.put o.dst (.slice (some ⟨g, 0, none⟩) (n + m.length) 1024)) w') :
    if Region.wanted o (yielded ops a.tmps) = true then Oper.wp P o a w K Q else E := by
  subst hn
  obtain ⟨w', hr, h1, h2⟩ := appbuf_run (P := P) t o.type ht hi g l hb u m hrd hlen
  have hw : Region.wanted o (yielded ops a.tmps) = true := by simp [Region.wanted, hg]
  rw [if_pos hw]
  unfold Oper.wp
  simp [execOp, hop, resolve, invoke, builtin, hd, hx, hr, Result.andThen]
  exact hK _ h1 h2
theorem Bts.upd {w w' : World} {v : Value} {l : Bytes} {F : Nat → Prop} (h : Bts w v l) (hU : Upd F w w') (hF : ∀ b cs fr, F b → w.heap[b]? ≠ some (.cells cs 5 fr)) : Bts w' v l := Rd.upd hU hF h
theorem Bts.lit (w : World) (m : Bytes) (cs : Array Value) (h : cs.toList = byv m) (hm : m.length ≤ 1000) : Bts (w.alloc (.cells cs 5)) (.slice (some ⟨w.heap.size, 0, none⟩) cs.size cs.size) m := by
  have := Rd.lit w 5 cs (by have := congrArg List.length h; simp at this; omega)
  rw [h] at this
  exact this
theorem Buf.ext {w w' : World} {g : Nat} {l : Bytes} {F : Nat → Prop} (h : Buf w g l) (hU : Upd F w w') (hF : ¬ F g) : Buf w' g l := ⟨h.1, hU.heap h.2 hF⟩

set_option maxRecDepth 100000 in
theorem append16_any (g : Nat) (l : Bytes) (n : Nat) (k : Nat) (w : World) (hk : k = l.length) (hb : Buf w g l) (hn : n < 65536) (hl : l.length + 2 ≤ 1024) :
    Calls Tryz.prog 111 #[.slice (some ⟨g, 0, none⟩) k 1024, .int .u16 n] w fun e w' => e = .returned (.slice (some ⟨g, 0, none⟩) (k + 2) 1024) ∧ Buf w' g (l ++ e16 n) ∧ Upd (fun k => k = g) w w' := by
  have hlt := heap_lt hb.2
  have hbw := hb.ext ((Upd.refl (fun _ => False) w).alloc (.cells #[.int .u8 ((n : Int) / 256), .int .u8 ((n : Int) % 256)] 5)) (fun h => h)
  have hbts := Bts.lit w (e16 n) #[.int .u8 ((n : Int) / 256), .int .u8 ((n : Int) % 256)] (by simp [byv, e16]; omega) (by simp [e16])
  go_enter Tryz.func111, Tryz.ntmps111
  go_wp2_with (at_builtin; refine wpList_appbuf rfl _ _ 23 rfl (by kernel_rfl) info_u8 g l k hk rfl hbw _ (e16 n) rfl hbts hl ?_)
  intro w2 hb2 hU2
  go_wp2
  go_ret
  exact ⟨by simp [e16, hk], hb2, ((Upd.refl _ w).alloc _).trans hU2 (fun _ h => .inl h)⟩

set_option maxRecDepth 100000 in
theorem append32_any (g : Nat) (l : Bytes) (n : Nat) (k : Nat) (w : World) (hk : k = l.length) (hb : Buf w g l) (hn : n < 4294967296) (hl : l.length + 4 ≤ 1024) :
    Calls Tryz.prog 112 #[.slice (some ⟨g, 0, none⟩) k 1024, .int .u32 n] w fun e w' => e = .returned (.slice (some ⟨g, 0, none⟩) (k + 4) 1024) ∧ Buf w' g (l ++ e32 n) ∧ Upd (fun k => k = g) w w' := by
  have hlt := heap_lt hb.2
  have hbw := hb.ext ((Upd.refl (fun _ => False) w).alloc (.cells #[.int .u8 ((n : Int) / 16777216), .int .u8 ((n : Int) / 65536 % 256), .int .u8 ((n : Int) / 256 % 256), .int .u8 ((n : Int) % 256)] 5)) (fun h => h)
  have hbts := Bts.lit w (e32 n) #[.int .u8 ((n : Int) / 16777216), .int .u8 ((n : Int) / 65536 % 256), .int .u8 ((n : Int) / 256 % 256), .int .u8 ((n : Int) % 256)] (by simp [byv, e32]; omega) (by simp [e32])
  go_enter Tryz.func112, Tryz.ntmps112
  go_wp2_with (at_builtin; refine wpList_appbuf rfl _ _ 23 rfl (by kernel_rfl) info_u8 g l k hk rfl hbw _ (e32 n) rfl hbts hl ?_)
  intro w2 hb2 hU2
  go_wp2
  go_ret
  exact ⟨by simp [e32, hk], hb2, ((Upd.refl _ w).alloc _).trans hU2 (fun _ h => .inl h)⟩
end Go.Proofs.YtecfhfddgolpfaaGreat

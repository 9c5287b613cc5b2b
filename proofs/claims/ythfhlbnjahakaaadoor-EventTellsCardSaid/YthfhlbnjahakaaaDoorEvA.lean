/-
  event: commands in memory; contracts of slices.Clone at []string, key.
-/
import Derived.Test.YthfhlbnjahakaaaDoorBase
import Derived.Test.YthfhlbnjahakaaaDoorAppN0
import Derived.BigQuiet
import Derived.Deep.RegionHeld3
namespace Go.Proofs.YthfhlbnjahakaaaDoor
open Go.RowKit

/-- A command: its words, its keys (a slice), its numbers. -/
structure Cm where
  what : ByteArray
  verb : ByteArray
  keys : Value
  data : ByteArray
  flags : Int
  exp : Int
  cas : Int
  byv : Int
  wc : Bool
  wt : Bool
  dn : Bool
  qt : Bool
def cmCs (c : Cm) : Array Value := #[.string c.what, .string c.verb, c.keys, .string c.data, .int .u32 c.flags, .int .i64 c.exp, .int .u64 c.cas, .int .u64 c.byv, .bool c.wc, .bool c.wt, .bool c.dn, .bool c.qt]

/-- Slice v is read as the texts l. -/
def RdS (w : World) (v : Value) (l : List ByteArray) : Prop :=
  ∃ A cap, v = .slice A l.length cap ∧ l.length ≤ cap ∧ (0 < l.length → ∃ g o, A = some ⟨g, o, none⟩ ∧ ∀ j k, l[j]? = some k → w.cell? ⟨g, o + j, none⟩ = some (.string k))
theorem RdS.nil (w : World) : RdS w (.slice none 0 0) [] := ⟨none, 0, rfl, Nat.le_refl _, fun h => absurd h (Nat.lt_irrefl _)⟩
theorem RdS.keep {w w' : World} {S : Nat → Prop} {v : Value} {l : List ByteArray} (h : RdS w v l) (f : Fr S w w') (hn : ∀ k, v.ownBlock = some k → ¬ S k) : RdS w' v l := by
  obtain ⟨A, cap, rfl, hc0, h⟩ := h
  refine ⟨A, cap, rfl, hc0, fun h0 => ?_⟩
  obtain ⟨g, o, rfl, hc⟩ := h h0
  exact ⟨g, o, rfl, fun j k hk => f.cell (hc j k hk) (hn g (by cases o <;> rfl))⟩
theorem RdS.nob {w w' : World} {v : Value} {l : List ByteArray} (h : RdS w v l) (f : Fr Nob w w') : RdS w' v l := h.keep f fun _ _ h => h
def keyOf (l : List ByteArray) : ByteArray := match l with
  | [] => ⟨#[]⟩
  | k :: _ => k

set_option maxHeartbeats 4000000 in
set_option maxRecDepth 100000 in
theorem key_eq {w : World} {l : List ByteArray} (a b k d : ByteArray) (v : Value) (n1 n2 n3 n4 : Int) (b1 b2 b3 b4 : Bool) (h : RdS w v l) (hk : k = keyOf l) :
    Calls Tryd.prog 30 #[.agg #[.string a, .string b, v, .string d, .int .u32 n1, .int .i64 n2, .int .u64 n3, .int .u64 n4, .bool b1, .bool b2, .bool b3, .bool b4]] w fun e w' => e = .returned (.string k) ∧ Fr Nob w w' := by
  obtain ⟨A, cap, rfl, hc0, h⟩ := h
  subst hk
  cases l with
  | nil =>
    have f1 : Fr Nob w (w.alloc (.cells #[.string a, .string b, .slice A 0 cap, .string d, .int .u32 n1, .int .i64 n2, .int .u64 n3, .int .u64 n4, .bool b1, .bool b2, .bool b3, .bool b4] 28)) := (Fr.refl Nob w).alloc _
    go_enter Tryd.func30, Tryd.ntmps30
    go_wp2_with fail
    go_ret
    exact ⟨rfl, f1⟩
  | cons x r =>
    obtain ⟨g, o, rfl, hc⟩ := h (by simp)
    have c0 := hc 0 x rfl
    rw [Nat.add_zero] at c0
    have f1 : Fr Nob w (w.alloc (.cells #[.string a, .string b, .slice (some ⟨g, o, none⟩) (r.length + 1) cap, .string d, .int .u32 n1, .int .i64 n2, .int .u64 n3, .int .u64 n4, .bool b1, .bool b2, .bool b3, .bool b4] 28)) := (Fr.refl Nob w).alloc _
    have c1 := f1.cell c0 fun h => h
    have F1 := Lib.hid f1
    have hlen : (x :: r).length = r.length + 1 := rfl
    rw [hlen]
    clear hc c0 f1 hlen h
    go_enter Tryd.func30, Tryd.ntmps30
    go_wp2_with fail
    go_ret
    exact ⟨rfl, F1.out⟩

def strsV (l : List ByteArray) : List Value := l.map .string
theorem str_info : (Tryd.prog.info? 9).map (fun i => (i.zero.map Value.cells, i.size, i.bytes)) = some (some #[.string ⟨#[]⟩], 1, 16) := by kernel_rfl
theorem strsV_one (l : List ByteArray) : ∀ v ∈ strsV l, v.oneCell' = true := by
  intro v hv
  obtain ⟨c, _, rfl⟩ := List.mem_map.1 hv
  rfl
theorem own_sl {w : World} {base n : Nat} {v : Value} {xs : List Value} {t : TypeId} {size : Nat} (h : w.ownsRow base t size v n xs) : ∃ a c, v = .slice a n c := by
  rcases h.2 with ⟨rfl, h1⟩ | ⟨g, cap, cur, rfl, _⟩
  · exact ⟨none, 0, by rw [h1]⟩
  · exact ⟨_, cap, rfl⟩
theorem own_rd {w : World} {base n : Nat} {v : Value} {l : List ByteArray} (h : w.ownsRow base 9 1 v n (strsV l)) : RdS w v l := by
  have hl : l.length = n := by simpa [strsV] using h.1
  subst hl
  rcases h.2 with ⟨rfl, h1⟩ | ⟨g, cap, cur, rfl, h1, h2, h3, h4⟩
  · rw [List.eq_nil_of_length_eq_zero h1]
    exact RdS.nil w
  · refine ⟨_, cap, rfl, h3, fun _ => ⟨g, 0, rfl, fun j k hk => ?_⟩⟩
    have := h.cells (g := g) rfl j (.string k) (by unfold strsV; rw [List.getElem?_map, hk]; rfl)
    rw [Addr.add_lit] at this
    exact this

set_option maxHeartbeats 4000000 in
set_option maxRecDepth 100000 in
/-- slices.Clone: a row of its own. -/
theorem clone_eq {w : World} {v : Value} {l : List ByteArray} (h : RdS w v l) (hn : l.length ≤ 1000000000) :
    Calls Tryd.prog 26 #[v] w fun e w' => ∃ v', e = .returned v' ∧ Hid (w'.ownsRow w.heap.size 9 1 v' l.length (strsV l)) ∧ Hid (Fr Nob w w') := by
  obtain ⟨A, cap, rfl, hc0, h⟩ := h
  have hq : ∀ (w : World) (a : Option Addr) (n c n' c' : Nat), (binOp .eql 24 (.slice a n c) (.slice none n' c')).run Tryd.prog w = .ok (.bool a.isNone) w := fun w a n c n' c' => Lib.run_eql_slice_nil w _ _ a n c n' c' Tryd.underlying24
  cases A with
  | none =>
    have hl0 : l = [] := by
      cases l with
      | nil => rfl
      | cons x r => obtain ⟨g, o, h1, _⟩ := h (by simp); cases h1
    subst hl0
    clear h
    go_enter Tryd.func26, Tryd.ntmps26
    go_wp2_with fail
    go_ret
    exact ⟨_, rfl, Lib.hid (World.ownsRow_nil w w.heap.size 9 1), Lib.hid (Fr.refl _ _)⟩
  | some b =>
    have own := Lib.hid (World.ownsRow_made w #[] 0 (Nat.le_refl _) (Nat.zero_le _) rfl : (w.alloc (.cells #[] 9)).ownsRow w.heap.size 9 1 (.slice (some ⟨w.heap.size, 0, none⟩) 0 0) 0 [])
    have f1 := Lib.hid ((Fr.refl Nob w).alloc (.cells #[] 9))
    cases l with
    | nil =>
      clear h
      go_enter Tryd.func26, Tryd.ntmps26
      go_wp2_with (with_reducible refine wpList_app_none' rfl (.tmp 5) (.tmp 6) 24 rfl 9 #[.string ⟨#[]⟩] 1 16 Tryd.underlying24 str_info (some ⟨w.heap.size, 0, none⟩) 0 0 (Nat.le_refl _) rfl (some b) cap rfl ?_)
      go_wp2_with fail
      go_ret
      exact ⟨_, rfl, own, f1⟩
    | cons x r =>
      obtain ⟨g, o, hb, hc⟩ := h (by simp)
      cases hb
      have NEWS : Hid (∀ j u, (strsV (x :: r))[j]? = some u → (w.alloc (.cells #[] 9)).cell? ((⟨g, o, none⟩ : Addr).add j) = some u) := Lib.hid fun j u hu => by
        unfold strsV at hu
        rw [List.getElem?_map] at hu
        obtain ⟨k, hk, rfl⟩ := Option.map_eq_some_iff.1 hu
        rw [Addr.add_lit]
        exact f1.out.cell (hc j k hk) fun h => h
      have HL : Hid ((strsV (x :: r)).length = (x :: r).length * 1) := Lib.hid (by simp [strsV])
      obtain ⟨n, hnn⟩ : ∃ n, n = (x :: r).length := ⟨_, rfl⟩
      rw [← hnn] at hn HL ⊢
      have HN := Lib.hid hnn
      clear h hc hnn hc0
      go_enter Tryd.func26, Tryd.ntmps26
      go_wp2_with (with_reducible refine wpList_app rfl (.tmp 5) (.tmp 6) 24 rfl 9 #[.string ⟨#[]⟩] 1 16 Tryd.underlying24 str_info rfl (by omega) w.heap.size (.slice (some ⟨w.heap.size, 0, none⟩) 0 0) 0 [] rfl own.out ⟨g, o, none⟩ n cap (strsV (x :: r)) rfl HL.out NEWS.out (strsV_one _) (by omega) (by omega) (by simp) ?_)
      intro v w3 o3 f3 h3
      go_wp2_with fail
      go_ret
      refine ⟨v, rfl, o3, Lib.hid (f1.out.trans f3.out fun k hk e => ?_)⟩
      simp [Value.ownBlock] at e
      omega
end Go.Proofs.YthfhlbnjahakaaaDoor

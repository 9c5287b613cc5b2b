/-
  The reference's table in memory: its buckets, keys, numbers; contracts of Hash, NewTable.
-/
import Derived.Test.YtefjcjmdmnfbhaaTabDT
import Derived.Deep.RegionHeld3
import Derived.Deep.CutBlock
import Derived.Deep.DeepCutAuto
import Derived.BigQuiet
namespace Go.Proofs.Ytefjcjmdmnfbhaa
open Go.RowKit

set_option maxHeartbeats 1000000 in
set_option maxRecDepth 100000 in
theorem rturn_eq {w : World} (k : ByteArray) (h : Nat) (hh : h < 18446744073709551616) (hs : k.size < 9223372036854775808) :
    Calls Try.prog 55 #[.int .u64 h, .string k] w fun e w' => e = .returned (.int .u64 (foldN k.data.toList h : Nat)) ∧ w = w' := by
  have HSZ := Lib.hid (show k.size = k.data.toList.length by rw [Array.length_toList]; rfl)
  go_enter Try.func55, Try.ntmps55
  go_wp2_with fail
  go_loop [0, 5] (fun c i => ∃ j : Nat, j ≤ k.size ∧ i = .int .i64 j ∧ c = .int .u64 (foldN (k.data.toList.take j) h : Nat)) (fun _ i => k.size - (intOf i).toNat)
  case atStart => exact ⟨0, Nat.zero_le _, rfl, rfl⟩
  case round =>
    obtain ⟨j, hj, rfl, rfl⟩ := hrel
    by_cases hlt : j < k.size
    · have hg : j < k.data.toList.length := by rw [← HSZ.out]; exact hlt
      have hsn : foldN (k.data.toList.take (j + 1)) h = hstep (foldN (k.data.toList.take j) h) (k.data.toList[j]) := by
        unfold foldN; rw [List.take_add_one, List.getElem?_eq_getElem hg, List.foldl_append, Option.toList_some, List.foldl_cons, List.foldl_nil]
      have hlt2 := hfold_lt (k.data.toList.take j) h hh
      obtain ⟨x, hxx⟩ : ∃ x, x = k.data.toList[j] := ⟨_, rfl⟩
      have he : ∀ h : j < k.size, k[j].toNat = x.toNat := fun h => by rw [hxx]; rfl
      rw [← hxx] at hsn
      generalize foldN (k.data.toList.take j) h = c at *
      have HE := Lib.hid he
      have HS := Lib.hid hsn
      have HC := Lib.hid (hstep_eq c x hlt2)
      have hx := x.toNat_lt
      have w2 : IntKind.u64.wrap (x.toNat : Int) = (x.toNat : Int) := by rw [IntKind.wrap_u64]; omega
      have W2 := Lib.hid w2
      clear he hsn w2 hxx hg
      go_wp2_with fail
      go_round
      case rel => exact ⟨j + 1, by omega, by go_num, by rw [HE.out, W2.out, HC.out, HS.out]⟩
      case measure => simp [intOf]; omega
    · have : j = k.size := by omega
      subst this
      go_wp2_with fail
      go_ret
      rw [HSZ.out, List.take_length]
      exact ⟨rfl, rfl⟩
theorem rhash_eq {w : World} (k : ByteArray) (hs : k.size < 9223372036854775808) :
    Calls Try.prog 42 #[.string k] w fun e w' => e = .returned (.int .u64 (hashK k : Nat)) ∧ w = w' := by
  go_enter Try.func42, Try.ntmps42
  go_wp2_with fail
  refine (rturn_eq (w := w) k 14695981039346656037 (by omega) hs).mono ?_
  rintro e w' ⟨rfl, rfl⟩
  go_wp2_with fail
  go_ret
  exact ⟨rfl, rfl⟩

/-- Blocks of the reference's tables: by their types. -/
def RB (w : World) (k : Nat) : Prop := ∃ cs t, w.heap[k]? = some (.cells cs t (0, 0)) ∧ (t = 43 ∨ t = 29 ∨ t = 9 ∨ t = 3)
/-- A bucket's chain: read, never written in place; apart from the row of keys. -/
def InR (w : World) (W : Nat) (kv u : Value) (l : List ByteArray) : Prop :=
  RdS w u l ∧ ∀ k, u.ownBlock = some k → W ≤ k ∧ kv.ownBlock ≠ some k ∧ ∃ cs, w.heap[k]? = some (.cells cs 9 (0, 0))
/-- Block g holds the buckets ll. -/
def RowsAt (w : World) (W : Nat) (kv : Value) (g : Nat) (ll : List (List ByteArray)) : Prop :=
  W ≤ g ∧ ∃ cs, w.heap[g]? = some (.cells cs 29 (0, 0)) ∧ cs.size = ll.length ∧ ∀ (i : Nat) (l : List ByteArray), ll[i]? = some l → ∃ u, cs[i]? = some u ∧ InR w W kv u l
def intsV (l : List Int) : List Value := l.map (.int .i64)
/-- The old buckets: none, or a block of their own. -/
def RowsO (w : World) (W : Nat) (kv : Value) (gn : Nat) (vo : Value) (ll : List (List ByteArray)) : Prop :=
  (ll = [] ∧ vo = .slice none 0 0) ∨ ∃ g, vo = .slice (some ⟨g, 0, none⟩) ll.length ll.length ∧ g ≠ gn ∧ RowsAt w W kv g ll

structure RIn (w : World) (W t gn : Nat) (nw : List (List ByteArray)) (vo : Value) (od : List (List ByteArray)) (next : Nat) (kv vv : Value) (m : List (ByteArray × Int)) : Prop where
  hd : w.heap[t]? = some (.cells #[.slice (some ⟨gn, 0, none⟩) nw.length nw.length, vo, .int .i64 next, kv, vv] 43 (0, 0))
  nws : RowsAt w W kv gn nw
  ods : RowsO w W kv gn vo od
  ks : w.ownsRow W 9 1 kv m.length (strsV (keysM m))
  vs : w.ownsRow W 3 1 vv m.length (intsV (m.map (·.2)))
  lo : W ≤ t

section
variable {w w' : World} {W t gn next : Nat} {nw od : List (List ByteArray)} {vo kv vv u : Value} {m : List (ByteArray × Int)} {X : Nat → Prop}
theorem InR.keep {l : List ByteArray} (h : InR w W kv u l) (f : Fr X w w') (hx : ∀ k, u.ownBlock = some k → ¬ X k) : InR w' W kv u l :=
  ⟨h.1.keep f hx, fun k hk => by obtain ⟨a, b, cs, c⟩ := h.2 k hk; exact ⟨a, b, cs, f.heap c (hx k hk)⟩⟩
theorem InR.rb {l : List ByteArray} (h : InR w W kv u l) {k : Nat} (hk : u.ownBlock = some k) : RB w k := by
  obtain ⟨_, _, cs, c⟩ := h.2 k hk
  exact ⟨cs, _, c, .inr (.inr (.inl rfl))⟩
theorem RowsAt.rb {g : Nat} {ll : List (List ByteArray)} (h : RowsAt w W kv g ll) : RB w g := by
  obtain ⟨_, cs, c, _⟩ := h
  exact ⟨cs, _, c, .inr (.inl rfl)⟩
theorem RowsAt.keep {g : Nat} {ll : List (List ByteArray)} (h : RowsAt w W kv g ll) (f : Fr X w w') (hg : ¬ X g) (hx : ∀ k cs, w.heap[k]? = some (.cells cs 9 (0, 0)) → kv.ownBlock ≠ some k → ¬ X k) : RowsAt w' W kv g ll := by
  obtain ⟨hW, cs, c, hs, hr⟩ := h
  refine ⟨hW, cs, f.heap c hg, hs, fun i l hi => ?_⟩
  obtain ⟨u, hu, hin⟩ := hr i l hi
  exact ⟨u, hu, hin.keep f fun k hk => by obtain ⟨_, b, cs, c⟩ := hin.2 k hk; exact hx k cs c b⟩
theorem RowsO.keep (h : RowsO w W kv gn vo od) (f : Fr X w w') (hg : ∀ k cs, k ≠ gn → w.heap[k]? = some (.cells cs 29 (0, 0)) → ¬ X k) (hx : ∀ k cs, w.heap[k]? = some (.cells cs 9 (0, 0)) → kv.ownBlock ≠ some k → ¬ X k) : RowsO w' W kv gn vo od := by
  rcases h with h | ⟨g, h1, h2, h3⟩
  · exact .inl h
  · refine .inr ⟨g, h1, h2, h3.keep f ?_ hx⟩
    obtain ⟨_, cs, c, _⟩ := h3
    exact hg g cs h2 c
theorem own_rb {e : TypeId} {n size : Nat} {v : Value} {xs : List Value} (h : w.ownsRow W e size v n xs) (he : e = 9 ∨ e = 3) {k : Nat} (hk : v.ownBlock = some k) : RB w k := by
  rcases h.2 with ⟨rfl, _⟩ | ⟨g, cap, cur, rfl, _, h2, _⟩
  · cases hk
  · have : g = k := by simpa [Value.ownBlock] using hk
    subst this
    exact ⟨_, _, h2, by rcases he with rfl | rfl; exact .inr (.inr (.inl rfl)); exact .inr (.inr (.inr rfl))⟩
/-- What changes no block of this kind keeps the table. -/
theorem RIn.keep (s : RIn w W t gn nw vo od next kv vv m) (f : Fr X w w') (hx : ∀ k, RB w k → ¬ X k) : RIn w' W t gn nw vo od next kv vv m where
  hd := f.heap s.hd (hx _ ⟨_, _, s.hd, .inl rfl⟩)
  nws := s.nws.keep f (hx _ s.nws.rb) fun k cs c _ => hx k ⟨cs, _, c, .inr (.inr (.inl rfl))⟩
  ods := s.ods.keep f (fun k cs _ c => hx k ⟨cs, _, c, .inr (.inl rfl)⟩) fun k cs c _ => hx k ⟨cs, _, c, .inr (.inr (.inl rfl))⟩
  ks := f.ownsRow s.ks fun k e => hx k (own_rb s.ks (.inl rfl) e)
  vs := f.ownsRow s.vs fun k e => hx k (own_rb s.vs (.inr rfl) e)
  lo := s.lo
theorem RIn.nob (s : RIn w W t gn nw vo od next kv vv m) (f : Fr Nob w w') : RIn w' W t gn nw vo od next kv vv m := s.keep f fun _ _ h => h
end
end Go.Proofs.Ytefjcjmdmnfbhaa

/-
  A table of the law's own: one predicate, one law a call.
-/
import Derived.Test.YtefjcjmdmnfbhaaTabSo
namespace Go.Proofs.Ytefjcjmdmnfbhaa
open Go.RowKit

/-- Blocks of tables. -/
def TabB (w : World) (k : Nat) : Prop := ∃ cs t, w.heap[k]? = some (.cells cs t (0, 0)) ∧ (t = 58 ∨ t = 54 ∨ t = 53)
theorem TabB.far {w : World} {k : Nat} {cs : Array Value} {t : TypeId} {f : Nat × Nat} (h : w.heap[k]? = some (.cells cs t f)) (ht : t ≠ 58 ∧ t ≠ 54 ∧ t ≠ 53) : ¬ TabB w k := by
  rintro ⟨cs', t', h', h2⟩
  rw [h] at h'
  injection h' with h'
  injection h' with _ e
  subst e
  rcases h2 with h2 | h2 | h2
  · exact ht.1 h2
  · exact ht.2.1 h2
  · exact ht.2.2 h2
theorem TabB.row {w : World} {base n size : Nat} {e : TypeId} {v : Value} {xs : List Value} (h : w.ownsRow base e size v n xs) (ht : e ≠ 58 ∧ e ≠ 54 ∧ e ≠ 53) : ∀ k, v.ownBlock = some k → ¬ TabB w k := by
  rintro k hk
  rcases h.2 with ⟨rfl, _⟩ | ⟨g, cap, cur, rfl, _, h2, _⟩
  · cases hk
  · have : g = k := by simpa [Value.ownBlock] using hk
    subst this
    exact TabB.far h2 ht
theorem TabIn.kinds {w : World} {W t : Nat} {K : Nat → Prop} {S : KT} (s : TabIn w W t K S) : ∀ k, K k → TabB w k := by
  obtain ⟨gn, go, T, h, is, hK⟩ := s
  intro k hk
  rcases (hK k).1 hk with rfl | rfl | ⟨ho, rfl⟩ | hb
  · exact ⟨_, _, h.hd, .inr (.inr rfl)⟩
  · obtain ⟨⟨cur, h2⟩, _⟩ := row_is h.bd.nw
    exact ⟨_, _, h2, .inr (.inl rfl)⟩
  · obtain ⟨⟨cur, h2⟩, _⟩ := row_is (h.bd.od ho)
    exact ⟨_, _, h2, .inr (.inl rfl)⟩
  · obtain ⟨cs, h2⟩ := h.bd.is hb
    exact ⟨_, _, h2, .inl rfl⟩

structure DT (W0 wr : World) (t : Nat) (S : KT) : Prop where
  ok : S.Ok
  inn : ∃ W K, W0.heap.size ≤ W ∧ TabIn wr W t K S
  fr : Fr Nob W0 wr

section
variable {W0 wr w' : World} {t : Nat} {S S' : KT}
theorem DT.keep {X : Nat → Prop} (s : DT W0 wr t S) (f : Fr X wr w') (h1 : ∀ k, TabB wr k → ¬ X k) (h2 : ∀ k, k < W0.heap.size → ¬ X k) : DT W0 w' t S := by
  obtain ⟨ok, ⟨W, K, h, s⟩, fr⟩ := s
  exact ⟨ok, ⟨W, K, h, s.keep f fun k hk => h1 k (s.kinds k hk)⟩, fr.trans f h2⟩
theorem DT.nob (s : DT W0 wr t S) (f : Fr Nob wr w') : DT W0 w' t S := s.keep f (fun _ _ h => h) fun _ _ h => h
theorem DT.to {W : Nat} {K : Nat → Prop} (s : TabIn wr W t K S) (hW : W0.heap.size ≤ W) (fr : Fr Nob W0 wr) (ok : S'.Ok) (h : TabTo wr W t K w' S') : DT W0 w' t S' ∧ Fr (TabB wr) wr w' := by
  obtain ⟨K', a, b, c⟩ := h
  refine ⟨⟨ok, ⟨W, K', hW, a⟩, fr.trans b fun k hk hk2 => ?_⟩, b.mono fun k _ hk => s.kinds k hk⟩
  have := s.low k hk2
  omega
theorem DT.set (s : DT W0 wr t S) (k : ByteArray) (v : Int) (hs : k.size < 9223372036854775808) (hm : S.m.length ≤ 1000000) :
    Calls Try.prog 16 #[.pointer (some ⟨t, 0, none⟩), .string k, .int .i64 v] wr fun e w' => e = .returned (.bool (decide (k ∉ keysM S.m))) ∧ Hid (DT W0 w' t (setK S k v)) ∧ Hid (Fr (TabB wr) wr w') := by
  obtain ⟨ok, ⟨W, K, h, s⟩, fr⟩ := s
  refine (set_eq s ok k v hs hm).mono ?_
  rintro e w' ⟨he, h2⟩
  have := DT.to s h fr (setK_ok ok k v hs) h2
  exact ⟨he, Lib.hid this.1, Lib.hid this.2⟩
theorem DT.del (s : DT W0 wr t S) (k : ByteArray) (hs : k.size < 9223372036854775808) (hm : S.m.length ≤ 1000000) :
    Calls Try.prog 18 #[.pointer (some ⟨t, 0, none⟩), .string k] wr fun e w' => e = .returned (.bool (decide (k ∈ keysM S.m))) ∧ Hid (DT W0 w' t (delK S k)) ∧ Hid (Fr (TabB wr) wr w') := by
  obtain ⟨ok, ⟨W, K, h, s⟩, fr⟩ := s
  refine (del_eq s ok k hs hm).mono ?_
  rintro e w' ⟨he, h2⟩
  have := DT.to s h fr (delK_ok ok k) h2
  exact ⟨he, Lib.hid this.1, Lib.hid this.2⟩
theorem DT.get (s : DT W0 wr t S) (k : ByteArray) (hs : k.size < 9223372036854775808) :
    Calls Try.prog 12 #[.pointer (some ⟨t, 0, none⟩), .string k] wr fun e w' => e = .returned (.tuple #[.int .i64 (getV S.m k), .bool (getB S.m k)]) ∧ ∃ m, w' = wr.drewN m := by
  obtain ⟨ok, ⟨W, K, h, s⟩, fr⟩ := s
  exact get_eq s ok k hs
theorem DT.len (s : DT W0 wr t S) : Calls Try.prog 21 #[.pointer (some ⟨t, 0, none⟩)] wr fun e w' => e = .returned (.int .i64 S.m.length) ∧ wr = w' := by
  obtain ⟨ok, ⟨W, K, h, s⟩, fr⟩ := s
  exact len_eq s
theorem DT.buckets (s : DT W0 wr t S) : Calls Try.prog 22 #[.pointer (some ⟨t, 0, none⟩)] wr fun e w' => e = .returned (.int .i64 S.now.length) ∧ wr = w' := by
  obtain ⟨ok, ⟨W, K, h, s⟩, fr⟩ := s
  exact buckets_eq s
theorem DT.left (s : DT W0 wr t S) : Calls Try.prog 23 #[.pointer (some ⟨t, 0, none⟩)] wr fun e w' => e = .returned (.int .i64 S.left) ∧ wr = w' := by
  obtain ⟨ok, ⟨W, K, h, s⟩, fr⟩ := s
  exact left_eq s
theorem DT.keys (s : DT W0 wr t S) (hm : S.m.length ≤ 1000001) :
    Calls Try.prog 14 #[.pointer (some ⟨t, 0, none⟩)] wr fun e w' => ∃ v, e = .returned v ∧ Hid (w'.ownsRow wr.heap.size 9 1 v S.m.length (strsV (sortB (keysM S.m)))) ∧ Hid (Fr Nob wr w') := by
  obtain ⟨ok, ⟨W, K, h, s⟩, fr⟩ := s
  have : sortB S.all = sortB (keysM S.m) := (sortB_unique ((sortB_perm _).trans ok.perm.symm) (sortB_sorted _))
  rw [← this]
  exact keys_eq s ok hm
theorem DT.chain (s : DT W0 wr t S) {i : Nat} (hi : i < S.now.length) (hm : S.m.length ≤ 1000001) :
    Calls Try.prog 13 #[.pointer (some ⟨t, 0, none⟩), .int .i64 i] wr fun e w' => ∃ v, e = .returned v ∧ Hid (w'.ownsRow wr.heap.size 9 1 v (S.now.getD i []).length (strsV (S.now.getD i []))) ∧ Hid (Fr Nob wr w') := by
  obtain ⟨ok, ⟨W, K, h, s⟩, fr⟩ := s
  exact chainAt_in s ok hi hm
theorem DT.chain_out (s : DT W0 wr t S) {i : Int} (hi : i < 0 ∨ (S.now.length : Int) ≤ i) :
    Calls Try.prog 13 #[.pointer (some ⟨t, 0, none⟩), .int .i64 i] wr fun e w' => e = .returned (.slice none 0 0) ∧ wr = w' := by
  obtain ⟨ok, ⟨W, K, h, s⟩, fr⟩ := s
  exact chainAt_out s ok hi
theorem DT.new {w : World} (fr : Fr Nob W0 w) (n : Nat) (h1 : 1 ≤ n) (h2 : n ≤ 1024) (h : bits .and .i64 (n : Int) ((n : Int) - 1) = 0) :
    Calls Try.prog 11 #[.int .i64 n] w fun e w' => ∃ t, e = .returned (.tuple #[.pointer (some ⟨t, 0, none⟩), .int .i64 0]) ∧ Hid (DT W0 w' t (newK n)) ∧ Hid (Fr Nob w w') := by
  refine (new_good n w h1 h2 h).mono ?_
  rintro e w' ⟨t, K, he, s, f⟩
  exact ⟨t, he, Lib.hid ⟨newK_ok (by omega) (by omega), ⟨_, K, fr.size, s.out⟩, fr.trans' f.out⟩, f⟩
end

theorem setK_m (S : KT) (k : ByteArray) (v : Int) : (setK S k v).m = if k ∈ keysM S.m then updP S.m k v else S.m ++ [(k, v)] := by
  unfold setK
  rw [moveK_m]
  split
  · rfl
  · rw [growK_m]
theorem delK_m (S : KT) (k : ByteArray) : (delK S k).m = if k ∈ keysM S.m then delP S.m k else S.m := by
  unfold delK
  rw [moveK_m]
  split
  · rfl
  · rw [moveK_m]
theorem setK_len (S : KT) (k : ByteArray) (v : Int) : (setK S k v).m.length ≤ S.m.length + 1 := by
  rw [setK_m]
  split
  · unfold updP; rw [List.length_map]; omega
  · rw [List.length_append]; exact Nat.le_refl _
theorem delK_len (S : KT) (k : ByteArray) : (delK S k).m.length ≤ S.m.length := by
  rw [delK_m]
  split
  · unfold delP; exact List.length_filter_le _ _
  · exact Nat.le_refl _
end Go.Proofs.Ytefjcjmdmnfbhaa

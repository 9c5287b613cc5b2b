/-
  dram: a cache of the law's own: one law a call; X are blocks of the law's own beside it.
-/
import Derived.Test.YtpbbokpmlemboaaDrJ
import Derived.Test.YtpbbokpmlemboaaDrN
namespace Go.Proofs.Ytpbbokpmlemboaa
open Go.RowKit Sl

structure DW (W w : World) (c : Nat) (C : DC) (X : Nat → Prop) : Prop where
  ex : ∃ P O, P.c = c ∧ DrIn w P O C ∧ ∀ k, UO O k → W.heap.size ≤ k ∧ ¬ X k
  ok : C.Ok
  fr : Fr Nob W w
  lt : ∀ k, X k → k < w.heap.size
  sl : C.S.length ≤ 150
  s1 : 1 ≤ C.S.length

/-- What a call on the cache may change. -/
def KX (W : World) (X : Nat → Prop) : World → World → Prop := Fr fun k => W.heap.size ≤ k ∧ ¬ X k
theorem KX.heap {W w w' : World} {X : Nat → Prop} (f : KX W X w w') {k : Nat} {o : Obj} (h : w.heap[k]? = some o) (hx : X k) : w'.heap[k]? = some o := Fr.heap f h fun h => h.2 hx
theorem KX.row {W w w' : World} {X : Nat → Prop} (f : KX W X w w') {base : Nat} {e : TypeId} {size : Nat} {v : Value} {n : Nat} {xs : List Value} (h : w.ownsRow base e size v n xs) (hx : ∀ k, v.ownBlock = some k → X k) : w'.ownsRow base e size v n xs :=
  Fr.ownsRow f h fun k hk h => h.2 (hx k hk)
theorem KX.nob {W w w' : World} {X : Nat → Prop} (f : KX W X w w') (f0 : Fr Nob W w) : Fr Nob W w' := f0.trans f fun k hk h => by have := h.1; omega

section
variable {W w w' : World} {c : Nat} {C : DC} {X : Nat → Prop}
theorem DW.nob (d : DW W w c C X) (f : Fr Nob w w') : DW W w' c C X := by
  obtain ⟨P, O, rfl, h, hx⟩ := d.ex
  exact ⟨⟨P, O, rfl, h.nob f, hx⟩, d.ok, d.fr.trans' f, fun k hk => Nat.lt_of_lt_of_le (d.lt k hk) f.size, d.sl, d.s1⟩
/-- The law's own blocks have been changed, or there are new ones. -/
theorem DW.own (d : DW W w c C X) {Y : Nat → Prop} (f : Fr X w w') (hl : ∀ k, X k → W.heap.size ≤ k) (hy : ∀ k, Y k → X k ∨ w.heap.size ≤ k) (hlt : ∀ k, Y k → k < w'.heap.size) : DW W w' c C Y := by
  obtain ⟨P, O, rfl, h, hx⟩ := d.ex
  exact ⟨⟨P, O, rfl, h.keep f fun k hk => (hx k hk).2, fun k hk => ⟨(hx k hk).1, fun hk2 => (hy k hk2).elim (hx k hk).2 fun h2 => by have := h.ltU hk; omega⟩⟩, d.ok, d.fr.trans f fun k hk h => by have := hl k h; omega, hlt, d.sl, d.s1⟩
theorem DW.less (d : DW W w c C X) {Y : Nat → Prop} (hy : ∀ k, Y k → X k) : DW W w c C Y := by
  obtain ⟨P, O, rfl, h, hx⟩ := d.ex
  exact ⟨⟨P, O, rfl, h, fun k hk => ⟨(hx k hk).1, fun h => (hx k hk).2 (hy k h)⟩⟩, d.ok, d.fr, fun k hk => d.lt k (hy k hk), d.sl, d.s1⟩
theorem DW.more (d : DW W w c C X) (f : Fr Nob w w') {Y : Nat → Prop} (hy : ∀ k, Y k → w.heap.size ≤ k ∧ k < w'.heap.size) : DW W w' c C (fun k => X k ∨ Y k) := by
  obtain ⟨P, O, rfl, h, hx⟩ := d.ex
  exact ⟨⟨P, O, rfl, h.nob f, fun k hk => ⟨(hx k hk).1, fun hk2 => hk2.elim (hx k hk).2 fun h2 => by have := h.ltU hk; have := (hy k h2).1; omega⟩⟩, d.ok, d.fr.trans' f, fun k hk => hk.elim (fun h => Nat.lt_of_lt_of_le (d.lt k h) f.size) fun h => (hy k h).2, d.sl, d.s1⟩

/-- Behind a call. -/
theorem DW.to (d : DW W w c C X) {P : DP} {O : Nat → Nat → Prop} (hx : ∀ k, UO O k → W.heap.size ≤ k ∧ ¬ X k) (_h0 : DrIn w P O C) (hc : P.c = c) {C' : DC} (ok' : C'.Ok) (sl : C'.S.length = C.S.length) (t : DrTo w P O w' C') : DW W w' c C' X ∧ KX W X w w' := by
  obtain ⟨O', h, f, l⟩ := t
  have hsz := d.fr.size
  refine ⟨⟨⟨P, O', hc, h, fun k hk => ?_⟩, ok', d.fr.trans f fun k hk h => by have := (hx k h).1; omega, fun k hk => Nat.lt_of_lt_of_le (d.lt k hk) f.size, by rw [sl]; exact d.sl, by rw [sl]; exact d.s1⟩, f.mono fun k _ hk => hx k hk⟩
  rcases l k hk with h1 | h1
  · exact hx k h1
  · exact ⟨by omega, fun h2 => by have := d.lt k h2; omega⟩

theorem DW.len (d : DW W w c C X) : Calls Try.prog 16 #[.pointer (some ⟨c, 0, none⟩)] w fun e w' => e = .returned (.int .i64 (C.M.length : Int)) ∧ w = w' := by
  obtain ⟨P, O, rfl, h, hx⟩ := d.ex
  exact dlen_eq h
theorem DW.peek_none (d : DW W w c C X) (k : ByteArray) (hs : k.size < 9223372036854775808) (hk : C.look k = none) :
    Calls Try.prog 15 #[.pointer (some ⟨c, 0, none⟩), .string k] w fun e w' => e = .returned (.tuple #[outV zeroO, .bool false]) ∧ Fr Nob w w' := by
  obtain ⟨P, O, rfl, h, hx⟩ := d.ex
  exact Go.Proofs.Ytpbbokpmlemboaa.peek_none h d.ok k hs hk
theorem DW.peek_some (d : DW W w c C X) (k : ByteArray) (hs : k.size < 9223372036854775808) {o : Ou} (hk : C.look k = some o) :
    Calls Try.prog 15 #[.pointer (some ⟨c, 0, none⟩), .string k] w fun e w' => e = .returned (.tuple #[outV o, .bool true]) ∧ Fr Nob w w' := by
  obtain ⟨P, O, rfl, h, hx⟩ := d.ex
  exact Go.Proofs.Ytpbbokpmlemboaa.peek_some h d.ok k hs hk
theorem DW.items (d : DW W w c C X) :
    Calls Try.prog 19 #[.pointer (some ⟨c, 0, none⟩)] w fun e w' => ∃ r, e = .returned r ∧ Hid (w'.ownsRow w.heap.size 42 6 r (itemsTo C 6).length (outsV (itemsTo C 6))) ∧ Hid (Fr Nob w w') := by
  obtain ⟨P, O, rfl, h, hx⟩ := d.ex
  exact items_eq h d.ok d.sl
theorem DW.del (d : DW W w c C X) (k : ByteArray) (hs : k.size < 9223372036854775808) :
    Calls Try.prog 13 #[.pointer (some ⟨c, 0, none⟩), .string k] w fun e w' => e = .returned (.bool (isS (C.look k))) ∧ ∃ C', Hid (DelTo C k C') ∧ Hid (DW W w' c C' X) ∧ Hid (KX W X w w') := by
  obtain ⟨P, O, rfl, h, hx⟩ := d.ex
  refine (ddel_eq h d.ok k hs d.sl).mono ?_
  rintro e w' ⟨he, C', dt, t⟩
  have := d.to hx h rfl (dt.told d.ok).ok (dt.told d.ok).sl t
  exact ⟨he, C', Lib.hid dt, Lib.hid this.1, Lib.hid this.2⟩
theorem DW.clear (d : DW W w c C X) :
    Calls Try.prog 18 #[.pointer (some ⟨c, 0, none⟩)] w fun e w' => e = .returned (.tuple #[]) ∧ ∃ xs C', Hid (xs.Perm (keysM C.M)) ∧ Hid (Cleared C xs C') ∧ Hid (DW W w' c C' X) ∧ Hid (KX W X w w') := by
  obtain ⟨P, O, rfl, h, hx⟩ := d.ex
  refine (clear_eq h d.ok d.sl).mono ?_
  rintro e w' ⟨he, xs, C', hp, ct, t⟩
  have := d.to hx h rfl ct.ok ct.sl t
  exact ⟨he, xs, C', Lib.hid hp, Lib.hid ct, Lib.hid this.1, Lib.hid this.2⟩
theorem DW.get_none (d : DW W w c C X) (k : ByteArray) (now : Int) (hs : k.size < 9223372036854775808) (hk : C.look k = none) :
    Calls Try.prog 12 #[.pointer (some ⟨c, 0, none⟩), .string k, .int .i64 now] w fun e w' => e = .returned (.tuple #[itV zeroI, .bool false]) ∧ Hid (DW W w' c C X) ∧ Hid (KX W X w w') := by
  obtain ⟨P, O, rfl, h, hx⟩ := d.ex
  refine (Go.Proofs.Ytpbbokpmlemboaa.get_none h d.ok k now hs hk).mono ?_
  rintro e w' ⟨he, t⟩
  have := d.to hx h rfl d.ok rfl t
  exact ⟨he, Lib.hid this.1, Lib.hid this.2⟩
theorem DW.get_dead (d : DW W w c C X) (k : ByteArray) (now : Int) (hs : k.size < 9223372036854775808) {o : Ou} (hk : C.look k = some o) (hd : deadI o.1 now = true) :
    Calls Try.prog 12 #[.pointer (some ⟨c, 0, none⟩), .string k, .int .i64 now] w fun e w' => e = .returned (.tuple #[itV zeroI, .bool false]) ∧ ∃ C' x, Hid (Tb.getP C.T.m k = some x) ∧ Hid (DropTo C x o C') ∧ Hid (DW W w' c C' X) ∧ Hid (KX W X w w') := by
  obtain ⟨P, O, rfl, h, hx⟩ := d.ex
  refine (Go.Proofs.Ytpbbokpmlemboaa.get_dead h d.ok k now hs d.sl hk hd).mono ?_
  rintro e w' ⟨he, C', x, hp, dt, t⟩
  have := d.to hx h rfl (dt.rid d.ok).ok (dt.rid d.ok).sl t
  exact ⟨he, C', x, Lib.hid hp, Lib.hid dt, Lib.hid this.1, Lib.hid this.2⟩
theorem DW.get_live (d : DW W w c C X) (k : ByteArray) (now : Int) (hs : k.size < 9223372036854775808) {o : Ou} (hk : C.look k = some o) (hd : deadI o.1 now = false) :
    Calls Try.prog 12 #[.pointer (some ⟨c, 0, none⟩), .string k, .int .i64 now] w fun e w' => e = .returned (.tuple #[itV o.1, .bool true]) ∧ ∃ x, Hid (Tb.getP C.T.m k = some x ∧ getM C.M x = some o) ∧ Hid (DW W w' c (touchC C x) X) ∧ Hid (KX W X w w') := by
  obtain ⟨P, O, rfl, h, hx⟩ := d.ex
  refine (Go.Proofs.Ytpbbokpmlemboaa.get_live h d.ok k now hs d.sl hk hd).mono ?_
  rintro e w' ⟨he, x, hp, hm, t⟩
  have := d.to hx h rfl (d.ok.touch hm).1 rfl t
  exact ⟨he, x, Lib.hid ⟨hp, hm⟩, Lib.hid this.1, Lib.hid this.2⟩
theorem DW.put (d : DW W w c C X) (k v : ByteArray) (fl ex ve : Int) (b : Bool) (hg : goodI ⟨k, v, fl, ex, ve⟩ = true) :
    Calls Try.prog 11 #[.pointer (some ⟨c, 0, none⟩), .agg #[.string k, .string v, .int .u32 fl, .int .i64 ex, .int .u64 ve], .bool b] w fun e w' => ∃ r os C', e = .returned (.tuple #[r, .int .i64 0]) ∧
      Hid (PutTo C ⟨k, v, fl, ex, ve⟩ b os C') ∧ Hid (DW W w' c C' (fun k => X k ∨ r.ownBlock = some k)) ∧ Hid (w'.ownsRow w.heap.size 42 6 r os.length (outsV os)) ∧ Hid (KX W X w w') := by
  obtain ⟨P, O, rfl, h, hx⟩ := d.ex
  refine (put_good h d.ok k v fl ex ve b hg d.s1 d.sl).mono ?_
  rintro e w' ⟨r, os, C', O', he, pt, h', row, f, l⟩
  have td := pt.told hg d.ok
  obtain ⟨d1, d2⟩ := d.to hx h rfl td.ok td.sl ⟨O', h', f, l⟩
  refine ⟨r, os, C', he, Lib.hid pt, Lib.hid ⟨⟨P, O', rfl, h', fun k hk => ⟨?_, fun hk2 => hk2.elim (fun h1 => ?_) fun h1 => row.off k h1 hk⟩⟩, td.ok, d1.fr, fun k hk => hk.elim (d1.lt k) fun h1 => (row.row.lt k h1).2, d1.sl, d1.s1⟩, Lib.hid row.row, Lib.hid d2⟩
  · rcases l k hk with h1 | h1
    · exact (hx k h1).1
    · have := d.fr.size; omega
  · rcases l k hk with h2 | h2
    · exact (hx k h2).2 h1
    · have := d.lt k h1; omega
theorem DW.new (n : Nat) (fr : Fr Nob W w) (h1 : 1 ≤ n) (h2 : n ≤ 150) (hX : ∀ k, X k → k < w.heap.size) :
    Calls Try.prog 10 #[.int .i64 n] w fun e w' => ∃ c, e = .returned (.tuple #[.pointer (some ⟨c, 0, none⟩), .int .i64 0]) ∧ Hid (DW W w' c (newC n) X) ∧ Hid (Fr Nob w w') := by
  refine (dnew_good w n h1 (by omega)).mono ?_
  rintro e w' ⟨P, O, he, h, f, l⟩
  have hl : (newC n).S.length = n := List.length_replicate
  exact ⟨P.c, he, Lib.hid ⟨⟨P, O, rfl, h, fun k hk => ⟨by have := l k hk; have := fr.size; omega, fun h1 => by have := l k hk; have := hX k h1; omega⟩⟩, newC_ok n, fr.trans' f, fun k hk => Nat.lt_of_lt_of_le (hX k hk) f.size, by omega, by omega⟩, Lib.hid f⟩
end
end Go.Proofs.Ytpbbokpmlemboaa

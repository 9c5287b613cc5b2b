/-
  seg: what Add, Touch, Remove, Evict, Lists do to its state.
-/
import Derived.Test.YtpbbokpmlemboaaSegP
import Derived.Deep.LoopGhost
namespace Go.Proofs.Ytpbbokpmlemboaa
open Go.RowKit

/-- From the world w, where the Seg at p has the blocks K, to the world w', where it holds S'. -/
def SegTo (w : World) (p : Nat) (K : Nat → Prop) (w' : World) (S' : Sg) : Prop := ∃ K', SegAt w' p K' S' ∧ Fr K w w' ∧ ∀ k, K' k → K k ∨ w.heap.size ≤ k

theorem SegTo.refl {w : World} {p : Nat} {K : Nat → Prop} {S : Sg} (s : SegAt w p K S) : SegTo w p K w S := ⟨K, s, Fr.refl _ _, fun _ h => .inl h⟩
theorem SegTo.go {w w1 w2 : World} {p : Nat} {K K1 : Nat → Prop} {S2 : Sg} (f : Fr K w w1) (h : ∀ k, K1 k → K k ∨ w.heap.size ≤ k) (g : SegTo w1 p K1 w2 S2) : SegTo w p K w2 S2 := by
  obtain ⟨K2, s2, f2, h2⟩ := g
  refine ⟨K2, s2, f.trans f2 fun k hk h1 => (h k h1).elim id fun h => by omega, fun k hk => ?_⟩
  rcases h2 k hk with h3 | h3
  · exact h k h3
  · exact .inr (Nat.le_trans f.size h3)
theorem SegTo.drew {w w' : World} {p : Nat} {K : Nat → Prop} {S : Sg} (g : SegTo w p K w' S) : SegTo w p K w'.drew S := by
  obtain ⟨K', s, f, h⟩ := g
  exact ⟨K', s.drew, f.drew, h⟩

theorem look_used {w : World} {p : Nat} {K : Nat → Prop} {S : Sg} (s : SegAt w p K S) : ∃ ru ri V, SegIn w p ru ri V S ∧ ∀ k, K k ↔ SegOwn p ru ri V k := s

theorem sink_eq {w : World} {p : Nat} {K : Nat → Prop} {S : Sg} (s : SegAt w p K S) {t : Nat} (ht : t < 3) {l : List Int} {x : Int} (hl : S.get t = l ++ [x]) (hn : S.tot ≤ 100000) :
    Calls Try.prog 63 #[.pointer (some ⟨p, 0, none⟩), .int .i64 t] w fun e w' => e = .returned (.tuple #[]) ∧ SegTo w p K w' (S.sink t l x) := by
  have hlen : l.length + 1 ≤ S.tot := by
    have := S.get_le ht
    rw [hl] at this
    simpa using this
  have hpop := pop_eq s ht hl (by omega)
  have h1 : ∀ k, k < 3 → ((S.set t l).get k).length ≤ 1000000 := fun k hk => by
    have h2 := (S.set t l).get_le hk
    have h3 := S.tot_set ht l
    rw [hl] at h3
    simp at h3
    omega
  have hS : (S.set t l).U = S.U := S.set_U t l
  have hz := Try.zeroValue4
  cases hu : S.isUsed x with
  | true =>
    have hu' : (getM (S.set t l).U x).getD false = true := by rw [hS]; exact hu
    have hsk : S.sink t l x = (S.set t l).pushed x 1 := by unfold Sg.sink; rw [hu]; rfl
    rw [hsk]
    go_enter Try.func63, Try.ntmps63
    go_wp2_with (first | (go_at_call 57; refine hpop.mono ?_; rintro e w1 ⟨rfl, s1, f1⟩; have s2 := s1; obtain ⟨ru, ri, V, q, hK⟩ := s2; obtain ⟨c0, c1, c2, c3, c4, ct, fz⟩ := q.cells) | (at_lookup; refine wpList_lookupM rfl _ _ _ rfl (int_key .i64) Try.underlying94 Try.underlying3 (z := false) (hz _) q.used rfl x rfl ?_; simp only [hu', Bool.false_eq_true, if_false]) | (go_at_call 48; refine (push_eq s1 (t := 1) (by omega) x (h1 1 (by omega))).mono ?_; rintro e w2 ⟨rfl, K2, s3, f3, h3⟩))
    go_end0
    exact ⟨rfl, SegTo.go f1 (fun k h => .inl h) ⟨K2, s3, f3, h3⟩⟩
  | false =>
    have hu' : (getM (S.set t l).U x).getD false = false := by rw [hS]; exact hu
    have hsk : S.sink t l x = (S.set t l).pushed x 2 := by unfold Sg.sink; rw [hu]; rfl
    rw [hsk]
    go_enter Try.func63, Try.ntmps63
    go_wp2_with (first | (go_at_call 57; refine hpop.mono ?_; rintro e w1 ⟨rfl, s1, f1⟩; have s2 := s1; obtain ⟨ru, ri, V, q, hK⟩ := s2; obtain ⟨c0, c1, c2, c3, c4, ct, fz⟩ := q.cells) | (at_lookup; refine wpList_lookupM rfl _ _ _ rfl (int_key .i64) Try.underlying94 Try.underlying3 (z := false) (hz _) q.used rfl x rfl ?_; simp only [hu', Bool.false_eq_true, if_false]) | (go_at_call 48; refine (push_eq s1 (t := 2) (by omega) x (h1 2 (by omega))).mono ?_; rintro e w2 ⟨rfl, K2, s3, f3, h3⟩))
    go_end0
    exact ⟨rfl, SegTo.go f1 (fun k h => .inl h) ⟨K2, s3, f3, h3⟩⟩

theorem row_shape {w : World} {base : Nat} {e : TypeId} {size : Nat} {v : Value} {n : Nat} {xs : List Value} (h : w.ownsRow base e size v n xs) : ∃ a cap, v = .slice a n cap := by
  rcases h.2 with ⟨h, h0⟩ | ⟨g, cap, _, h, _⟩
  · exact ⟨none, 0, by rw [h, h0]⟩
  · exact ⟨_, cap, h⟩

/-- What a walk reads of a Seg. -/
theorem SegAt.read {w : World} {p : Nat} {K : Nat → Prop} {S : Sg} (s : SegAt w p K S) {t : Nat} (ht : t < 3) : ∃ a cap, w.cell? ⟨p, t, none⟩ = some (.slice a (S.get t).length cap) := by
  obtain ⟨ru, ri, V, q, hK⟩ := s
  obtain ⟨a, cap, h⟩ := row_shape (q.rows t ht)
  refine ⟨a, cap, ?_⟩
  rw [← h]
  exact q.cells.2.2.2.2.2.1 t ht

theorem last_of {l : List Int} (h : 0 < l.length) : ∃ k x, l = k ++ [x] := ⟨l.dropLast, l.getLast (by intro e; rw [e] at h; simp at h), (List.dropLast_concat_getLast _).symm⟩

theorem Sg.sink_U (S : Sg) (t : Nat) (l : List Int) (x : Int) : (S.sink t l x).U = delM S.U x := by
  show delM (S.set t l).U x = _
  rw [S.set_U]
theorem Sg.sink_len0 {S : Sg} {l : List Int} {x : Int} (_hl : S.get 0 = l ++ [x]) : ((S.sink 0 l x).get 0).length = l.length := by
  unfold Sg.sink
  rw [Sg.get_pushed _ x (by split <;> omega) 0 (by omega), if_neg (by split <;> omega), S.get_set (by omega) l 0 (by omega), if_pos rfl]
theorem Sg.sink_mu {S : Sg} (o : S.Ok) {l : List Int} {x : Int} (hl : S.get 1 = l ++ [x]) : ((S.sink 1 l x).get 1).length + (S.sink 1 l x).U.length < (S.get 1).length + S.U.length := by
  rw [S.sink_U, hl]
  unfold Sg.sink
  cases hu : S.isUsed x with
  | true =>
    have hs : (getM S.U x).isSome = true := by
      unfold Sg.isUsed at hu
      cases h : getM S.U x with
      | none => rw [h] at hu; cases hu
      | some b => rfl
    have := delM_length o.kU hs
    rw [if_pos rfl, Sg.get_pushed _ x (by omega) 1 (by omega), if_pos rfl, S.get_set (by omega) l 1 (by omega), if_pos rfl]
    simp
    omega
  | false =>
    have := delM_le S.U x
    rw [if_neg (by simp), Sg.get_pushed _ x (by omega) 1 (by omega), if_neg (by omega), S.get_set (by omega) l 1 (by omega), if_pos rfl]
    simp
    omega

theorem balance_eq {w : World} {p : Nat} {K : Nat → Prop} {S : Sg} (s : SegAt w p K S) (o : S.Ok) (hn : S.tot ≤ 100000) :
    Calls Try.prog 49 #[.pointer (some ⟨p, 0, none⟩)] w fun e w' => e = .returned (.tuple #[]) ∧ ∃ S1 S2, Sunk ((S.tot + 4) / 5) 0 S S1 ∧ Sunk (2 * S.tot / 5) 1 S1 S2 ∧ SegTo w p K w' S2 := by
  obtain ⟨n, hN⟩ : ∃ n, S.tot = n := ⟨_, rfl⟩
  have hlen := o.len
  rw [hN] at hn hlen ⊢
  have s0 := Lib.hid s
  have O := Lib.hid o
  have HN := Lib.hid hN
  obtain ⟨ru, ri, V, q, hK⟩ := s
  obtain ⟨c0, c1, c2, c3, c4, ct, fz⟩ := q.cells
  have q' := Lib.hid q
  clear hK o hN q
  go_enter Try.func49, Try.ntmps49
  go_wp2_with (at_len; refine wpList_lenM rfl _ _ rfl Try.underlying95 q'.out.inn rfl ?_; simp only [hlen])
  go_loopg [] ((S.get 0).length + 1) (fun gk wr => ∃ S1, gk = (S1.get 0).length + 1 ∧ Hid (SegTo w p K wr S1) ∧ Hid S1.Ok ∧ Hid (S1.tot = n) ∧ Hid (∀ S', Sunk ((n + 4) / 5) 0 S1 S' → Sunk ((n + 4) / 5) 0 S S'))
  case atStart => exact ⟨S, rfl, Lib.hid (SegTo.refl s0.out), O, HN, Lib.hid fun _ h => h⟩
  case round =>
    obtain ⟨S1, rfl, g1, o1, n1, r1⟩ := hrel
    have g1' := g1.out
    obtain ⟨K1, s1, f1, h1⟩ := g1'
    have F1 := Lib.hid f1
    have H1 := Lib.hid h1
    have A1 := Lib.hid s1
    obtain ⟨a, cap, d0⟩ := s1.read (t := 0) (by omega)
    have hle := S1.get_le (t := 0) (by omega)
    rw [n1.out] at hle
    clear s1 f1 h1 c0 c1 c2 c3 c4 ct fz
    by_cases hq : (n + 4) / 5 < (S1.get 0).length
    · obtain ⟨l, x, hl⟩ := last_of (l := S1.get 0) (by omega)
      have hL := Lib.hid hl
      have hq' : ((n : Int) + 4) / 5 < ((S1.get 0).length : Int) := by omega
      have Q := Lib.hid hq
      clear hl hq
      go_wp2_with fail
      refine (sink_eq A1.out (t := 0) (by omega) hL.out (by rw [n1.out]; omega)).mono ?_
      rintro e w2 ⟨rfl, g2⟩
      have G2 := Lib.hid g2
      clear g2
      go_wp2_with fail
      go_roundg ((S1.get 0).length)
      case measure => omega
      case rel =>
        refine ⟨S1.sink 0 l x, ?_, Lib.hid (SegTo.go F1.out H1.out G2.out), Lib.hid (o1.out.sink (by omega) hL.out), Lib.hid ?_, Lib.hid fun S' h => r1.out S' (.more Q.out hL.out h)⟩
        · rw [Sg.sink_len0 hL.out, hL.out]; simp
        · exact (Sg.tot_move S1 (t := 0) (by omega) (by split <;> omega) hL.out).trans n1.out
    · have hq' : ¬ ((n : Int) + 4) / 5 < ((S1.get 0).length : Int) := by omega
      have D1 := Lib.hid (r1.out S1 (.done (by omega)))
      go_wp2_with fail
      have O1 := o1
      have N1 := n1
      have G1 := g1
      clear F1 H1 A1 d0 hle hq hq' r1 s0 q'
      go_loopg [] ((S1.get 1).length + S1.U.length + 1) (fun gk wr => ∃ S2, gk = (S2.get 1).length + S2.U.length + 1 ∧ Hid (SegTo w p K wr S2) ∧ Hid S2.Ok ∧ Hid (S2.tot = n) ∧ Hid (∀ S', Sunk (2 * n / 5) 1 S2 S' → Sunk (2 * n / 5) 1 S1 S'))
      case atStart => exact ⟨S1, rfl, G1, O1, N1, Lib.hid fun _ h => h⟩
      case round =>
        clear g1 o1 n1
        obtain ⟨S2, rfl, g1, o1, n1, r1⟩ := hrel
        have g1' := g1.out
        obtain ⟨K1, s1, f1, h1⟩ := g1'
        have F1 := Lib.hid f1
        have H1 := Lib.hid h1
        have A1 := Lib.hid s1
        obtain ⟨a, cap, d0⟩ := s1.read (t := 1) (by omega)
        have hle := S2.get_le (t := 1) (by omega)
        rw [n1.out] at hle
        clear s1 f1 h1
        by_cases hq : 2 * n / 5 < (S2.get 1).length
        · obtain ⟨l, x, hl⟩ := last_of (l := S2.get 1) (by omega)
          have hL := Lib.hid hl
          have hq' : (2 * (n : Int)) / 5 < ((S2.get 1).length : Int) := by omega
          have Q := Lib.hid hq
          clear hl hq
          go_wp2_with fail
          refine (sink_eq A1.out (t := 1) (by omega) hL.out (by rw [n1.out]; omega)).mono ?_
          rintro e w2 ⟨rfl, g2⟩
          have G2 := Lib.hid g2
          clear g2
          go_wp2_with fail
          have hmu := Sg.sink_mu o1.out hL.out
          go_roundg (((S2.sink 1 l x).get 1).length + (S2.sink 1 l x).U.length + 1)
          case measure => omega
          case rel =>
            exact ⟨S2.sink 1 l x, rfl, Lib.hid (SegTo.go F1.out H1.out G2.out), Lib.hid (o1.out.sink (by omega) hL.out), Lib.hid ((Sg.tot_move S2 (t := 1) (by omega) (by split <;> omega) hL.out).trans n1.out), Lib.hid fun S' h => r1.out S' (.more Q.out hL.out h)⟩
        · have hq' : ¬ (2 * (n : Int)) / 5 < ((S2.get 1).length : Int) := by omega
          have D2 := Lib.hid (r1.out S2 (.done (by omega)))
          go_wp2_with fail
          go_end0
          exact ⟨rfl, S1, D1.out, S2, D2.out, g1.out⟩

/-- What Add makes of a state that has not the number. -/
def Added (S : Sg) (x : Int) (S' : Sg) : Prop := ∃ S1, Sunk ((S.tot + 5) / 5) 0 (S.pushed x 0) S1 ∧ Sunk (2 * (S.tot + 1) / 5) 1 S1 S'

def AddTo (S : Sg) (x : Int) (S' : Sg) : Prop := S'.Ok ∧ ((getM S.I x).isSome = true → S' = S) ∧ ((getM S.I x).isSome = false → Added S x S')

theorem add_eq {w : World} {p : Nat} {K : Nat → Prop} {S : Sg} (s : SegAt w p K S) (o : S.Ok) (hn : S.tot ≤ 10000) (x : Int) :
    Calls Try.prog 30 #[.pointer (some ⟨p, 0, none⟩), .int .i64 x] w fun e w' => e = .returned (.bool !(getM S.I x).isSome) ∧
      ∃ S', SegTo w p K w' S' ∧ AddTo S x S' := by
  have s0 := Lib.hid s
  have O := Lib.hid o
  obtain ⟨ru, ri, V, q, hK⟩ := s
  obtain ⟨c0, c1, c2, c3, c4, ct, fz⟩ := q.cells
  have q' := Lib.hid q
  have hz := Try.zeroValue107
  clear hK o q
  cases hi : getM S.I x with
  | some t =>
    have HI := Lib.hid hi
    go_enter Try.func30, Try.ntmps30
    go_wp2_with (at_lookup; refine wpList_lookupM rfl _ _ _ rfl (int_key .i64) Try.underlying95 Try.underlying3 (z := 0) (hz _) q'.out.inn rfl x rfl ?_; simp only [HI.out, Option.isSome_some, Option.getD_some, if_true])
    go_ret
    exact ⟨rfl, S, SegTo.refl s0.out, O.out, fun _ => rfl, fun h => by rw [HI.out] at h; cases h⟩
  | none =>
    have HI := Lib.hid hi
    have ht : (S.pushed x 0).tot = S.tot + 1 := S.tot_pushed x (by omega)
    have hp := Lib.hid (push_eq s0.out (t := 0) (by omega) x (Nat.le_trans (S.get_le (by omega)) (by omega)))
    clear hi
    go_enter Try.func30, Try.ntmps30
    go_wp2_with (first | (at_lookup; refine wpList_lookupM rfl _ _ _ rfl (int_key .i64) Try.underlying95 Try.underlying3 (z := 0) (hz _) q'.out.inn rfl x rfl ?_; simp only [HI.out, Option.isSome_none, Option.getD_none, if_true]) | (go_at_call 48; refine hp.out.mono ?_; rintro e w2 ⟨rfl, K2, s3, f3, h3⟩) | (go_at_call 49; refine (balance_eq (S := S.pushed x 0) s3 (O.out.push HI.out (by omega)) (by omega)).mono ?_; rintro e w4 ⟨rfl, S1, S2, k1, k2, g4⟩))
    go_ret
    have o1 : S1.Ok := k1.ok (by omega) (O.out.push HI.out (by omega))
    have hadd : Added S x S2 := by
      refine ⟨S1, ?_, ?_⟩
      · have : (S.tot + 5) / 5 = ((S.pushed x 0).tot + 4) / 5 := by omega
        rw [this]
        exact k1
      · rw [← ht]
        exact k2
    exact ⟨rfl, S2, SegTo.go f3 h3 g4, k2.ok (by omega) o1, (fun h => by rw [HI.out] at h; cases h), fun _ => hadd⟩

theorem touch_eq {w : World} {p : Nat} {K : Nat → Prop} {S : Sg} (s : SegAt w p K S) (x : Int) :
    Calls Try.prog 34 #[.pointer (some ⟨p, 0, none⟩), .int .i64 x] w fun e w' => e = .returned (.bool (getM S.I x).isSome) ∧ SegTo w p K w' (if (getM S.I x).isSome then S.touched x else S) := by
  have s0 := Lib.hid s
  obtain ⟨ru, ri, V, q, hK⟩ := s
  obtain ⟨c0, c1, c2, c3, c4, ct, fz⟩ := q.cells
  have q' := Lib.hid q
  have HK := Lib.hid hK
  have hz := Try.zeroValue107
  clear hK q
  cases hi : getM S.I x with
  | some t =>
    have HI := Lib.hid hi
    go_enter Try.func34, Try.ntmps34
    go_wp2_with (first | (at_lookup; refine wpList_lookupM rfl _ _ _ rfl (int_key .i64) Try.underlying95 Try.underlying3 (z := 0) (hz _) q'.out.inn rfl x rfl ?_; simp only [HI.out, Option.isSome_some, Option.getD_some, if_true]) | (at_mapUpdate; refine wpList_updateM rfl _ _ _ _ rfl (int_key .i64) Try.underlying94 Try.underlying3 q'.out.used rfl x rfl true rfl ?_; intro w3 m3 f3))
    go_ret
    refine ⟨rfl, K, ⟨ru, ri, V, q'.out.remap (f3.mono fun _ _ h => .inl h) m3 (q'.out.inn.keep f3 fun h => q'.out.ui h.symm), HK.out⟩, f3.mono fun k _ h => (HK.out k).2 (.inr (.inl h)), fun _ h => .inl h⟩
  | none =>
    have HI := Lib.hid hi
    go_enter Try.func34, Try.ntmps34
    go_wp2_with (at_lookup; refine wpList_lookupM rfl _ _ _ rfl (int_key .i64) Try.underlying95 Try.underlying3 (z := 0) (hz _) q'.out.inn rfl x rfl ?_; simp only [HI.out, Option.isSome_none, Option.getD_none, if_true])
    go_ret
    exact ⟨rfl, SegTo.refl s0.out⟩

theorem forget_eq {w : World} {p : Nat} {K : Nat → Prop} {S : Sg} (s : SegAt w p K S) (x : Int) :
    Calls Try.prog 58 #[.pointer (some ⟨p, 0, none⟩), .int .i64 x] w fun e w' => e = .returned (.tuple #[]) ∧ SegTo w p K w' (S.gone x) := by
  obtain ⟨ru, ri, V, q, hK⟩ := s
  obtain ⟨c0, c1, c2, c3, c4, ct, fz⟩ := q.cells
  have q' := Lib.hid q
  have HK := Lib.hid hK
  clear hK q
  go_enter Try.func58, Try.ntmps58
  go_wp2_with (first | (at_delete; refine wpList_deleteM rfl _ _ 95 _ rfl (int_key .i64) Try.underlying95 Try.underlying3 q'.out.inn rfl x rfl ?_; intro w3 m3 f3; have g3 := f3.cell c3 q'.out.pi) | (at_delete; refine wpList_deleteM rfl _ _ 94 _ rfl (int_key .i64) Try.underlying94 Try.underlying3 (q'.out.used.keep f3 q'.out.ui) rfl x rfl ?_; intro w4 m4 f4))
  go_end0
  refine ⟨rfl, K, ⟨ru, ri, V, q'.out.remap (w' := w4) ((f3.mono fun _ _ h => .inr h).trans (f4.mono (S' := fun k => k = ru ∨ k = ri) fun _ _ h => .inl h) fun _ _ h => h) m4 (m3.keep f4 fun h => q'.out.ui h.symm), HK.out⟩, ?_, fun _ h => .inl h⟩
  exact (f3.mono fun k _ h => (HK.out k).2 (.inr (.inr (.inl h)))).trans f4 fun k _ h => (HK.out k).2 (.inr (.inl h))

end Go.Proofs.Ytpbbokpmlemboaa

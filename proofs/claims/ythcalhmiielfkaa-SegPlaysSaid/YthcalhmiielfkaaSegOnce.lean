/-
  The law SegOnce, walked: each number that was added, and not removed or let go, stands in just one list; Evict goes on till none is left, each once.
-/
import Derived.Test.YthcalhmiielfkaaSegActs
import Derived.Test.YthcalhmiielfkaaSegShares
import Derived.Test.YthcalhmiielfkaaSegSpares
namespace Go.Proofs.Ythcalhmiielfkaa
open Go.RowKit

/-- A row of the law's own, beside the Seg. -/
structure Mine (w : World) (p : Nat) (S : Sg) (base : Nat) (v : Value) (xs : List Int) : Prop where
  own : w.ownsRow base 3 1 v xs.length (ints xs)
  off : ∀ K, SegAt w p K S → ∀ k, v.ownBlock = some k → ¬ K k

theorem Mine.to {w w' : World} {p base : Nat} {K : Nat → Prop} {S S' : Sg} {v : Value} {xs : List Int} (t : Mine w p S base v xs) (s : SegAt w p K S) (g : SegTo w p K w' S') : Mine w' p S' base v xs := by
  obtain ⟨K', s', f, h⟩ := g
  refine ⟨f.ownsRow t.own fun k hk => t.off K s k hk, fun K2 s2 k hk h2 => ?_⟩
  rcases h k ((s'.one s2 k).2 h2) with h3 | h3
  · exact t.off K s k hk h3
  · have := (t.own.lt k hk).2
    omega

def StepO (w : World) (p : Nat) (S : Sg) (w' : World) (S' : Sg) : Prop := Step w p S w' S' ∧ ∀ base v xs, Mine w p S base v xs → Mine w' p S' base v xs

theorem SegTo.stepO {w w' : World} {p : Nat} {K : Nat → Prop} {S S' : Sg} (s : SegAt w p K S) (g : SegTo w p K w' S') : StepO w p S w' S' := ⟨g.step s, fun _ _ _ t => t.to s g⟩

theorem add_own {w0 w : World} {p : Nat} {S : Sg} (s : SegNew w0 p w S) (o : S.Ok) (hn : S.tot ≤ 10000) (x : Int) :
    Calls Try.prog 15 #[.pointer (some ⟨p, 0, none⟩), .int .i64 x] w fun e w' => e = .returned (.bool !(getM S.I x).isSome) ∧ ∃ S', StepO w p S w' S' ∧ AddTo S x S' := by
  obtain ⟨K, s, _, _⟩ := s
  refine (add_eq s o hn x).mono ?_
  rintro e w' ⟨rfl, S', g, h⟩
  exact ⟨rfl, S', g.stepO s, h⟩
theorem touch_own {w0 w : World} {p : Nat} {S : Sg} (s : SegNew w0 p w S) (x : Int) :
    Calls Try.prog 12 #[.pointer (some ⟨p, 0, none⟩), .int .i64 x] w fun e w' => e = .returned (.bool (getM S.I x).isSome) ∧ StepO w p S w' (if (getM S.I x).isSome then S.touched x else S) := by
  obtain ⟨K, s, _, _⟩ := s
  refine (touch_eq s x).mono ?_
  rintro e w' ⟨rfl, g⟩
  exact ⟨rfl, g.stepO s⟩
theorem remove_own {w0 w : World} {p : Nat} {S : Sg} (s : SegNew w0 p w S) (o : S.Ok) (hn : S.tot ≤ 10000) (x : Int) :
    Calls Try.prog 13 #[.pointer (some ⟨p, 0, none⟩), .int .i64 x] w fun e w' => e = .returned (.bool (getM S.I x).isSome) ∧ ∃ S', StepO w p S w' S' ∧ RemTo S x S' := by
  obtain ⟨K, s, _, _⟩ := s
  refine (remove_eq s o (by omega) x).mono ?_
  rintro e w' ⟨rfl, S', g, h⟩
  exact ⟨rfl, S', g.stepO s, h⟩
theorem evict_own {w0 w : World} {p : Nat} {S : Sg} (s : SegNew w0 p w S) (o : S.Ok) (hn : S.tot ≤ 10000) :
    Calls Try.prog 11 #[.pointer (some ⟨p, 0, none⟩)] w fun e w' => ∃ x ok S', e = .returned (.tuple #[.int .i64 x, .bool ok]) ∧ StepO w p S w' S' ∧ EvTo S x ok S' := by
  obtain ⟨K, s, _, _⟩ := s
  refine (evict_eq s o (by omega)).mono ?_
  rintro e w' ⟨x, ok, S', rfl, g, h⟩
  exact ⟨x, ok, S', rfl, g.stepO s, h⟩

theorem SegNew.beside {w0 w w' : World} {p base : Nat} {S : Sg} {v : Value} {xs : List Int} (s : SegNew w0 p w S) (m : Mine w p S base v xs) (hb : w0.heap.size ≤ base) (f : Fr (fun k => v.ownBlock = some k) w w') : SegNew w0 p w' S := by
  obtain ⟨K, s, f0, h⟩ := s
  exact ⟨K, s.keep f fun k hk hv => m.off K s k hv hk, f0.trans f fun k hk hv => by have := (m.own.lt k hv).1; omega, h⟩

theorem Mine.made {w0 w w' : World} {p base base' : Nat} {S : Sg} {v v' : Value} {xs ys : List Int} (s : SegNew w0 p w S) (m : Mine w p S base v xs) (f : Fr (fun k => v.ownBlock = some k) w w') (ho : w'.ownsRow base' 3 1 v' ys.length (ints ys))
    (hv : ∀ k, v'.ownBlock = some k → v.ownBlock = some k ∨ w.heap.size ≤ k) : Mine w' p S base' v' ys := by
  obtain ⟨K, s, f0, h⟩ := s
  refine ⟨ho, fun K2 s2 k hk h2 => ?_⟩
  have s' := s.keep f fun k hk hv => m.off K s k hv hk
  have h3 := (s'.one s2 k).2 h2
  rcases hv k hk with h4 | h4
  · exact m.off K s k h4 h3
  · have := s.lt k h3
    omega

theorem int_info : (Try.prog.info? 3).map (fun i => (i.zero.map Value.cells, i.size, i.bytes)) = some (some #[.int .i64 0], 1, 8) := by kernel_rfl

def without (xs : List Int) (x : Int) : List Int := xs.filter fun y => decide (y ≠ x)

theorem out_eq {w : World} {v : Value} {xs : List Int} (h : RdInts w v xs) (hn : xs.length ≤ 1000000) (x : Int) :
    Calls Try.prog 24 #[v, .int .i64 x] w fun e w' => ∃ v', e = .returned v' ∧ w'.ownsRow w.heap.size 3 1 v' (without xs x).length (ints (without xs x)) ∧ Fr Nob w w' := by
  obtain ⟨a, cap, rfl, h⟩ := h
  have H := Lib.hid h
  clear h
  go_enter Try.func24, Try.ntmps24
  go_wp2_with fail
  go_loopw [5, 6] (fun l i wr => ∃ j : Nat, j ≤ xs.length ∧ i = .int .i64 j ∧ Hid (wr.ownsRow w.heap.size 3 1 l (without (xs.take j) x).length (ints (without (xs.take j) x))) ∧ Hid (Fr Nob w wr)) (fun _ i _ => xs.length - (Lib.intOf i).toNat)
  case atStart => exact ⟨0, Nat.zero_le _, rfl, Lib.hid (World.ownsRow_nil _ _ _ _), Lib.hid (Fr.refl _ _)⟩
  case round =>
    obtain ⟨j, hj, rfl, own, f⟩ := hrel
    by_cases hjn : j < xs.length
    · obtain ⟨g, rfl, c0⟩ := H.out j hjn
      have c1 := f.out.cell c0 (fun h => h)
      obtain ⟨y, hy⟩ : ∃ y, xs.getD j 0 = y := ⟨_, rfl⟩
      rw [hy] at c1
      have hy' : xs[j] = y := by
        rw [List.getD_eq_getElem?_getD, List.getElem?_eq_getElem hjn] at hy
        exact hy
      have htake : without (xs.take (j + 1)) x = without (xs.take j) x ++ (if y ≠ x then [y] else []) := by
        unfold without
        rw [List.take_add_one, List.getElem?_eq_getElem hjn, List.filter_append, hy']
        by_cases e : y = x
        · simp [e]
        · simp [e]
      have hlen : (without (xs.take j) x).length ≤ j := Nat.le_trans (List.length_filter_le _ _) (by rw [List.length_take]; omega)
      have TK := Lib.hid htake
      clear c0 htake
      by_cases hyx : y = x
      · subst hyx
        have TK2 : Hid (without (xs.take (j + 1)) y = without (xs.take j) y) := Lib.hid (by rw [TK.out]; simp)
        clear TK
        go_wp2_with fail
        go_roundw
        case rel => exact ⟨j + 1, by omega, by go_num, Lib.hid (by rw [TK2.out]; exact own.out), f⟩
        case measure => simp [Lib.intOf]; omega
      · have hb : (y == x) = false := by simpa using hyx
        have TK2 : Hid (without (xs.take (j + 1)) x = without (xs.take j) x ++ [y]) := Lib.hid (by rw [TK.out, if_pos hyx])
        clear TK
        go_wp2_with (with_reducible refine wpList_app (o := ⟨some 25, _, _, _, _, _⟩) rfl (.tmp 19) (.tmp 24) 36 rfl 3 #[.int .i64 0] 1 8 Try.underlying36 int_info rfl (by omega) w.heap.size u5 (without (xs.take j) x).length (ints (without (xs.take j) x)) rfl ((Fr.refl Nob wr).alloc _ |>.ownsRow own.out fun _ _ h => h) ⟨wr.heap.size, 0, none⟩ 1 1 [.int .i64 y] rfl rfl (new_one wr _ _) (by simp [Value.oneCell']) (by omega) (by omega) (by have := f.out.size; simp; omega) ?_)
        intro v' w3 o3 f3 h3
        have own3 : Hid (w3.ownsRow w.heap.size 3 1 v' (without (xs.take (j + 1)) x).length (ints (without (xs.take (j + 1)) x))) := Lib.hid (by
          rw [TK2.out]
          have := o3.out
          rw [show ints (without (xs.take j) x ++ [y]) = ints (without (xs.take j) x) ++ [.int .i64 y] by simp, List.length_append]
          exact this)
        have F3 : Hid (Fr Nob w w3) := Lib.hid ((f.out.alloc (.cells #[.int .i64 y] 3)).trans f3.out fun k hk e => absurd ((own.out.lt k e).1) (by omega))
        clear own f o3 f3 h3
        go_wp2_with fail
        go_roundw
        case rel => exact ⟨j + 1, by omega, by go_num, own3, F3⟩
        case measure => simp [Lib.intOf]; omega
    · have hj2 : j = xs.length := by omega
      have hown : wr.ownsRow w.heap.size 3 1 u5 (without xs x).length (ints (without xs x)) := by
        have := own.out
        rw [hj2, List.take_length] at this
        exact this
      have HO := Lib.hid hown
      clear own hown
      subst hj2
      go_wp2_with fail
      go_ret
      exact ⟨_, rfl, HO.out, f.out⟩

theorem nodup_len {M : List Int} : ∀ {L : List Int}, L.Nodup → (∀ x, x ∈ L → x ∈ M) → L.length ≤ M.length := by
  intro L
  induction L generalizing M with
  | nil => intro _ _; exact Nat.zero_le _
  | cons x L ih =>
    intro hn h
    rw [List.nodup_cons] at hn
    have hx : x ∈ M := h x List.mem_cons_self
    have h2 := ih (M := M.erase x) hn.2 fun y hy => by
      have hne : y ≠ x := fun e => hn.1 (e ▸ hy)
      exact (List.mem_erase_of_ne hne).2 (h y (List.mem_cons_of_mem _ hy))
    rw [List.length_erase_of_mem hx] at h2
    have : 0 < M.length := List.length_pos_of_mem hx
    rw [List.length_cons]
    omega

structure Both (S : Sg) (L : List Int) : Prop where
  nod : L.Nodup
  mem : ∀ x, x ∈ L ↔ (getM S.I x).isSome = true

theorem Both.len {S : Sg} {L : List Int} (b : Both S L) (o : S.Ok) : L.length = S.tot := by
  have h1 := nodup_len (M := keysM S.I) b.nod fun x hx => getM_isSome.1 ((b.mem x).1 hx)
  have h2 := nodup_len (M := L) o.kI fun x hx => (b.mem x).2 (getM_isSome.2 hx)
  have h3 : (keysM S.I).length = S.I.length := by simp [keysM]
  have := o.len
  omega

theorem mem_without {L : List Int} {x y : Int} : y ∈ without L x ↔ y ∈ L ∧ y ≠ x := by
  unfold without
  rw [List.mem_filter]
  simp

theorem Both.add {S S' : Sg} {L : List Int} {x : Int} (b : Both S L) (o : S.Ok) (hx : (getM S.I x).isSome = false) (h : AddTo S x S') : Both S' (L ++ [x]) := by
  have hk : getM S.I x = Option.none := by
    cases hg : getM S.I x with
    | none => rfl
    | some v => rw [hg] at hx; cases hx
  have ha := (h.2.2 hx).keys o hk
  have hnl : x ∉ L := fun hm => by rw [b.mem, hx] at hm; cases hm
  refine ⟨?_, fun y => ?_⟩
  · rw [List.nodup_append]
    exact ⟨b.nod, by simp, fun y hy z hz e => hnl (by
      have : z = x := by simpa using hz
      rw [← this, ← e]; exact hy)⟩
  · rw [List.mem_append, ha y, b.mem]
    simp [or_comm]
theorem Both.gone {S S' : Sg} {L : List Int} {x : Int} (b : Both S L) (h : ∀ y, getM S'.I y = if y = x then none else getM S.I y) : Both S' (without L x) := by
  refine ⟨b.nod.filter _, fun y => ?_⟩
  rw [mem_without, b.mem, h y]
  by_cases e : y = x
  · simp [e]
  · simp [e]
theorem Both.remove {S S' : Sg} {L : List Int} {x : Int} (b : Both S L) (hx : (getM S.I x).isSome = true) (h : RemTo S x S') : Both S' (without L x) := by
  obtain ⟨t, a, c, _, _, rfl⟩ := h.2.1 hx
  refine b.gone fun y => ?_
  show getM (delM (S.set t _).I x) y = _
  rw [S.set_I, getM_delM]
theorem Both.iff {S S' : Sg} {L : List Int} (b : Both S L) (h : ∀ y, (getM S'.I y).isSome = (getM S.I y).isSome) : Both S' L := ⟨b.nod, fun y => by rw [b.mem, h y]⟩
theorem Moved.keys {S S' : Sg} (k : Moved S S') (o : S.Ok) : ∀ x, (getM S'.I x).isSome = (getM S.I x).isSome := by
  induction k with
  | done => exact fun _ => rfl
  | more hl h _ ih =>
    rename_i S S' l y _
    intro x
    rw [ih (o.move (by omega) (by omega) hl), show ((S.set 2 l).pushed y 1).I = setM (S.set 2 l).I y ((1 : Nat) : Int) from rfl, S.set_I, getM_setM]
    have hy := (o.inn y 2 (by omega)).1 (by rw [show S.get 2 = l ++ [y] from hl]; simp)
    by_cases e : x = y
    · rw [if_pos e, e, hy]
      rfl
    · rw [if_neg e]
theorem Both.evict {S S' : Sg} {L : List Int} {x : Int} {ok : Bool} (b : Both S L) (o : S.Ok) (hL : 0 < L.length) (h : EvTo S x ok S') : ok = true ∧ Both S' (without L x) ∧ S'.tot + 1 = S.tot := by
  have hlen := b.len o
  obtain ⟨_, S1, m, h⟩ := h
  have b1 := b.iff (m.keys o)
  have ht := m.tot
  rcases h with ⟨rfl, h⟩ | ⟨_, _, h0, _⟩
  · have ht2 := h.tot
    refine ⟨rfl, b1.gone fun y => ?_, by omega⟩
    have : ∀ t l, getM ((S1.set t l).gone x).I y = if y = x then none else getM S1.I y := fun t l => by
      show getM (delM (S1.set t l).I x) y = _
      rw [S1.set_I, getM_delM]
    cases h <;> exact this _ _
  · omega
theorem evict_none {S S' : Sg} {x : Int} {ok : Bool} (h0 : S.tot = 0) (h : EvTo S x ok S') : ok = false := by
  obtain ⟨_, S1, m, h⟩ := h
  have ht := m.tot
  rcases h with ⟨rfl, h⟩ | ⟨h, _⟩
  · have := h.tot
    omega
  · exact h

set_option maxHeartbeats 6400000 in
theorem segOnce_walk (A : Option Addr) (n cap : Nat) (z : Nat → Int × Int) (w : World) (hz : ActRow w A n z) :
    Calls Try.prog 5 #[.slice A n cap] w fun e w' => e = .returned (.bool true) ∧ Fr Nob w w' := by
  have Z := Lib.hid hz
  clear hz
  by_cases hn : n ≤ 150
  · go_enter Try.func5, Try.ntmps5
    go_wp2_with fail
    refine (awake_ok w).mono ?_
    rintro e w0 ⟨rfl, f0⟩
    have f0 := Lib.hid f0
    go_wp2_with fail
    refine (new_new w0 w f0.out).mono ?_
    rintro e w1 ⟨p, rfl, s1⟩
    have s1 := Lib.hid s1
    have o1 := Lib.hid Sg.Ok.none
    have b1 : Both Sg.none [] := ⟨List.nodup_nil, fun x => by
      rw [show (getM Sg.none.I x).isSome = false from rfl]
      simp⟩
    have m1 : Mine w1 p Sg.none w.heap.size (.slice none 0 0) [] := ⟨World.ownsRow_nil _ _ _ _, fun K _ k h => by cases h⟩
    have b1 := Lib.hid b1
    have m1 := Lib.hid m1
    go_wp2_with fail
    go_loopw [4, 5] (fun v i wr => ∃ (k : Nat) (S : Sg) (L : List Int), k ≤ n ∧ i = .int .i64 k ∧ Hid (SegNew w p wr S) ∧ Hid S.Ok ∧ Hid (S.tot ≤ k) ∧ Hid (Both S L) ∧ Hid (Mine wr p S w.heap.size v L)) (fun _ i _ => n - (Lib.intOf i).toNat)
    case atStart => exact ⟨0, _, [], by omega, rfl, s1, o1, Lib.hid (by decide), b1, m1⟩
    case round =>
      clear s1 o1 b1 m1
      obtain ⟨k, S, L, hk, rfl, s2, o2, t2, b2, m2⟩ := hrel
      by_cases hkn : k < n
      · obtain ⟨b, o, rfl⟩ := Z.out.addr (by omega)
        obtain ⟨c1, c2⟩ := (Z.out.keep s2.out.fr).cell rfl hkn
        have i1 := Z.out.op k hkn
        generalize (z k).1 = op at c1 i1
        generalize hid : (z k).2 = id at c2
        have HID := Lib.hid hid
        clear hid
        have T3 := Lib.hid (Nat.le_trans t2.out (show k ≤ 10000 by omega))
        by_cases h0 : op = 0
        · subst h0
          go_wp2_with fail
          refine (add_own s2.out o2.out T3.out id).mono ?_
          rintro e w3 ⟨rfl, S3, k3, h3⟩
          have s3 := Lib.hid (k3.1.1 _ s2.out)
          have o3 := Lib.hid h3.1
          have t3 := Lib.hid (Nat.le_trans h3.tot (Nat.succ_le_succ t2.out))
          have m3 := Lib.hid (k3.2 _ _ _ m2.out)
          cases hs : (getM S.I id).isSome with
          | true =>
            have b3 : Hid (Both S3 L) := Lib.hid (by rw [h3.2.1 hs]; exact b2.out)
            rw [Bool.not_true]
            clear hs k3 h3 m2 b2
            go_wp2_with fail
            go_roundw
            case rel => exact ⟨k + 1, S3, L, by omega, by go_num, s3, o3, t3, b3, m3⟩
            case measure => simp [Lib.intOf]; omega
          | false =>
            have b3 := Lib.hid (b2.out.add o2.out hs h3)
            have hLl : L.length ≤ 10000 := by rw [b2.out.len o2.out]; exact T3.out
            have d2 := ((Z.out.keep s3.out.fr).cell rfl hkn).2
            rw [HID.out] at d2
            rw [Bool.not_false]
            clear hs k3 h3 m2 b2
            go_wp2_with (with_reducible refine wpList_app (o := ⟨some 44, _, _, _, _, _⟩) rfl (.tmp 37) (.tmp 43) 36 rfl 3 #[.int .i64 0] 1 8 Try.underlying36 int_info rfl (by omega) w.heap.size u4 L.length (ints L) rfl ((Fr.refl Nob w3).alloc _ |>.ownsRow m3.out.own fun _ _ h => h) ⟨w3.heap.size, 0, none⟩ 1 1 [.int .i64 id] rfl rfl (new_one w3 _ _) (by simp [Value.oneCell']) (by omega) (by omega) (by have := s3.out.fr.size; simp; omega) ?_)
            intro v' w5 o5 f5 h5
            have f5' : Fr (fun k => u4.ownBlock = some k) w3 w5 := ((Fr.refl _ w3).alloc (.cells #[.int .i64 id] 3)).trans f5.out fun _ _ h => h
            have s5 := Lib.hid (s3.out.beside m3.out (Nat.le_refl _) f5')
            have m5 : Hid (Mine w5 p S3 w.heap.size v' (L ++ [id])) := Lib.hid (m3.out.made s3.out f5' (by
              have := o5.out
              rw [show ints (L ++ [id]) = ints L ++ [.int .i64 id] by simp, List.length_append]
              exact this) (fun k hk => by
              rcases h5.out with h | h
              · exact .inl (h ▸ hk)
              · right
                rw [h] at hk
                have : k = (w3.alloc (.cells #[.int .i64 id] 3)).heap.size := by simpa using hk.symm
                rw [this]
                exact ((Fr.refl Nob w3).alloc (.cells #[.int .i64 id] 3)).size))
            clear f5' o5 f5 h5 s3 m3 d2
            go_wp2_with fail
            go_roundw
            case rel => exact ⟨k + 1, S3, L ++ [id], by omega, by go_num, s5, o3, t3, b3, m5⟩
            case measure => simp [Lib.intOf]; omega
        · by_cases h1 : op = 1
          · subst h1
            go_wp2_with fail
            refine (touch_own s2.out id).mono ?_
            rintro e w3 ⟨rfl, k3⟩
            have s3 := Lib.hid (k3.1.1 _ s2.out)
            have m3 := Lib.hid (k3.2 _ _ _ m2.out)
            have o3 : Hid (if (getM S.I id).isSome then S.touched id else S).Ok := Lib.hid (by
              split
              · rename_i h; exact o2.out.touch h
              · exact o2.out)
            have t3 : Hid ((if (getM S.I id).isSome then S.touched id else S).tot ≤ k + 1) := Lib.hid (by
              have := t2.out
              split
              · show S.tot ≤ _; omega
              · omega)
            have b3 : Hid (Both (if (getM S.I id).isSome then S.touched id else S) L) := Lib.hid (by
              split
              · exact b2.out.iff fun _ => rfl
              · exact b2.out)
            generalize (if (getM S.I id).isSome then S.touched id else S) = S3 at s3 o3 t3 b3 m3
            generalize (getM S.I id).isSome = b0
            clear k3
            go_wp2_with fail
            go_roundw
            case rel => exact ⟨k + 1, S3, L, by omega, by go_num, s3, o3, t3, b3, m3⟩
            case measure => simp [Lib.intOf]; omega
          · by_cases h2 : op = 2
            · subst h2
              go_wp2_with fail
              refine (remove_own s2.out o2.out T3.out id).mono ?_
              rintro e w3 ⟨rfl, S3, k3, h3⟩
              have s3 := Lib.hid (k3.1.1 _ s2.out)
              have o3 := Lib.hid h3.1
              have t3 := Lib.hid (Nat.le_trans h3.tot (Nat.le_trans t2.out (Nat.le_succ k)))
              have m3 := Lib.hid (k3.2 _ _ _ m2.out)
              cases hs : (getM S.I id).isSome with
              | false =>
                have b3 : Hid (Both S3 L) := Lib.hid (by rw [h3.2.2 hs]; exact b2.out)
                clear hs k3 h3 m2 b2
                go_wp2_with fail
                go_roundw
                case rel => exact ⟨k + 1, S3, L, by omega, by go_num, s3, o3, t3, b3, m3⟩
                case measure => simp [Lib.intOf]; omega
              | true =>
                have b3 := Lib.hid (b2.out.remove hs h3)
                have hLl : L.length ≤ 10000 := by rw [b2.out.len o2.out]; exact T3.out
                have d2 := ((Z.out.keep s3.out.fr).cell rfl hkn).2
                rw [HID.out] at d2
                clear hs k3 h3 m2 b2
                go_wp2_with fail
                refine (out_eq (.of_row m3.out.own) (by omega) id).mono ?_
                rintro e w5 ⟨v5, rfl, own5, f5⟩
                have s5 := Lib.hid (s3.out.plus f5)
                have m5 : Hid (Mine w5 p S3 w.heap.size v5 (without L id)) := Lib.hid (m3.out.made s3.out (f5.nob) (row_base s3.out.fr.size own5) (fun k hk => .inr (own5.lt k hk).1))
                clear own5 f5 s3 m3 d2
                go_wp2_with fail
                go_roundw
                case rel => exact ⟨k + 1, S3, without L id, by omega, by go_num, s5, o3, t3, b3, m5⟩
                case measure => simp [Lib.intOf]; omega
            · have b0 : (op == 0) = false := by simpa using h0
              have b1 : (op == 1) = false := by simpa using h1
              have b2' : (op == 2) = false := by simpa using h2
              go_wp2_with fail
              go_roundw
              case rel => exact ⟨k + 1, S, L, by omega, by go_num, s2, o2, Lib.hid (Nat.le_trans t2.out (Nat.le_succ k)), b2, m2⟩
              case measure => simp [Lib.intOf]; omega
      · have hkn : k = n := by omega
        subst hkn
        have hlen := b2.out.len o2.out
        have ht2 := t2.out
        obtain ⟨va, vc, rfl⟩ := row_shape m2.out.own
        have HLEN := Lib.hid hlen
        go_wp2_with fail
        refine (len_new s2.out o2.out).mono ?_
        rintro e w' ⟨rfl, rfl⟩
        rw [← HLEN.out]
        clear hlen ht2
        go_wp2_with fail
        go_loopg [4] (L.length + 1) (fun gk v wr => ∃ (S : Sg) (L : List Int), gk = L.length + 1 ∧ L.length ≤ k ∧ Hid (SegNew w p wr S) ∧ Hid S.Ok ∧ Hid (Both S L) ∧ Hid (Mine wr p S w.heap.size v L))
        case atStart => exact ⟨S, L, rfl, by rw [HLEN.out]; exact t2.out, s2, o2, b2, m2⟩
        case round =>
          clear s2 o2 b2 m2 t2 HLEN S
          obtain ⟨S, M, rfl, hMk, s2, o2, b2, m2⟩ := hrel
          obtain ⟨ma, mc, rfl⟩ := row_shape m2.out.own
          have HL := Lib.hid (b2.out.len o2.out)
          by_cases hM : 0 < M.length
          · go_wp2_with fail
            refine (evict_own s2.out o2.out (by rw [← HL.out]; omega)).mono ?_
            rintro e w3 ⟨x, ok, S3, rfl, k3, h3⟩
            obtain ⟨rfl, b3, ht⟩ := b2.out.evict o2.out hM h3
            have s3 := Lib.hid (k3.1.1 _ s2.out)
            have o3 := Lib.hid h3.1
            have m3 := Lib.hid (k3.2 _ _ _ m2.out)
            have hl3 := b3.len h3.1
            have hN : (without M x).length + 1 = M.length := by rw [hl3, ht, HL.out]
            have HL3 := Lib.hid hl3
            have B3 := Lib.hid b3
            clear k3 h3 s2 o2 b2 m2 HL hl3 b3 ht
            go_wp2_with fail
            refine (out_eq (.of_row m3.out.own) (by omega) x).mono ?_
            rintro e w5 ⟨v5, rfl, own5, f5⟩
            have s5 := Lib.hid (s3.out.plus f5)
            have m5 : Hid (Mine w5 p S3 w.heap.size v5 (without M x)) := Lib.hid (m3.out.made s3.out (f5.nob) (row_base s3.out.fr.size own5) (fun k hk => .inr (own5.lt k hk).1))
            obtain ⟨xa, xc, rfl⟩ := row_shape own5
            clear own5 f5 s3 m3
            have hb : (((without M x).length : Int) == (M.length : Int) - 1) = true := by rw [beq_iff_eq]; omega
            go_wp2_with fail
            refine (len_new s5.out o3.out).mono ?_
            rintro e w' ⟨rfl, rfl⟩
            rw [← HL3.out]
            go_wp2_with fail
            go_roundg ((without M x).length + 1)
            case measure => omega
            case rel => exact ⟨S3, without M x, rfl, by omega, s5, o3, B3, m5⟩
          · have hM0 : M.length = 0 := by omega
            rw [hM0]
            go_wp2_with fail
            refine (evict_own s2.out o2.out (by rw [← HL.out]; omega)).mono ?_
            rintro e w3 ⟨x, ok, S3, rfl, k3, h3⟩
            have hok := evict_none (by rw [← HL.out]; exact hM0) h3
            subst hok
            have f3 := Lib.hid (k3.1.1 _ s2.out).fr
            clear k3 h3
            go_wp2_with fail
            go_ret
            exact ⟨rfl, f3.out⟩
  · go_enter Try.func5, Try.ntmps5
    go_wp2_with fail
    refine (awake_ok w).mono ?_
    rintro e w0 ⟨rfl, f0⟩
    have f0 := Lib.hid f0
    go_wp2_with fail
    go_ret
    exact ⟨rfl, f0.out⟩

end Go.Proofs.Ythcalhmiielfkaa

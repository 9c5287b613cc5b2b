/-
  seg: what Remove and Lists do to its state; slices.Index at []int.
-/
import Derived.Test.YtpbbokpmlemboaaSegB
namespace Go.Proofs.Ytpbbokpmlemboaa
open Go.RowKit

theorem index_eq {w : World} {g cap : Nat} {a b : List Int} {x : Int} (hn : (a ++ x :: b).length ≤ 1000000) (hx : x ∉ a) (hc : ∀ j, j < (a ++ x :: b).length → w.cell? ⟨g, j, none⟩ = some (.int .i64 ((a ++ x :: b).getD j 0))) :
    Calls Try.prog 64 #[.slice (some ⟨g, 0, none⟩) (a ++ x :: b).length cap, .int .i64 x] w fun e w' => e = .returned (.int .i64 a.length) ∧ w = w' := by
  have hla : a.length < (a ++ x :: b).length := by simp
  have hat : (a ++ x :: b).getD a.length 0 = x := by simp
  have hne : ∀ j, j < a.length → (a ++ x :: b).getD j 0 ≠ x := fun j hj e => by
    apply hx
    rw [← e, List.getD_eq_getElem?_getD, List.getElem?_append_left hj, List.getElem?_eq_getElem hj]
    exact List.getElem_mem hj
  generalize a ++ x :: b = L at *
  have HC := Lib.hid hc
  have HA := Lib.hid hat
  have HE := Lib.hid hne
  clear hc hat hne
  go_enter Try.func64, Try.ntmps64
  go_wp2_with fail
  go_loop [8] (fun n => ∃ j : Nat, j ≤ a.length ∧ n = .int .i64 j) (fun n => L.length - (Lib.intOf n).toNat)
  case atStart => exact ⟨0, Nat.zero_le _, rfl⟩
  case round =>
    obtain ⟨j, hj, rfl⟩ := hrel
    have hjl : j < L.length := by omega
    have hcell := HC.out j hjl
    by_cases he : j = a.length
    · subst he
      rw [HA.out] at hcell
      go_wp2_with fail
      go_ret
      exact ⟨rfl, rfl⟩
    · have hne := HE.out j (by omega)
      generalize L.getD j 0 = y at hcell hne
      have hbe : (x == y) = false := by simpa using fun e : x = y => hne e.symm
      go_wp2_with fail
      go_round
      case rel => exact ⟨j + 1, by omega, by go_num⟩
      case measure => simp [Lib.intOf]; omega

theorem delete_row {w : World} {g cap : Nat} {a b : List Int} {x : Int} (hn : (a ++ x :: b).length ≤ 1000000) (ho : w.ownsRow 0 3 1 (.slice (some ⟨g, 0, none⟩) (a ++ x :: b).length cap) (a ++ x :: b).length (ints (a ++ x :: b))) :
    Calls Try.prog 65 #[.slice (some ⟨g, 0, none⟩) (a ++ x :: b).length cap, .int .i64 a.length, .int .i64 (a.length + 1)] w fun e w' => e = .returned (.slice (some ⟨g, 0, none⟩) (a ++ b).length cap) ∧
      w'.ownsRow 0 3 1 (.slice (some ⟨g, 0, none⟩) (a ++ b).length cap) (a ++ b).length (ints (a ++ b)) ∧ Fr (One g) w w' := by
  obtain ⟨cur, h1, h2, h3, h4, h5, h6⟩ := row_cell ho
  have hla : (a ++ x :: b).length = a.length + 1 + b.length := by simp; omega
  have hlb : (a ++ b).length = a.length + b.length := by simp
  have h := Any.slices_Delete_int_cells delLay g 0 (a ++ x :: b).length cap a.length (a.length + 1) (a ++ x :: b) w (Nat.le_refl _) h3 (by unfold maxLen at h4; omega) (by omega) (by omega)
    (fun j hj => by
      rw [Nat.zero_add, cell_of_row w g j _ _ (0, 0) h1, h6 j hj, List.getElem?_map, List.getD_eq_getElem?_getD, List.getElem?_eq_getElem hj]
      rfl) (fun j _ => frozen_of_row w g _ _ _ h1)
  refine h.mono ?_
  rintro e w' ⟨rfl, q, rfl⟩
  have hnew : ((List.take (a ++ x :: b).length (a ++ x :: b)).take a.length ++ (List.take (a ++ x :: b).length (a ++ x :: b)).drop (a.length + 1) ++ List.replicate (a.length + 1 - a.length) 0).map (Value.int .i64) = ints (a ++ b ++ [0]) := by
    rw [List.take_length, List.take_left' rfl, show a ++ x :: b = (a ++ [x]) ++ b by simp, List.drop_left' (by simp)]
    simp
  rw [hnew]
  have hlen : (a ++ x :: b).length - (a.length + 1 - a.length) = (a ++ b).length := by omega
  refine ⟨by rw [hlen], ?_, ((Fr.refl (One g) w).drewN q).put (fun _ => rfl) _ _⟩
  obtain ⟨cur', k1, k2, k3, _⟩ := setCells_row (ints (a ++ b ++ [0])) 0 (w.drewN q) cur h1
  refine row_of (Nat.zero_le _) k1 (k2.trans h2) (by omega) h4 (by simp) fun j hj => ?_
  have := k3 j (by simp; omega) (by omega)
  rw [Nat.zero_add] at this
  rw [this, List.getElem?_map, List.getElem?_map, List.getElem?_append_left hj]

def RemTo (S : Sg) (x : Int) (S' : Sg) : Prop := S'.Ok ∧ ((getM S.I x).isSome = true → ∃ t a b, t < 3 ∧ S.get t = a ++ x :: b ∧ S' = (S.set t (a ++ b)).gone x) ∧ ((getM S.I x).isSome = false → S' = S)

theorem remove_eq {w : World} {p : Nat} {K : Nat → Prop} {S : Sg} (s : SegAt w p K S) (o : S.Ok) (hn : S.tot ≤ 100000) (x : Int) :
    Calls Try.prog 50 #[.pointer (some ⟨p, 0, none⟩), .int .i64 x] w fun e w' => e = .returned (.bool (getM S.I x).isSome) ∧ ∃ S', SegTo w p K w' S' ∧ RemTo S x S' := by
  have s0 := Lib.hid s
  have O := Lib.hid o
  obtain ⟨ru, ri, V, q, hK⟩ := s
  obtain ⟨c0, c1, c2, c3, c4, ct, fz⟩ := q.cells
  have q' := Lib.hid q
  have HK := Lib.hid hK
  have hz := Try.zeroValue107
  clear hK o q
  cases hi : getM S.I x with
  | none =>
    have HI := Lib.hid hi
    go_enter Try.func50, Try.ntmps50
    go_wp2_with (at_lookup; refine wpList_lookupM rfl _ _ _ rfl (int_key .i64) Try.underlying95 Try.underlying3 (z := 0) (hz _) q'.out.inn rfl x rfl ?_; simp only [HI.out, Option.isSome_none, Option.getD_none, if_true])
    go_ret
    exact ⟨rfl, S, SegTo.refl s0.out, O.out, ⟨(fun h => by rw [HI.out] at h; cases h), fun _ => rfl⟩⟩
  | some v =>
    have HI := Lib.hid hi
    obtain ⟨t, ht, rfl⟩ := O.out.rng x v hi
    have hx := (O.out.inn x t ht).2 hi
    obtain ⟨a, b, hab⟩ := List.append_of_mem hx
    have hnd := O.out.nod t ht
    have hxa : x ∉ a := fun h => by
      rw [hab, List.nodup_append] at hnd
      exact hnd.2.2 x h x (by simp) rfl
    have hle := S.get_le ht
    have hrow := q'.out.rows t ht
    have ctt := ct t ht
    have fzt := fz t
    obtain ⟨g, cap, hv⟩ : ∃ g cap, V t = .slice (some ⟨g, 0, none⟩) (S.get t).length cap := by
      rcases hrow.2 with ⟨_, h0⟩ | ⟨g, cap, _, h, _⟩
      · rw [hab] at h0
        simp at h0
      · exact ⟨g, cap, h⟩
    have hgp : p ≠ g := fun e => (q'.out.sep t g ht (by rw [hv]; rfl)).1 e.symm
    rw [hv] at hrow ctt
    rw [hab] at hrow ctt hle
    obtain ⟨cur, h1, h2, h3, h4, h5, h6⟩ := row_cell hrow
    have hidx := Lib.hid (index_eq (w := w) (g := g) (cap := cap) (b := b) (by omega) hxa (fun j hj => by
      rw [cell_of_row w g j _ _ (0, 0) h1, h6 j hj, List.getElem?_map, List.getD_eq_getElem?_getD, List.getElem?_eq_getElem hj]
      rfl))
    have hdel := Lib.hid (delete_row (w := w.drew) (cap := cap) (by omega) hrow)
    have hal : a.length + 1 ≤ 100000 := by
      simp at hle
      omega
    have t0 : (0 : Int) ≤ (t : Int) := by omega
    have t3 : (t : Int) < 3 := by omega
    have hw1 : IntKind.i64.wrap ((a.length : Int) + 1) = (a.length : Int) + 1 := by rw [IntKind.wrap_i64]; omega
    have R := Lib.hid hrow
    have AB := Lib.hid hab
    have ND := Lib.hid hnd
    have HV := Lib.hid hv
    generalize hL : (a ++ x :: b).length = n at *
    clear hi hab hnd hrow h1 h2 h3 h4 h5 h6 cur hx c0 c1 c2 ct hv
    go_enter Try.func50, Try.ntmps50
    go_wp2_with (first | (at_lookup; refine wpList_lookupM rfl _ _ _ rfl (int_key .i64) Try.underlying95 Try.underlying3 (z := 0) (hz _) q'.out.inn rfl x rfl ?_; simp only [HI.out, Option.isSome_some, Option.getD_some, if_true]) | (go_at_call 64; refine hidx.out.mono ?_; rintro e w1 ⟨rfl, rfl⟩))
    go_region_with (go_at_call 65; refine hdel.out.mono ?_; rintro e w2 ⟨rfl, ho2, f2⟩; have e1 := f2.cell ctt hgp; have e2 := (f2.frozen (p := ⟨p, t, none⟩) (lt_of_block q'.out.top) hgp).trans fzt)
    have hvt : (Value.slice (some ⟨g, 0, none⟩) (a ++ b).length cap).ownBlock = (V t).ownBlock := by rw [HV.out]; rfl
    have st := (q'.out.drew).turn ht (l := a ++ b) (T := One g) f2 (fun k h _ => by rw [HV.out]; exact congrArg some h) ho2 (fun g' hg => .inl (hvt ▸ hg))
    rw [List.length_append] at st
    obtain ⟨W, hW⟩ : ∃ W, W = w2.setCell ⟨p, t, none⟩ (.slice (some ⟨g, 0, none⟩) (a.length + b.length) cap) := ⟨_, rfl⟩
    rw [← hW] at st ⊢
    rw [List.length_append] at hvt
    have sW : SegAt W p K (S.set t (a ++ b)) := ⟨ru, ri, _, st, fun k => (HK.out k).trans (own_turn hvt)⟩
    have fW : Fr K w W := by
      rw [hW]
      refine Fr.setCell ?_ _ (fun _ => (HK.out p).2 (.inl rfl)) _
      exact (Fr.refl K w).drew.trans f2 fun k _ h => (HK.out k).2 (.inr (.inr (.inr ⟨t, ht, by rw [HV.out]; exact congrArg some h.symm⟩)))
    have FW := Lib.hid fW
    have SW := Lib.hid sW
    clear hW st fW sW e1 e2
    go_wp2_with (go_at_call 58; refine (forget_eq SW.out x).mono ?_; rintro e w4 ⟨rfl, g4⟩)
    go_ret
    have hok : ((S.set t (a ++ b)).gone x).Ok := by
      have hnd := ND.out
      rw [AB.out, List.nodup_append, List.nodup_cons] at hnd
      refine O.out.leave ht (by rw [AB.out]; simp) (fun y => ?_) ?_ (by rw [AB.out]; simp; omega)
      · rw [AB.out, List.mem_append, List.mem_append, List.mem_cons]
        constructor
        · rintro (h | h)
          · exact ⟨.inl h, fun e => hxa (e ▸ h)⟩
          · exact ⟨.inr (.inr h), fun e => hnd.2.1.1 (e ▸ h)⟩
        · rintro ⟨h | h | h, h2⟩
          · exact .inl h
          · exact absurd h h2
          · exact .inr h
      · rw [List.nodup_append]
        exact ⟨hnd.1, hnd.2.1.2, fun y hy z hz => hnd.2.2 y hy z (List.mem_cons_of_mem _ hz)⟩
    exact ⟨rfl, _, SegTo.go FW.out (fun _ h => .inl h) g4, hok, ⟨fun _ => ⟨t, a, b, ht, AB.out, rfl⟩, (fun h => by rw [HI.out] at h; cases h)⟩⟩

end Go.Proofs.Ytpbbokpmlemboaa

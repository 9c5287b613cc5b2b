/-
  The law DramKeeps, walked.
-/
import Derived.Test.YtpbbokpmlemboaaDramRoom
import Derived.Test.YtpbbokpmlemboaaDrWo
namespace Go.Proofs.Ytpbbokpmlemboaa
open Go.RowKit Sl

def keysI (l : List It) : List ByteArray := l.map It.key
/-- What the law knows of its list. -/
structure Keep (C : DC) (l : List It) : Prop where
  look : ∀ x, x ∈ l → C.look x.key = some (x, false)
  nd : (keysI l).Nodup
  len : l.length = C.M.length
  all : ∀ k o, C.look k = some o → k ∈ keysI l
  in_ : ∀ x, x ∈ l → x.in_

def outL (l : List It) : List Ou → List It
  | [] => l
  | o :: os => outL (wo l o.1.key) os
theorem outL_snoc (l : List It) (os : List Ou) (o : Ou) : outL l (os ++ [o]) = wo (outL l os) o.1.key := by
  induction os generalizing l with
  | nil => rfl
  | cons p os ih => exact ih _
theorem wo_mem {l : List It} {k : ByteArray} {x : It} : x ∈ wo l k ↔ x ∈ l ∧ x.key ≠ k := by
  unfold wo
  rw [List.mem_filter, decide_eq_true_eq]
theorem wo_nd {l : List It} {k : ByteArray} (h : (keysI l).Nodup) : (keysI (wo l k)).Nodup := h.sublist ((List.filter_sublist (l := l)).map It.key)
theorem wo_keys {l : List It} {k q : ByteArray} : q ∈ keysI (wo l k) ↔ q ∈ keysI l ∧ q ≠ k := by
  unfold keysI
  constructor
  · intro h
    obtain ⟨x, hx, rfl⟩ := List.mem_map.1 h
    obtain ⟨h1, h2⟩ := wo_mem.1 hx
    exact ⟨List.mem_map.2 ⟨x, h1, rfl⟩, h2⟩
  · rintro ⟨h, h2⟩
    obtain ⟨x, hx, rfl⟩ := List.mem_map.1 h
    exact List.mem_map.2 ⟨x, wo_mem.2 ⟨hx, h2⟩, rfl⟩
theorem wo_none {l : List It} {k : ByteArray} (h : k ∉ keysI l) : wo l k = l := by
  unfold wo
  rw [List.filter_eq_self]
  intro x hx
  simp only [decide_eq_true_eq]
  exact fun e => h (e ▸ List.mem_map.2 ⟨x, hx, rfl⟩)
theorem wo_len : ∀ {l : List It} {k : ByteArray}, (keysI l).Nodup → k ∈ keysI l → (wo l k).length + 1 = l.length
  | [], k, _, h => by cases h
  | x :: l, k, hn, h => by
    have hn2 : x.key ∉ keysI l ∧ (keysI l).Nodup := List.nodup_cons.1 hn
    by_cases e : x.key = k
    · have : wo (x :: l) k = wo l k := by
        unfold wo
        rw [List.filter_cons, if_neg (by simp [e])]
      rw [this, wo_none (by rw [← e]; exact hn2.1)]
      rfl
    · have h2 : k ∈ keysI l := by
        rcases List.mem_cons.1 (show k ∈ x.key :: keysI l from h) with h2 | h2
        · exact absurd h2.symm e
        · exact h2
      have : wo (x :: l) k = x :: wo l k := by
        unfold wo
        rw [List.filter_cons, if_pos (by simp [e])]
      have ih := wo_len hn2.2 h2
      rw [this, List.length_cons, List.length_cons]
      omega
theorem outL_mem {l : List It} {x : It} : ∀ {os : List Ou}, x ∈ outL l os ↔ x ∈ l ∧ x.key ∉ keysO os := by
  intro os
  induction os generalizing l with
  | nil => simp [outL, keysO]
  | cons o os ih =>
    show x ∈ outL (wo l o.1.key) os ↔ _
    rw [ih, wo_mem]
    show (x ∈ l ∧ x.key ≠ o.1.key) ∧ x.key ∉ keysO os ↔ x ∈ l ∧ x.key ∉ o.1.key :: keysO os
    rw [List.mem_cons, not_or, and_assoc]
theorem outL_nd {l : List It} : ∀ {os : List Ou}, (keysI l).Nodup → (keysI (outL l os)).Nodup := by
  intro os
  induction os generalizing l with
  | nil => exact fun h => h
  | cons o os ih => exact fun h => ih (wo_nd h)
theorem outL_keys {l : List It} {q : ByteArray} {os : List Ou} : q ∈ keysI (outL l os) ↔ q ∈ keysI l ∧ q ∉ keysO os := by
  unfold keysI
  constructor
  · intro h
    obtain ⟨x, hx, rfl⟩ := List.mem_map.1 h
    obtain ⟨h1, h2⟩ := outL_mem.1 hx
    exact ⟨List.mem_map.2 ⟨x, h1, rfl⟩, h2⟩
  · rintro ⟨h, h2⟩
    obtain ⟨x, hx, rfl⟩ := List.mem_map.1 h
    exact List.mem_map.2 ⟨x, outL_mem.2 ⟨hx, h2⟩, rfl⟩
theorem outL_len {l : List It} : ∀ {os : List Ou}, (keysI l).Nodup → (keysO os).Nodup → (∀ o, o ∈ os → o.1.key ∈ keysI l) → (outL l os).length + os.length = l.length := by
  intro os
  induction os generalizing l with
  | nil => exact fun _ _ _ => rfl
  | cons o os ih =>
    intro hn ho hm
    have ho2 : o.1.key ∉ keysO os ∧ (keysO os).Nodup := List.nodup_cons.1 ho
    have h1 := wo_len hn (hm o List.mem_cons_self)
    have h2 := ih (l := wo l o.1.key) (wo_nd hn) ho2.2 fun p hp => wo_keys.2 ⟨hm p (List.mem_cons_of_mem _ hp), fun e => ho2.1 (e ▸ List.mem_map.2 ⟨p, hp, rfl⟩)⟩
    show (outL (wo l o.1.key) os).length + (os.length + 1) = _
    omega

section
variable {C C' : DC} {l : List It} {z : It} {os : List Ou}
/-- Each thing that was let go is in the law's list. -/
theorem Keep.had (h : Keep C l) (t : PutTold C z false os C') {q : Nat} {o : Ou} (hq : os[q]? = some o) : (wo (outL (wo l z.key) (os.take q)) o.1.key).length + 1 = (outL (wo l z.key) (os.take q)).length := by
  refine wo_len (outL_nd (wo_nd h.nd)) (outL_keys.2 ⟨wo_keys.2 ⟨h.all _ _ (t.had o (List.mem_of_getElem? hq)).1, (t.had o (List.mem_of_getElem? hq)).2⟩, fun hm => ?_⟩)
  obtain ⟨p, hp, e⟩ := List.mem_map.1 hm
  have hql := (List.getElem?_eq_some_iff.1 hq).1
  have hsplit : os = os.take q ++ o :: os.drop (q + 1) := by
    have h1 := (List.take_append_drop q os).symm
    have h2 := List.drop_eq_getElem_cons hql
    rw [h2] at h1
    rwa [(List.getElem?_eq_some_iff.1 hq).2] at h1
  have hnd := t.nd
  rw [hsplit] at hnd
  unfold keysO at hnd
  rw [List.map_append, List.nodup_append] at hnd
  exact hnd.2.2 _ (List.mem_map.2 ⟨p, hp, rfl⟩) _ (by simp) e
theorem Keep.step (h : Keep C l) (t : PutTold C z false os C') (hz : z.in_) : Keep C' (outL (wo l z.key) os ++ [z]) := by
  have mem : ∀ x, x ∈ outL (wo l z.key) os → x ∈ l ∧ x.key ≠ z.key ∧ x.key ∉ keysO os := fun x hx => by
    obtain ⟨h1, h2⟩ := outL_mem.1 hx
    obtain ⟨h3, h4⟩ := wo_mem.1 h1
    exact ⟨h3, h4, h2⟩
  refine ⟨fun x hx => ?_, ?_, ?_, fun k o ho => ?_, fun x hx => ?_⟩
  · rw [t.look]
    rcases List.mem_append.1 hx with hx | hx
    · obtain ⟨h1, h2, h3⟩ := mem x hx
      rw [if_neg h2, if_neg h3]
      exact h.look x h1
    · have : x = z := by simpa using hx
      subst this
      rw [if_pos rfl]
  · unfold keysI
    rw [List.map_append, List.nodup_append]
    refine ⟨outL_nd (wo_nd h.nd), by simp, fun a ha b hb e => ?_⟩
    obtain ⟨x, hx, rfl⟩ := List.mem_map.1 ha
    have : b = z.key := by simpa using hb
    exact (mem x hx).2.1 (e.trans this)
  · have h1 := outL_len (l := wo l z.key) (os := os) (wo_nd h.nd) t.nd fun o ho => wo_keys.2 ⟨h.all _ _ (t.had o ho).1, (t.had o ho).2⟩
    have h2 := t.len
    have h3 := h.len
    rw [List.length_append, List.length_singleton]
    cases hl : C.look z.key with
    | none =>
      have h4 : z.key ∉ keysI l := fun hm => by
        obtain ⟨x, hx, e⟩ := List.mem_map.1 hm
        have := h.look x hx
        rw [e, hl] at this
        cases this
      rw [wo_none h4] at h1 ⊢
      rw [hl] at h2
      simp only [Option.isSome_none, Bool.false_eq_true, if_false] at h2
      omega
    | some o =>
      have h4 := wo_len h.nd (h.all _ _ hl)
      rw [hl] at h2
      simp only [Option.isSome_some, if_true] at h2
      omega
  · rw [t.look] at ho
    unfold keysI
    rw [List.map_append, List.mem_append]
    split at ho
    · rename_i e
      exact .inr (by simp [e])
    · rename_i e
      split at ho
      · cases ho
      · rename_i e2
        exact .inl (outL_keys.2 ⟨wo_keys.2 ⟨h.all _ _ ho, e⟩, e2⟩)
  · rcases List.mem_append.1 hx with hx | hx
    · exact h.in_ x (mem x hx).1
    · have : x = z := by simpa using hx
      subst this
      exact hz
theorem Keep.start (n : Nat) : Keep (newC n) [] := ⟨fun x h => (by cases h), List.nodup_nil, rfl, fun k o h => (by cases h), fun x h => (by cases h)⟩
end

theorem outsV_at : ∀ (l : List Ou) (j : Nat) (o : Ou), l[j]? = some o → (outsV l)[j * 6]? = some (.string o.1.key)
  | [], j, z, h => by cases h
  | x :: l, 0, z, h => by
    have : x = z := by simpa using h
    subst this
    rfl
  | x :: l, j + 1, z, h => by
    have := outsV_at l j z (by simpa using h)
    rw [show (j + 1) * 6 = j * 6 + 6 by omega]
    simpa [outsV] using this
theorem row_ouk {w : World} {base cap n : Nat} {A : Option Addr} {os : List Ou} (h : w.ownsRow base 42 6 (.slice A n cap) n (outsV os)) {j : Nat} {o : Ou} (ho : os[j]? = some o) :
    ∃ g, A = some ⟨g, 0, none⟩ ∧ w.cell? ⟨g, j * 6, none⟩ = some (.string o.1.key) := by
  have h0 := h
  have a0 := outsV_at os j o ho
  rcases h.2 with ⟨_, hn⟩ | ⟨g, c, cur, e, _⟩
  · have := h.1
    rw [hn, Nat.zero_mul, outsV_len] at this
    have h2 := (List.getElem?_eq_some_iff.1 ho).1
    omega
  · simp only [Value.slice.injEq] at e
    obtain ⟨rfl, _, _⟩ := e
    have g1 := h0.cells (g := g) rfl _ _ a0
    rw [Addr.add_lit, Nat.zero_add] at g1
    exact ⟨g, rfl, g1⟩

set_option maxHeartbeats 8000000 in
set_option maxRecDepth 100000 in
theorem dramKeeps_in (m : Nat) (A : Option Addr) (n cap : Nat) (z : List It) (w : World) (hm1 : 1 ≤ m) (hm2 : m ≤ 6) (hn : n ≤ 60) (hz : InI w A n cap z) :
    Calls Try.prog 5 #[.int .i64 m, .slice A n cap] w fun e w' => e = .returned (.bool true) ∧ Fr Nob w w' := by
  have e1 : ¬ (m : Int) < 1 := by omega
  have e2 : ¬ 6 < (m : Int) := by omega
  have e3 : ¬ 60 < (n : Int) := by omega
  have HZ := Lib.hid hz
  clear hz
  go_enter Try.func5, Try.ntmps5
  go_wp2_with fail
  refine (awake_ok w).mono ?_
  rintro e w1 ⟨rfl, f1⟩
  have F1 := Lib.hid f1
  clear f1
  go_wp2_with fail
  refine (DW.new (X := fun k => (Value.slice none 0 0).ownBlock = some k) m F1.out (by omega) (by omega) (fun _ h => by cases h)).mono ?_
  rintro e w2 ⟨c, rfl, d2, -⟩
  clear F1
  go_wp2_with fail
  go_loopw [7, 8, 9, 10, 11, 12] (fun v i _ _ _ _ wr => ∃ j : Nat, j ≤ n ∧ i = .int .i64 j ∧ ∃ C l, l.length ≤ j ∧ Hid (DW w wr c C fun k => v.ownBlock = some k) ∧ Hid (wr.ownsRow w.heap.size 33 5 v l.length (itsV l)) ∧ Hid (Keep C l)) (fun _ i _ _ _ _ _ => n - (Lib.intOf i).toNat)
  case atStart => exact ⟨0, Nat.zero_le _, rfl, newC m, [], Nat.le_refl _, d2, Lib.hid (World.ownsRow_nil _ _ _ _), Lib.hid (Keep.start m)⟩
  case round =>
    clear d2
    obtain ⟨j, hj, rfl, C, l, hlj, D, R, K⟩ := hrel
    by_cases hlt : j < n
    · have hlt2 : (j : Int) < (n : Int) := by omega
      obtain ⟨g, o, z1, rfl, hz1, ⟨q0, q1, q2, q3, q4⟩, hin⟩ := HZ.out.cell D.out.fr hlt
      obtain ⟨xk, xv, xf, xe, xr⟩ := z1
      have HIN := Lib.hid hin
      clear hin
      by_cases hg : goodI ⟨xk, xv, xf, xe, xr⟩ = true
      · go_wp2_with fail
        refine (D.out.put xk xv xf xe xr false hg).mono ?_
        rintro e w3 ⟨r, os, C2, rfl, pt, d3, row, f3⟩
        have TD := Lib.hid (pt.out.told hg D.out.ok)
        have R3 := Lib.hid (f3.out.row R.out fun k hk => hk)
        obtain ⟨Ar, cr, rfl⟩ := own_form row.out
        have hol : os.length ≤ 400 := by
          have h1 := TD.out.len
          have h2 := K.out.len
          split at h1 <;> omega
        clear q0 q1 q2 q3 q4 pt f3 D R
        obtain ⟨_, _, z2, e', hz2, ⟨q0, q1, q2, q3, q4⟩, _⟩ := HZ.out.cell d3.out.fr hlt
        rw [hz1] at hz2
        have hz2 := Option.some.inj hz2
        subst hz2
        simp only [Option.some.injEq, Addr.mk.injEq, and_true] at e'
        obtain ⟨rfl, rfl⟩ := e'
        go_wp2_with fail
        refine (without_eq R3.out (by omega) xk).mono ?_
        rintro e w4 ⟨v7, rfl, row7, f4⟩
        have R4 := Lib.hid (row_base6 (B := w.heap.size) (by have := d3.out.fr.size; omega) row7)
        have d4 := Lib.hid ((d3.out.more f4 (Y := fun b => v7.ownBlock = some b) fun b hb => row7.lt b hb).less (Y := fun b => v7.ownBlock = some b ∨ (Value.slice Ar os.length cr).ownBlock = some b) fun b hb => hb.elim .inr fun h => .inl (.inr h))
        have O4 := Lib.hid (f4.ownsRow row.out fun _ _ h => h)
        obtain ⟨l1, hl1⟩ : ∃ l1, wo l xk = l1 := ⟨_, rfl⟩
        have HL1 := Lib.hid hl1
        have hl1n : l1.length ≤ 60 := by
          have h2 : (wo l xk).length ≤ l.length := List.length_filter_le _ _
          rw [← hl1]; omega
        rw [hl1] at R4
        clear row7 f4 d3 row q0 q1 q2 q3 q4 R3 hl1
        go_wp2_with fail
        go_loopw [7, 11, 12] (fun v k _ wq => ∃ q : Nat, q ≤ os.length ∧ k = .int .i64 q ∧ Hid (DW w wq c C2 fun b => v.ownBlock = some b ∨ (Value.slice Ar os.length cr).ownBlock = some b) ∧ Hid (wq.ownsRow w.heap.size 33 5 v (outL l1 (os.take q)).length (itsV (outL l1 (os.take q)))) ∧ Hid (wq.ownsRow 0 42 6 (.slice Ar os.length cr) os.length (outsV os)) ∧ (outL l1 (os.take q)).length ≤ 60) (fun _ k _ _ => os.length - (Lib.intOf k).toNat)
        case atStart => exact ⟨0, Nat.zero_le _, rfl, d4, by simpa [outL] using R4, Lib.hid (row_base6 (Nat.zero_le _) O4.out), by simpa [outL] using hl1n⟩
        case round =>
          clear d4 R4 O4
          obtain ⟨q, hq, rfl, D, R, O, hln⟩ := hrel
          by_cases hqlt : q < os.length
          · have hqlt2 : (q : Int) < (os.length : Int) := by omega
            obtain ⟨p, hp⟩ : ∃ p, os[q]? = some p := ⟨os[q], List.getElem?_eq_getElem hqlt⟩
            obtain ⟨g2, rfl, c0⟩ := row_ouk O.out hp
            have hhad := K.out.had TD.out hp
            rw [show (⟨xk, xv, xf, xe, xr⟩ : It).key = xk from rfl, HL1.out] at hhad
            have TS : Hid (outL l1 (os.take (q + 1)) = wo (outL l1 (os.take q)) p.1.key) := Lib.hid (by rw [List.take_add_one, hp]; exact outL_snoc _ _ _)
            obtain ⟨Av, cv, hv⟩ := own_form R.out
            subst hv
            generalize p.1.key = pk at *
            generalize outL l1 (os.take q) = l2 at *
            have nn : ((wo l2 pk).length : Int) = (l2.length : Int) - 1 := by omega
            have nn2 : (((wo l2 pk).length : Int) != (l2.length : Int) - 1) = false := by rw [nn]; simp
            clear hp
            go_wp2_with fail
            refine (without_eq R.out (by omega) pk).mono ?_
            rintro e w5 ⟨v8, rfl, row8, f5⟩
            have R5 : Hid (w5.ownsRow w.heap.size 33 5 v8 (outL l1 (os.take (q + 1))).length (itsV (outL l1 (os.take (q + 1))))) := Lib.hid (by
              rw [TS.out]
              exact row_base6 (B := w.heap.size) (by have := D.out.fr.size; omega) row8)
            have d5 := Lib.hid ((D.out.more f5 (Y := fun b => v8.ownBlock = some b) fun b hb => row8.lt b hb).less (Y := fun b => v8.ownBlock = some b ∨ (Value.slice (some ⟨g2, 0, none⟩) os.length cr).ownBlock = some b) fun b hb => hb.elim .inr fun h => .inl (.inr h))
            have O5 := Lib.hid (f5.ownsRow O.out fun _ _ h => h)
            have L5 : (outL l1 (os.take (q + 1))).length ≤ 60 := by rw [TS.out]; omega
            obtain ⟨A8, c8, rfl⟩ := own_form row8
            clear row8 f5 D R O c0 TS
            go_wp2_with fail
            go_roundw
            case rel => exact ⟨q + 1, by omega, by go_num, d5, R5, O5, L5⟩
            case measure => simp [Lib.intOf]; omega
          · have hqe : q = os.length := by omega
            subst hqe
            have hqlt2 : ¬ (os.length : Int) < (os.length : Int) := by omega
            rw [List.take_length] at R hln
            have KS := Lib.hid (K.out.step TD.out HIN.out)
            rw [show (⟨xk, xv, xf, xe, xr⟩ : It).key = xk from rfl, HL1.out] at KS
            have hstep : (outL l1 os).length + 1 ≤ j + 1 := by
              have h1 := KS.out.len
              have h2 := TD.out.len
              have h3 := K.out.len
              have h4 : (outL l1 os).length ≤ l.length := by
                have hsub : ∀ (os : List Ou) (l : List It), (outL l os).length ≤ l.length := by
                  intro os
                  induction os with
                  | nil => exact fun l => Nat.le_refl _
                  | cons p os ih => exact fun l => Nat.le_trans (ih _) (List.length_filter_le _ _)
                have h5 := hsub os l1
                have h6 : (wo l xk).length ≤ l.length := List.length_filter_le _ _
                rw [HL1.out] at h6
                omega
              omega
            obtain ⟨_, _, z3, e', hz3, ⟨q0, q1, q2, q3, q4⟩, _⟩ := HZ.out.cell D.out.fr hlt
            rw [hz1] at hz3
            have hz3 := Option.some.inj hz3
            subst hz3
            simp only [Option.some.injEq, Addr.mk.injEq, and_true] at e'
            obtain ⟨rfl, rfl⟩ := e'
            have fb := (Fr.refl Nob wr).alloc (.cells #[.string xk, .string xv, .int .u32 xf, .int .i64 xe, .int .u64 xr] 33)
            have h24 := heap_alloc_new wr (.cells #[.string xk, .string xv, .int .u32 xf, .int .i64 xe, .int .u64 xr] 33)
            have RF := Lib.hid (fb.ownsRow R.out fun _ _ h => h)
            have NEWS : Hid (∀ (i : Nat) (u : Value), [Value.string xk, .string xv, .int .u32 xf, .int .i64 xe, .int .u64 xr][i]? = some u → (wr.alloc (.cells #[.string xk, .string xv, .int .u32 xf, .int .i64 xe, .int .u64 xr] 33)).cell? ((⟨wr.heap.size, 0, none⟩ : Addr).add i) = some u) := Lib.hid fun i u h => by
              rw [Addr.add_lit, Nat.zero_add, cell_of_row _ wr.heap.size i _ _ (0, 0) h24, ← Array.getElem?_toList]
              exact h
            have ONE : Hid (∀ u ∈ [Value.string xk, .string xv, .int .u32 xf, .int .i64 xe, .int .u64 xr], u.oneCell' = true) := Lib.hid fun u hu => by
              simp only [List.mem_cons, List.not_mem_nil, or_false] at hu
              rcases hu with rfl | rfl | rfl | rfl | rfl <;> rfl
            have hbase : w.heap.size ≤ (wr.alloc (.cells #[.string xk, .string xv, .int .u32 xf, .int .i64 xe, .int .u64 xr] 33)).heap.size := Nat.le_trans D.out.fr.size fb.size
            have FB := Lib.hid fb
            clear fb h24 K TD HIN
            go_wp2_with (with_reducible refine wpList_app (o := ⟨some 87, _, _, _, _, _⟩) rfl (.tmp 81) (.tmp 86) 47 rfl 33 zeroJ 5 56 Try.underlying47 item_info rfl (by omega) w.heap.size u7 (outL l1 os).length (itsV (outL l1 os)) rfl RF.out ⟨wr.heap.size, 0, none⟩ 1 1 [.string xk, .string xv, .int .u32 xf, .int .i64 xe, .int .u64 xr] rfl rfl NEWS.out ONE.out (by omega) (by omega) hbase ?_)
            intro r' w5 o6 f6 hor
            have F6 : Hid (Fr (fun b => u7.ownBlock = some b ∨ (Value.slice Ar os.length cr).ownBlock = some b) wr w5) := Lib.hid (FB.out.nob.trans f6.out fun b hb h => .inl h)
            have D6 : Hid (DW w w5 c C2 fun b => r'.ownBlock = some b) := Lib.hid (by
              refine (D.out.less (Y := fun b => u7.ownBlock = some b) fun b h => .inl h).own (FB.out.nob.trans f6.out fun b hb h => h) (fun b h => (R.out.lt b h).1) (fun b hb => ?_) fun b hb => (o6.out.lt b hb).2
              rcases hor.out with h | h
              · exact .inl (h ▸ hb)
              · rw [hb] at h
                have h := Option.some.inj h
                have := FB.out.size
                exact .inr (by omega))
            have R6 : Hid (w5.ownsRow w.heap.size 33 5 r' (outL l1 os ++ [(⟨xk, xv, xf, xe, xr⟩ : It)]).length (itsV (outL l1 os ++ [(⟨xk, xv, xf, xe, xr⟩ : It)]))) := Lib.hid (by
              rw [itsV_app, List.length_append]
              exact o6.out)
            have L6 : (outL l1 os ++ [(⟨xk, xv, xf, xe, xr⟩ : It)]).length ≤ j + 1 := by rw [List.length_append, List.length_singleton]; exact hstep
            clear o6 f6 hor NEWS ONE hbase RF R D FB F6 q0 q1 q2 q3 q4 O
            go_wp2_with fail
            go_roundw
            case rel => exact ⟨j + 1, by omega, by go_num, C2, _, L6, D6, R6, KS⟩
            case measure => simp [Lib.intOf]; omega
      · have hg : goodI ⟨xk, xv, xf, xe, xr⟩ = false := by simpa using hg
        go_wp2_with fail
        refine (put_bad xk xv xf xe xr false hg).mono ?_
        rintro e w3 ⟨rfl, f3⟩
        have D3 := Lib.hid (D.out.nob f3)
        have R3 := Lib.hid (f3.ownsRow R.out fun _ _ h => h)
        clear f3 D R q0 q1 q2 q3 q4
        go_wp2_with fail
        go_roundw
        case rel => exact ⟨j + 1, by omega, by go_num, C, l, by omega, D3, R3, K⟩
        case measure => simp [Lib.intOf]; omega
    · obtain ⟨Av, cv, hv⟩ := own_form R.out
      subst hv
      go_wp2_with fail
      go_loopw [13, 14, 15] (fun i _ _ wq => ∃ q : Nat, q ≤ l.length ∧ i = .int .i64 q ∧ Hid (DW w wq c C Nob) ∧ Hid (wq.ownsRow w.heap.size 33 5 (.slice Av l.length cv) l.length (itsV l))) (fun i _ _ _ => l.length - (Lib.intOf i).toNat)
      case atStart => exact ⟨0, Nat.zero_le _, rfl, Lib.hid (D.out.less fun _ h => h.elim), R⟩
      case round =>
        clear D R
        obtain ⟨q, hq, rfl, D, R⟩ := hrel
        by_cases hqlt : q < l.length
        · have hqlt2 : (q : Int) < (l.length : Int) := by omega
          obtain ⟨x, hx⟩ : ∃ x, l[q]? = some x := ⟨l[q], List.getElem?_eq_getElem hqlt⟩
          have hxm := List.mem_of_getElem? hx
          have LK := Lib.hid (K.out.look x hxm)
          have hks := (K.out.in_ x hxm).1
          obtain ⟨g2, rfl, q0, q1, q2, q3, q4⟩ := row_it R.out hx
          obtain ⟨xk, xv, xf, xe, xr⟩ := x
          clear hxm hx
          go_wp2_with fail
          refine (D.out.peek_some (o := ((⟨xk, xv, xf, xe, xr⟩ : It), false)) xk hks LK.out).mono ?_
          rintro e w3 ⟨rfl, f3⟩
          have f4 := f3.trans' ((Fr.refl Nob w3).alloc (.cells #[.string xk, .string xv, .int .u32 xf, .int .i64 xe, .int .u64 xr, .bool false] 42))
          have a4 := heap_alloc_new w3 (.cells #[.string xk, .string xv, .int .u32 xf, .int .i64 xe, .int .u64 xr, .bool false] 42)
          have D4 := Lib.hid (D.out.nob f4)
          have R4 := Lib.hid (f4.ownsRow R.out fun _ _ h => h)
          have t0 := f4.cell q0 fun h => h
          have t1 := f4.cell q1 fun h => h
          have t2 := f4.cell q2 fun h => h
          have t3 := f4.cell q3 fun h => h
          have t4 := f4.cell q4 fun h => h
          clear f3 f4 D R q0 q1 q2 q3 q4
          go_upto_region 27 with fail
          generalize w3.alloc (.cells #[.string xk, .string xv, .int .u32 xf, .int .i64 xe, .int .u64 xr, .bool false] 42) = w4 at *
          obtain ⟨s0, s1, s2, s3, s4, s5, sz⟩ := box6 a4
          have E1 := item_sameN xk xv xf xe xr
          clear sz
          go_wp2_with fail
          go_quiet (fail)
          go_wp2_with fail
          go_roundw
          case rel => exact ⟨q + 1, by omega, by go_num, Lib.hid (D4.out.nob ((Fr.refl Nob w4).drewN _)), Lib.hid (((Fr.refl Nob w4).drewN _).ownsRow R4.out fun _ _ h => h)⟩
          case measure => simp [Lib.intOf]; omega
        · have ln := K.out.len
          have lnE : (C.M.length : Int) = (l.length : Int) := by omega
          go_wp2_with fail
          refine D.out.len.mono ?_
          rintro e w' ⟨rfl, rfl⟩
          go_wp2_with fail
          go_ret
          exact ⟨ret_bool (by simp), D.out.fr⟩

set_option maxHeartbeats 3200000 in
set_option maxRecDepth 100000 in
theorem dramKeeps_walk (m : Int) (A : Option Addr) (n cap : Nat) (z : List It) (w : World) (_hm : (Lit.int .i64 m).wf = true) (hz : InI w A n cap z) :
    Calls Try.prog 5 #[.int .i64 m, .slice A n cap] w fun e w' => e = .returned (.bool true) ∧ Fr Nob w w' := by
  by_cases hin : ¬ m < 1 ∧ ¬ 6 < m ∧ ¬ 60 < (n : Int)
  · obtain ⟨h1, h2, h3⟩ := hin
    obtain ⟨m, rfl⟩ := Int.eq_ofNat_of_zero_le (show 0 ≤ m by omega)
    exact dramKeeps_in m A n cap z w (by omega) (by omega) (by omega) hz
  · have hor := first_bad3 hin
    clear hin _hm hz
    rcases hor with h | ⟨h1, h⟩ | ⟨h1, h2, h⟩
    all_goals
      go_enter Try.func5, Try.ntmps5
      go_wp2_with fail
      refine (awake_ok w).mono ?_
      rintro e w0 ⟨rfl, f0⟩
      have f0 := Lib.hid f0
      go_wp2_with fail
      go_ret
      exact ⟨rfl, f0.out⟩
end Go.Proofs.Ytpbbokpmlemboaa

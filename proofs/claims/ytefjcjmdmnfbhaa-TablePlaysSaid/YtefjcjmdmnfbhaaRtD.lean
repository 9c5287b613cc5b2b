/-
  The reference's table: contract of move.
-/
import Derived.Test.YtefjcjmdmnfbhaaRtC
namespace Go.Proofs.Ytefjcjmdmnfbhaa
open Go.RowKit

section
variable {w w' : World} {W t gn go next : Nat} {nw od : List (List ByteArray)} {vo kv vv : Value} {m : List (ByteArray × Int)}
theorem RIn.setOld (s : RIn w W t gn nw (.slice (some ⟨go, 0, none⟩) od.length od.length) od next kv vv m) (hne : go ≠ gn) (h : RowsAt w W kv go od) {b : Nat} {u : Value} {l' : List ByteArray} (hb : b < od.length) (hu : InR w W kv u l') :
    RIn (w.setCell ⟨go, b, none⟩ u) W t gn nw (.slice (some ⟨go, 0, none⟩) od.length od.length) (od.set b l') next kv vv m := by
  have fs : Fr (One go) w (w.setCell ⟨go, b, none⟩ u) := (Fr.refl _ _).set1 _
  have h' := h.set hb (Fr.refl _ _) hu
  obtain ⟨hWg, cs, c, _⟩ := h
  refine ⟨fs.heap s.hd (types_ne s.hd c (by decide)), s.nws.keep fs (Ne.symm hne) fun k cs2 c2 _ => types_ne c2 c (by decide), .inr ⟨go, by rw [List.length_set], hne, h'⟩, ?_, ?_, s.lo⟩
  · exact fs.ownsRow s.ks fun k e e2 => ownsRow_ne s.ks c (by decide) (by rw [e]; exact congrArg some e2)
  · exact fs.ownsRow s.vs fun k e e2 => ownsRow_ne s.vs c (by decide) (by rw [e]; exact congrArg some e2)
theorem RIn.setHd (s : RIn w W t gn nw vo od next kv vv m) {i next' : Nat} {v : Value}
    (h : (#[Value.slice (some ⟨gn, 0, none⟩) nw.length nw.length, vo, .int .i64 next, kv, vv] : Array Value).setIfInBounds i v = #[.slice (some ⟨gn, 0, none⟩) nw.length nw.length, vo, .int .i64 next', kv, vv]) :
    RIn (w.setCell ⟨t, i, none⟩ v) W t gn nw vo od next' kv vv m := by
  have fs : Fr (One t) w (w.setCell ⟨t, i, none⟩ v) := (Fr.refl _ _).set1 _
  refine ⟨?_, s.nws.keep fs ?_ fun k cs2 c2 _ => types_ne c2 s.hd (by decide), s.ods.keep fs (fun k cs2 _ c2 => types_ne c2 s.hd (by decide)) fun k cs2 c2 _ => types_ne c2 s.hd (by decide), ?_, ?_, s.lo⟩
  · rw [← h]
    exact heap_setCell_same w t i _ _ v s.hd
  · obtain ⟨_, cs, c, _⟩ := s.nws
    exact types_ne c s.hd (by decide)
  · exact fs.ownsRow s.ks fun k e e2 => ownsRow_ne s.ks s.hd (by decide) (by rw [e]; exact congrArg some e2)
  · exact fs.ownsRow s.vs fun k e e2 => ownsRow_ne s.vs s.hd (by decide) (by rw [e]; exact congrArg some e2)
/-- Blocks of the reference's table that lie behind W. -/
def RW (W : Nat) (w : World) (k : Nat) : Prop := RB w k ∧ W ≤ k
theorem RowsAt.rw {w : World} {W : Nat} {kv : Value} {g : Nat} {ll : List (List ByteArray)} (h : RowsAt w W kv g ll) : RW W w g := ⟨h.rb, h.1⟩
theorem own_rw {w : World} {W : Nat} {e : TypeId} {n size : Nat} {v : Value} {xs : List Value} (h : w.ownsRow W e size v n xs) (he : e = 9 ∨ e = 3) {k : Nat} (hk : v.ownBlock = some k) : RW W w k := ⟨own_rb h he hk, (h.lt k hk).1⟩
theorem One.rb {k : Nat} (h : RB w k) : ∀ i, One k i → RB w i := fun i e => by unfold One at e; subst e; exact h
theorem Fr.rb {X : Nat → Prop} (f : Fr X w w') (h : ∀ i, i < w.heap.size → X i → RB w i) : Fr (RB w) w w' := f.mono h
theorem RIn.rbt (s : RIn w W t gn nw vo od next kv vv m) : RB w t := ⟨_, _, s.hd, .inl rfl⟩
theorem RIn.rwt (s : RIn w W t gn nw vo od next kv vv m) : RW W w t := ⟨s.rbt, s.lo⟩
/-- What is of this kind later was so, or is new. -/
theorem fold_flat (c : List ByteArray) (now : List (List ByteArray)) (h : 0 < now.length) : (c.foldl pushK now).flatten.length = c.length + now.flatten.length := by
  rw [(fold_perm c now h).length_eq, List.length_append]

set_option maxHeartbeats 8000000 in
set_option maxRecDepth 100000 in
theorem rmove_idle (s : RIn w W t gn nw vo od next kv vv m) (h : od.length ≤ next) :
    Calls Try.prog 34 #[.pointer (some ⟨t, 0, none⟩)] w fun e w' => e = .returned (.tuple #[]) ∧ ∃ q, w' = w.drewN q := by
  obtain ⟨A, rfl⟩ := s.ods.sl
  have d1 : w.cell? ⟨t, 1, none⟩ = some (.slice A od.length od.length) := cell_of_row w t 1 _ _ (0, 0) s.hd
  have d2 : w.cell? ⟨t, 2, none⟩ = some (.int .i64 next) := cell_of_row w t 2 _ _ (0, 0) s.hd
  have h1 : (od.length : Int) ≤ (next : Int) := by omega
  clear s h
  go_enter Try.func34, Try.ntmps34
  go_wp2_with fail
  go_quiet (fail)
  go_wp2_with fail
  refine bodyPost_ret (results_none rfl _ _ _) rfl ?_
  exact ⟨rfl, _, rfl⟩

set_option maxHeartbeats 8000000 in
set_option maxRecDepth 100000 in
theorem rmove_eq (s : RIn w W t gn nw vo od next kv vv m) (h : next < od.length) (ho : od.length ≤ 65536) (h0 : 0 < nw.length) (hb : nw.length ≤ 131072) (hl : (od.getD next []).length + nw.flatten.length ≤ 1000001) (hks : ∀ k, k ∈ od.getD next [] → k.size < 9223372036854775808) (hW : W ≤ w.heap.size) :
    Calls Try.prog 34 #[.pointer (some ⟨t, 0, none⟩)] w fun e w' => e = .returned (.tuple #[]) ∧ Hid (RIn w' W t gn ((od.getD next []).foldl pushK nw) vo (od.set next []) (next + 1) kv vv m) ∧ Hid (Fr (RW W w) w w') := by
  obtain ⟨l, hle⟩ : ∃ l, od.getD next [] = l := ⟨_, rfl⟩
  rw [hle] at hl hks ⊢
  have hg : od[next]? = some l := by rw [← hle, List.getD_eq_getElem?_getD, List.getElem?_eq_getElem h]; rfl
  obtain ⟨go, rfl, hne, hro⟩ : ∃ go, vo = .slice (some ⟨go, 0, none⟩) od.length od.length ∧ go ≠ gn ∧ RowsAt w W kv go od := by
    rcases s.ods with ⟨rfl, _⟩ | h
    · simp at h
    · exact h
  have hrow := Lib.hid hro
  obtain ⟨hWo, cs, c, hcs, hr⟩ := id hro
  obtain ⟨u, hu, hin⟩ := hr next l hg
  have d1 : w.cell? ⟨t, 1, none⟩ = some (.slice (some ⟨go, 0, none⟩) od.length od.length) := cell_of_row w t 1 _ _ (0, 0) s.hd
  have d2 : w.cell? ⟨t, 2, none⟩ = some (.int .i64 next) := cell_of_row w t 2 _ _ (0, 0) s.hd
  have d3 := frozen_of_row w t 2 _ _ s.hd
  have cb : w.cell? ⟨go, next, none⟩ = some u := by rw [cell_of_row w go next _ _ (0, 0) c]; exact hu
  have fz := frozen_of_row w go next _ _ c
  have h1 : ¬ (od.length : Int) ≤ (next : Int) := by omega
  have hdec : decide (od.length ≤ next) = false := decide_eq_false (by omega)
  have h2 : (next : Int) < (od.length : Int) := by omega
  have h3 : (0 : Int) ≤ (next : Int) := by omega
  have ne1 : ¬ go = t := types_ne c s.hd (by decide)
  have ne2 : ¬ t = go := Ne.symm ne1
  have S3 : Hid (∀ N, RIn (((w.drewN N).setCell ⟨go, next, none⟩ (.slice none 0 0)).setCell ⟨t, 2, none⟩ (.int .i64 ((next : Int) + 1))) W t gn nw (.slice (some ⟨go, 0, none⟩) od.length od.length) (od.set next []) (next + 1) kv vv m) := Lib.hid fun N =>
    ((s.nob ((Fr.refl Nob w).drewN N)).setOld hne (hro.keep ((Fr.refl Nob w).drewN N) (fun h => h) fun _ _ _ _ h => h) h (InR.nil _ _ _)).setHd (by
      rw [show ((next : Int) + 1) = ((next + 1 : Nat) : Int) by omega]
      rfl)
  have F3 : Hid (∀ N, Fr (fun k => k = go ∨ k = t) w (((w.drewN N).setCell ⟨go, next, none⟩ (.slice none 0 0)).setCell ⟨t, 2, none⟩ (.int .i64 ((next : Int) + 1)))) := Lib.hid fun N =>
    (((Fr.refl _ w).drewN N).setCell _ (fun _ => .inl rfl) _).setCell _ (fun _ => .inr rfl) _
  have I3 : Hid (∀ N, InR (((w.drewN N).setCell ⟨go, next, none⟩ (.slice none 0 0)).setCell ⟨t, 2, none⟩ (.int .i64 ((next : Int) + 1))) W kv u l) := Lib.hid fun N => hin.keep (F3.out N) fun k hk e => by
    obtain ⟨_, _, cs2, c2⟩ := hin.2 k hk
    rcases e with rfl | rfl
    · exact types_ne c2 c (by decide) rfl
    · exact types_ne c2 s.hd (by decide) rfl
  have SS := Lib.hid s
  have HIN := Lib.hid hin
  have HLT := Lib.hid h
  have HNE := Lib.hid hne
  have HL := Lib.hid hl
  have HK := Lib.hid hks
  have H0 := Lib.hid h0
  have HB := Lib.hid hb
  have HW := Lib.hid hW
  have GB := Lib.hid hro.rw
  have GN := Lib.hid s.nws.rw
  have TB := Lib.hid s.rwt
  obtain ⟨⟨A, cap, rfl, hcell⟩, _⟩ := hin
  clear hro hr hu hcs c hWo s hg hle hcell hl hks h0 hb hW hne h
  go_enter Try.func34, Try.ntmps34
  go_wp2_with fail
  go_quiet (fail)
  go_wp2_with fail
  go_quiet (fail)
  go_wp2_with fail
  go_region
  all_goals
    go_wp2_with fail
    go_loopw [3] (fun i wr => ∃ j : Nat, j ≤ l.length ∧ i = .int .i64 j ∧ Hid (RIn wr W t gn ((l.take j).foldl pushK nw) (.slice (some ⟨go, 0, none⟩) od.length od.length) (od.set next []) (next + 1) kv vv m) ∧ Hid (InR wr W kv (.slice A l.length cap) l) ∧ Hid (Fr (fun k => k = go ∨ k = t ∨ k = gn) w wr)) (fun i _ => l.length - (intOf i).toNat)
    case atStart => exact ⟨0, Nat.zero_le _, rfl, Lib.hid (S3.out _), Lib.hid (I3.out _), Lib.hid ((F3.out _).mono fun k _ h => by rcases h with h | h; exact .inl h; exact .inr (.inl h))⟩
    case round =>
      obtain ⟨j, hj, rfl, sj, ij, fj⟩ := hrel
      by_cases hlt : j < l.length
      · obtain ⟨k, hk⟩ : ∃ k, l[j]? = some k := ⟨_, List.getElem?_eq_getElem hlt⟩
        obtain ⟨⟨A', cap', he, hcell⟩, _⟩ := ij.out
        injection he with he1 he2 he3
        subst he1
        obtain ⟨g, o, rfl, hd⟩ := hcell (by omega)
        have ck := hd j k hk
        have hlt1 : (j : Int) < (l.length : Int) := by omega
        have hj0 : (0 : Int) ≤ (j : Int) := by omega
        have hlen : ((l.take j).foldl pushK nw).length = nw.length := fold_len _ _
        have hll := HL.out
        have PUT := Lib.hid (rput_eq sj.out k (HK.out k (List.mem_of_getElem? hk)) (by rw [hlen]; exact H0.out) (by rw [hlen]; exact HB.out) (by
          have h1 := chain_len (l := (l.take j).foldl pushK nw) (i := hashK k % ((l.take j).foldl pushK nw).length)
          have h2 := fold_flat (l.take j) nw H0.out
          have h3 : (l.take j).length ≤ l.length := by rw [List.length_take]; omega
          omega) (Nat.le_trans HW.out fj.out.size))
        have hsn : (l.take (j + 1)).foldl pushK nw = pushK ((l.take j).foldl pushK nw) k := by
          rw [List.take_add_one, hk, List.foldl_append]
          rfl
        rw [← hsn] at PUT
        have HLT2 := Lib.hid hlt
        have hj9 : j < 1000001 := by omega
        clear hd hcell hk hlen hll hsn he2 he3 hlt
        go_wp2_with fail
        refine PUT.out.mono ?_
        rintro e w5 ⟨rfl, s5, f5⟩
        have i5 : Hid (InR w5 W kv (.slice (some ⟨g, o, none⟩) l.length cap) l) := Lib.hid (ij.out.keep f5.out fun q hq e => by
          obtain ⟨_, _, cs2, c2⟩ := ij.out.2 q hq
          obtain ⟨_, cs3, c3, _⟩ := sj.out.nws
          exact types_ne c2 c3 (by decide) e)
        have f6 : Hid (Fr (fun k => k = go ∨ k = t ∨ k = gn) w w5) := Lib.hid (fj.out.trans' (f5.out.mono fun q _ e => .inr (.inr e)))
        go_wp2_with fail
        go_roundw
        case rel => exact ⟨j + 1, by have := HLT2.out; omega, by go_num, s5, i5, f6⟩
        case measure => have := HLT2.out; simp [intOf]; omega
      · obtain rfl : j = l.length := by omega
        have s6 := sj.out
        rw [List.take_length] at s6
        have S6 := Lib.hid s6
        clear s6 sj
        go_wp2_with fail
        refine bodyPost_end (results_none rfl _ _ _) rfl ?_
        exact ⟨rfl, S6, Lib.hid (fj.out.mono fun k _ e => by
          rcases e with rfl | rfl | rfl
          · exact GB.out
          · exact TB.out
          · exact GN.out)⟩
end
end Go.Proofs.Ytefjcjmdmnfbhaa

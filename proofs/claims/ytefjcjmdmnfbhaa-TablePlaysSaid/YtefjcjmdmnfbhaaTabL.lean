/-
  The table: contract of Keys.
-/
import Derived.Test.YtefjcjmdmnfbhaaTabK
import Derived.Deep.DeepCutAuto
namespace Go.Proofs.Ytefjcjmdmnfbhaa
open Go.RowKit

section
variable {w w' : World} {W t gn go : Nat} {K : Nat → Prop} {T : Tb} {S : KT}

theorem flat_snoc {α : Type _} {l : List (List α)} {j : Nat} (hj : j < l.length) : (l.take (j + 1)).flatten = (l.take j).flatten ++ l.getD j [] := by
  rw [List.take_add_one, List.getElem?_eq_getElem hj, List.getD_eq_getElem?_getD, List.getElem?_eq_getElem hj, List.flatten_append]
  simp

set_option maxHeartbeats 8000000 in
set_option maxRecDepth 100000 in
theorem keys_eq (s : TabIn w W t K S) (ok : S.Ok) (hm : S.m.length ≤ 1000001) :
    Calls Try.prog 14 #[.pointer (some ⟨t, 0, none⟩)] w fun e w' => ∃ v, e = .returned v ∧ Hid (w'.ownsRow w.heap.size 9 1 v S.m.length (strsV (sortB S.all))) ∧ Hid (Fr Nob w w') := by
  obtain ⟨gn, go, T, h, is, hK⟩ := s
  obtain ⟨c0, c1, c2, c3, c4⟩ := h.cells
  have F := is.fit ok
  have hbig := F.big
  have holds := F.olds
  have hpos := F.pos
  have H := Lib.hid h
  have IS := Lib.hid is
  have OK := Lib.hid ok
  have CL := Lib.hid (clone_ptrs (w := w.drew) (((Fr.refl Nob w).drew).ownsRow h.bd.nw fun _ _ h => h) (by omega) (hooks_one T.now))
  have hall : Hid (S.all = keysE (T.now ++ T.old).flatten) := Lib.hid (by rw [← is.all]; unfold Tb.all; rw [List.flatten_append])
  have hlen : Hid ((T.now ++ T.old).flatten.length = S.m.length) := Lib.hid (by
    have h1 := ok.perm.length_eq
    rw [← is.all, keysM_len] at h1
    rw [← h1]
    unfold keysE Tb.all
    rw [List.length_map, List.flatten_append])
  have hcl : Hid (∀ c, c ∈ T.now ++ T.old → c.length ≤ 1000001) := Lib.hid fun c hc => by
    have h1 := (List.sublist_flatten_of_mem hc).length_le
    have := hlen.out
    omega
  clear h is hK F ok
  go_enter Try.func14, Try.ntmps14
  go_wp2_with fail
  go_cut [15, 16, 17] (fun sl ln z W1 => ∃ cap g, sl = .slice (some ⟨g, 0, none⟩) (T.now ++ T.old).length cap ∧ ln = .int .i64 ((T.now ++ T.old).length : Nat) ∧ z = .int .i64 0 ∧ Hid (W1.ownsRow w.heap.size 54 1 (.slice (some ⟨g, 0, none⟩) (T.now ++ T.old).length cap) (T.now ++ T.old).length ((T.now ++ T.old).map hookV)) ∧ Hid (Fr Nob w W1))
  case first =>
    by_cases ho : T.old = []
    · rw [ho] at c1
      have c1' : w.cell? ⟨t, 1, none⟩ = some (.slice none 0 0) := c1
      clear c1
      have hl0 : Hid ((T.now ++ T.old).length = T.now.length ∧ (T.now ++ T.old).map hookV = T.now.map hookV) := Lib.hid (by rw [ho, List.append_nil]; exact ⟨rfl, rfl⟩)
      go_region_law (first
        | (go_simp; go_at_call 30; refine CL.out.mono ?_; rintro e w1 ⟨v1, rfl, o1, f1⟩; have c2 : w1.cell? ⟨t, 1, none⟩ = some (.slice none 0 0) := f1.out.cell (show w.drew.cell? ⟨t, 1, none⟩ = _ from c1') (fun h => h); obtain ⟨a1, cap1, rfl, hle1, ha1, hz1⟩ := own_shape o1.out)
        | (refine step_app_none (o := ⟨some 15, _, _, _, _, _⟩) rfl (.tmp 10) (.tmp 14) 51 rfl 54 #[.pointer none] 1 8 Try.underlying51 ptr_info a1 T.now.length cap1 hle1 rfl none 0 rfl ?_))
      all_goals
        obtain ⟨b, rfl⟩ : ∃ b, a1 = some b := by
          cases a1 with
          | none => exact absurd (hz1 rfl) (by omega)
          | some b => exact ⟨b, rfl⟩
        obtain ⟨g, rfl, hg⟩ := ha1 b rfl
        go_wp2_with fail
        go_meet
        rw [hl0.out.1, hl0.out.2]
        exact ⟨cap1, g, rfl, rfl, rfl, o1, Lib.hid (((Fr.refl Nob w).drew).trans' f1.out)⟩
    · rw [oldV_of ho] at c1
      have hrow := Lib.hid (H.out.bd.od ho)
      go_region_law (first
        | (go_simp; go_at_call 30; refine CL.out.mono ?_; rintro e w1 ⟨v1, rfl, o1, f1⟩; have c2 : w1.cell? ⟨t, 1, none⟩ = some (.slice (some ⟨go, 0, none⟩) T.old.length T.old.length) := f1.out.cell (show w.drew.cell? ⟨t, 1, none⟩ = _ from c1) (fun h => h); have hr1 := Lib.hid (f1.out.ownsRow (((Fr.refl Nob w).drew).ownsRow hrow.out fun _ _ h => h) fun _ _ h => h))
        | (refine step_app (o := ⟨some 15, _, _, _, _, _⟩) rfl (.tmp 10) (.tmp 14) 51 rfl 54 #[.pointer none] 1 8 Try.underlying51 ptr_info rfl (by omega) w.heap.size v1 T.now.length (T.now.map hookV) rfl o1.out ⟨go, 0, none⟩ T.old.length T.old.length (T.old.map hookV) rfl (by rw [List.length_map, Nat.mul_one]) (hr1.out.cells rfl) (hooks_one T.old) (by omega) (by omega) f1.out.size ?_; intro v2 w2 o2 f2 h2; obtain ⟨a1, cap1, rfl, hle1, ha1, hz1⟩ := own_shape o2.out))
      all_goals
        have hl0 : Hid ((T.now ++ T.old).length = T.now.length + T.old.length ∧ (T.now ++ T.old).map hookV = T.now.map hookV ++ T.old.map hookV) := Lib.hid (by rw [List.map_append]; exact ⟨List.length_append .., rfl⟩)
        have f12 : Fr Nob w w2 := (((Fr.refl Nob w).drew).trans' f1.out).trans f2.out (fun x hx e => ownsRow_base o1.out x hx e)
        obtain ⟨b, rfl⟩ : ∃ b, a1 = some b := by
          cases a1 with
          | none => exact absurd (hz1 rfl) (by omega)
          | some b => exact ⟨b, rfl⟩
        obtain ⟨g, rfl, hg⟩ := ha1 b rfl
        go_wp2_with fail
        go_meet
        rw [hl0.out.1, hl0.out.2]
        exact ⟨cap1, g, rfl, by rw [Int.natCast_add], rfl, o2, Lib.hid f12⟩
  case rest =>
    obtain ⟨cap, g, rfl, rfl, rfl, o1, f1⟩ := hcut
    obtain ⟨chs, hchs⟩ : ∃ chs, chs = T.now ++ T.old := ⟨_, rfl⟩
    have HCH := Lib.hid hchs
    rw [← hchs] at o1 hall hlen hcl ⊢
    have hnl : chs.length ≤ 200000 := by rw [hchs, List.length_append]; omega
    have hchw : Hid (∀ c, c ∈ chs → ChAt w c) := Lib.hid fun c hc => by
      rw [hchs] at hc
      rcases List.mem_append.1 hc with hc | hc
      · exact H.out.bd.chn c hc
      · exact H.out.bd.cho c hc
    clear hchs H IS CL c0 c1 c2 c3 c4 hbig holds hpos
    go_wp2_with fail
    go_loopw [17, 3, 5] (fun i lv _ wr => ∃ (k : Nat) (ks : List ByteArray), k ≤ chs.length ∧ i = .int .i64 k ∧ Hid (ks = keysE (chs.take k).flatten) ∧ Hid (wr.ownsRow w.heap.size 9 1 lv ks.length (strsV ks)) ∧ Hid (wr.ownsRow w.heap.size 54 1 (.slice (some ⟨g, 0, none⟩) chs.length cap) chs.length (chs.map hookV)) ∧ Hid (Fr Nob w wr)) (fun i _ _ _ => chs.length - (intOf i).toNat)
    case atStart => exact ⟨0, [], Nat.zero_le _, rfl, Lib.hid rfl, Lib.hid (World.ownsRow_nil _ w.heap.size 9 1), o1, f1⟩
    case round =>
      clear o1 f1
      obtain ⟨k, ks, hk, rfl, hks, O, R, F⟩ := hrel
      by_cases hlt : k < chs.length
      · obtain ⟨c, hc⟩ : ∃ c, chs[k]? = some c := ⟨_, List.getElem?_eq_getElem hlt⟩
        have hcm := List.mem_of_getElem? hc
        have hcl1 := hcl.out c hcm
        have CE := Lib.hid (chain_eq (w := wr) ((hchw.out c hcm).nob F.out) hcl1)
        obtain ⟨r1, r2⟩ := row_at' R.out (i := k) (v := hookV c) (by rw [List.getElem?_map, hc]; rfl)
        obtain ⟨a, ha⟩ := hookV_form c
        rw [ha] at r1 CE
        have hfl := flat_snoc (l := chs) hlt
        have hgd : chs.getD k [] = c := by rw [List.getD_eq_getElem?_getD, hc]; rfl
        rw [hgd] at hfl
        have HFL := Lib.hid hfl
        have hkl : Hid (ks.length + c.length ≤ S.m.length) := Lib.hid (by
          rw [hks.out]
          unfold keysE
          rw [List.length_map, ← List.length_append, ← hfl, ← hlen.out]
          have h1 := congrArg (fun l : List (List En) => l.flatten.length) (List.take_append_drop (k + 1) chs)
          simp only [List.flatten_append, List.length_append] at h1
          omega)
        clear hc hcm ha hfl hgd
        go_wp2_with fail
        refine CE.out.mono ?_
        rintro e w1 ⟨v1, rfl, o1, f1⟩
        have R1 := Lib.hid (f1.out.ownsRow R.out fun _ _ h => h)
        have O1 := Lib.hid (f1.out.ownsRow O.out fun _ _ h => h)
        have F1 := Lib.hid (F.out.trans' f1.out)
        by_cases h0 : c = []
        · subst h0
          obtain ⟨a1, cap1, rfl, hle1, ha1, hz1⟩ := own_shape o1.out
          obtain ⟨a2, cap2, rfl, hle2, ha2, hz2⟩ := own_shape O1.out
          have hks2 : Hid (ks = keysE (chs.take (k + 1)).flatten) := Lib.hid (by rw [HFL.out, hks.out, List.append_nil])
          clear o1 f1 ha1 ha2 hz1 hz2 R O F r1 r2
          go_wp2_with (with_reducible refine wpList_app_none' (o := ⟨some 24, _, _, _, _, _⟩) rfl (.tmp 21) (.tmp 23) 29 rfl 9 #[.string ⟨#[]⟩] 1 16 Try.underlying29 str_info a2 ks.length cap2 hle2 rfl a1 cap1 rfl ?_)
          go_wp2_with fail
          go_roundw
          case rel => exact ⟨k + 1, ks, by omega, by go_num, hks2, O1, R1, F1⟩
          case measure => simp [intOf]; omega
        · have hcp : 0 < c.length := List.length_pos_iff.2 h0
          obtain ⟨a1, cap1, rfl, hle1, ha1, hz1⟩ := own_shape o1.out
          obtain ⟨b, rfl⟩ : ∃ b, a1 = some b := by
            cases a1 with
            | none => exact absurd (hz1 rfl) (by omega)
            | some b => exact ⟨b, rfl⟩
          obtain ⟨g1, rfl, hg⟩ := ha1 b rfl
          have NW := Lib.hid (o1.out.cells (g := g1) rfl)
          have hks2 : Hid (ks ++ keysE c = keysE (chs.take (k + 1)).flatten) := Lib.hid (by rw [HFL.out, hks.out]; unfold keysE; rw [List.map_append])
          have hsz : Hid (w.heap.size ≤ w1.heap.size) := Lib.hid F1.out.size
          have hbd : ks.length + c.length ≤ 1000001 := by have := hkl.out; omega
          have hl1 : Hid ((strsV (keysE c)).length = c.length * 1) := Lib.hid (by unfold strsV keysE; rw [List.length_map, List.length_map, Nat.mul_one])
          clear ha1 hz1 R O F r1 r2
          go_wp2_with (with_reducible refine wpList_app (o := ⟨some 24, _, _, _, _, _⟩) rfl (.tmp 21) (.tmp 23) 29 rfl 9 #[.string ⟨#[]⟩] 1 16 Try.underlying29 str_info rfl (by omega) w.heap.size u3 ks.length (strsV ks) rfl O1.out ⟨g1, 0, none⟩ c.length cap1 (strsV (keysE c)) rfl hl1.out NW.out (strsV_one _) (by omega) (by omega) hsz.out ?_)
          intro v3 w3 o3 f3 h3
          have F3 := Lib.hid (F1.out.trans f3.out (ownsRow_base O1.out))
          have R3 := Lib.hid (f3.out.ownsRow R1.out fun x hx e => by
            have hx : (Value.slice (some ⟨g, 0, none⟩) chs.length cap).ownBlock = some x := hx
            have h1 : g = x := by simpa [Value.ownBlock] using hx
            obtain ⟨⟨cur, h2⟩, _⟩ := row_is R1.out
            exact ownsRow_ne O1.out h2 (by decide) (by rw [h1]; exact e))
          have O3 : Hid (w3.ownsRow w.heap.size 9 1 v3 (ks ++ keysE c).length (strsV (ks ++ keysE c))) := by
            have h1 : (ks ++ keysE c).length = ks.length + c.length := by rw [List.length_append]; unfold keysE; rw [List.length_map]
            have h2 : strsV (ks ++ keysE c) = strsV ks ++ strsV (keysE c) := List.map_append ..
            rw [h1, h2]
            exact o3
          clear o1 f1 O1 R1 F1 o3 f3 h3 NW
          go_wp2_with fail
          go_roundw
          case rel => exact ⟨k + 1, ks ++ keysE c, by omega, by go_num, hks2, O3, R3, F3⟩
          case measure => simp [intOf]; omega
      · have : k = chs.length := by omega
        subst this
        have hka : Hid (ks = S.all) := Lib.hid (by rw [hks.out, List.take_length, hall.out])
        have hkl : Hid (ks.length = S.m.length) := Lib.hid (by rw [hks.out, List.take_length, ← hlen.out]; unfold keysE; rw [List.length_map])
        have SO := Lib.hid (sort_own O.out (by rw [hkl.out]; omega))
        have BO := Lib.hid (ownsRow_base O.out)
        clear O R
        go_wp2_with fail
        refine SO.out.mono ?_
        rintro e w1 ⟨rfl, o1, f1⟩
        have F1 := Lib.hid (F.out.trans f1 BO.out)
        have O1 := Lib.hid o1
        clear o1 f1
        go_wp2_with fail
        go_ret
        refine ⟨_, rfl, ?_, F1⟩
        rw [← hka.out, ← hkl.out]
        exact O1
end
end Go.Proofs.Ytefjcjmdmnfbhaa

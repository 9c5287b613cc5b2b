/-
  The table: contracts of chain, Chain.
-/
import Derived.Test.YtefjcjmdmnfbhaaTabI
namespace Go.Proofs.Ytefjcjmdmnfbhaa
open Go.RowKit

def strsV (l : List ByteArray) : List Value := l.map .string
theorem str_info : (Try.prog.info? 9).map (fun i => (i.zero.map Value.cells, i.size, i.bytes)) = some (some #[.string ⟨#[]⟩], 1, 16) := by kernel_rfl
theorem strsV_one (l : List ByteArray) : ∀ v ∈ strsV l, v.oneCell' = true := by
  intro v hv
  obtain ⟨c, _, rfl⟩ := List.mem_map.1 hv
  rfl
theorem own_shape {w : World} {base n : Nat} {t : TypeId} {size : Nat} {v : Value} {xs : List Value} (h : w.ownsRow base t size v n xs) : ∃ a cap, v = .slice a n cap ∧ n ≤ cap ∧ (∀ b, a = some b → ∃ g, b = ⟨g, 0, none⟩ ∧ base ≤ g) ∧ (a = none → n = 0) := by
  rcases h.2 with ⟨rfl, h1⟩ | ⟨g, cap, cur, rfl, h1, h2, h3, h4⟩
  · subst h1
    exact ⟨none, 0, rfl, Nat.le_refl _, (fun b hb => by cases hb), fun _ => rfl⟩
  · exact ⟨_, cap, rfl, h3, (fun b hb => by cases hb; exact ⟨g, rfl, h1⟩), fun h => by cases h⟩

section
variable {w w' : World} {W t gn go : Nat} {K : Nat → Prop} {T : Tb} {S : KT}

set_option maxHeartbeats 4000000 in
set_option maxRecDepth 100000 in
theorem chain_eq {c : List En} (h : ChAt w c) (hn : c.length ≤ 1000001) :
    Calls Try.prog 29 #[hookV c] w fun e w' => ∃ v, e = .returned v ∧ Hid (w'.ownsRow w.heap.size 9 1 v c.length (strsV (keysE c))) ∧ Hid (Fr Nob w w') := by
  have HC := Lib.hid h
  obtain ⟨hv, hhv⟩ : ∃ hv, hv = hookV c := ⟨_, rfl⟩
  rw [← hhv]
  have HV := Lib.hid hhv
  obtain ⟨ap, hap⟩ := hookV_form c
  clear h hhv hap
  go_enter Try.func29, Try.ntmps29
  go_wp2_with fail
  have O0 := Lib.hid (World.ownsRow_nil w w.heap.size 9 1)
  have F0 := Lib.hid (Fr.refl Nob w)
  go_loopg [0, 3] c.length (fun n ev lv wr => ∃ done rest, Hid (c = done ++ rest) ∧ ev = hookV rest ∧ n = rest.length ∧ Hid (wr.ownsRow w.heap.size 9 1 lv done.length (strsV (keysE done))) ∧ Hid (Fr Nob w wr))
  case atStart => exact ⟨[], c, Lib.hid rfl, HV.out, rfl, O0, F0⟩
  case round =>
    clear O0 F0
    obtain ⟨done, rest, hdr, rfl, rfl, O, F⟩ := hrel
    cases rest with
    | nil =>
      have hev : hookV [] = .pointer none := rfl
      rw [hev]
      go_wp2_with fail
      go_ret
      have hcd : c = done := by rw [hdr.out]; simp
      exact ⟨_, rfl, by rw [hcd]; exact O, F⟩
    | cons e r =>
      have hev : hookV (e :: r) = .pointer (some ⟨e.b, 0, none⟩) := rfl
      rw [hev]
      have hch : ChAt wr (e :: r) := (show ChAt w (done ++ e :: r) by rw [← hdr.out]; exact HC.out).tail.nob F.out
      have e0 : wr.cell? ⟨e.b, 0, none⟩ = some (.string e.key) := cell_of_row wr e.b 0 _ _ (0, 0) hch.1
      have hb : done.length ≤ 1000000 := by
        have := congrArg List.length hdr.out
        rw [List.length_append] at this
        simp at this
        omega
      have hbase : w.heap.size ≤ wr.heap.size + 1 := by have := F.out.size; omega
      have fa : Fr Nob wr (wr.alloc (.cells #[.string e.key] 9)) := (Fr.refl Nob wr).alloc _
      have O2 := Lib.hid (fa.ownsRow O.out fun _ _ h => h)
      have F2 := Lib.hid (F.out.trans' fa)
      have NW := Lib.hid (new_one wr (.string e.key) 9)
      have H1 := Lib.hid (fa.heap hch.1 fun h => h)
      have hsz : (wr.alloc (.cells #[.string e.key] 9)).heap.size = wr.heap.size + 1 := by simp
      have HSZ := Lib.hid hsz
      clear hch fa hsz F O
      go_wp2_with (with_reducible refine wpList_app (o := ⟨some 16, _, _, _, _, _⟩) rfl (.tmp 10) (.tmp 15) 29 rfl 9 #[.string ⟨#[]⟩] 1 16 Try.underlying29 str_info rfl (by omega) w.heap.size u3 done.length (strsV (keysE done)) rfl O2.out ⟨wr.heap.size, 0, none⟩ 1 1 [.string e.key] rfl rfl NW.out (by simp [Value.oneCell']) (by omega) (by omega) (by rw [HSZ.out]; exact hbase) ?_)
      intro v3 w3 o3 f3 h3
      have hne : ¬ u3.ownBlock = some e.b := ownsRow_ne O2.out H1.out (by decide)
      have H3 := f3.out.heap H1.out hne
      have e2 : w3.cell? ⟨e.b, 2, none⟩ = some (hookV r) := cell_of_row w3 e.b 2 _ _ (0, 0) H3
      have F3 := Lib.hid (F2.out.trans f3.out (ownsRow_base O2.out))
      have O3 : Hid (w3.ownsRow w.heap.size 9 1 v3 (done ++ [e]).length (strsV (keysE (done ++ [e])))) := by
        have h1 : (done ++ [e]).length = done.length + 1 := by simp
        have h2 : strsV (keysE (done ++ [e])) = strsV (keysE done) ++ [.string e.key] := by simp [strsV, keysE]
        rw [h1, h2]
        exact o3
      clear o3 f3 h3 O2 F2 NW H1 HSZ H3 hne e0
      go_wp2_with fail
      go_roundg r.length
      case measure => simp
      case rel => exact ⟨done ++ [e], r, Lib.hid (by rw [hdr.out]; simp), rfl, rfl, O3, F3⟩

theorem TabIn.nowAt (s : TabIn w W t K S) {i : Nat} (hi : i < S.now.length) : ∃ gn go T, TabAt w W t gn go T ∧ T.Is S ∧ ∃ c, T.now[i]? = some c ∧ keysE c = S.now.getD i [] := by
  obtain ⟨gn, go, T, h, is, hK⟩ := s
  rw [← is.nowL] at hi
  refine ⟨gn, go, T, h, is, T.now[i], List.getElem?_eq_getElem hi, ?_⟩
  rw [← is.now, map_getD _ _ rfl, List.getD_eq_getElem?_getD, List.getElem?_eq_getElem hi]
  rfl
theorem chain_len {l : List (List ByteArray)} {i : Nat} : (l.getD i []).length ≤ l.flatten.length := by
  rw [List.getD_eq_getElem?_getD]
  cases h : l[i]? with
  | none => exact Nat.zero_le _
  | some c =>
    show c.length ≤ _
    exact (List.sublist_flatten_of_mem (List.mem_of_getElem? h)).length_le
theorem KT.Ok.len (ok : S.Ok) : S.now.flatten.length + S.old.flatten.length = S.m.length := by
  have := ok.perm.length_eq
  unfold KT.all at this
  rw [List.length_append, keysM_len] at this
  exact this

set_option maxHeartbeats 4000000 in
set_option maxRecDepth 100000 in
theorem chainAt_in (s : TabIn w W t K S) (ok : S.Ok) {i : Nat} (hi : i < S.now.length) (hm : S.m.length ≤ 1000001) :
    Calls Try.prog 13 #[.pointer (some ⟨t, 0, none⟩), .int .i64 i] w fun e w' => ∃ v, e = .returned v ∧ Hid (w'.ownsRow w.heap.size 9 1 v (S.now.getD i []).length (strsV (S.now.getD i []))) ∧ Hid (Fr Nob w w') := by
  obtain ⟨gn, go, T, h, is, c, hc, hkc⟩ := s.nowAt hi
  have hl : c.length ≤ 1000001 := by
    have h1 : c.length = (keysE c).length := (List.length_map ..).symm
    rw [h1, hkc]
    have := chain_len (l := S.now) (i := i)
    have := ok.len
    omega
  have HC := Lib.hid (chain_eq (h.bd.chn c (List.mem_of_getElem? hc)) hl)
  have hlen : c.length = (S.now.getD i []).length := by rw [← hkc]; exact (List.length_map ..).symm
  rw [hlen, hkc] at HC
  obtain ⟨c0, c1, c2, c3, c4⟩ := h.cells
  obtain ⟨r1, r2⟩ := row_at' h.bd.nw (i := i) (v := hookV c) (by rw [List.getElem?_map, hc]; rfl)
  have hnl := is.nowL
  have hbig := ok.big
  rw [hnl] at c0
  obtain ⟨a, ha⟩ := hookV_form c
  rw [ha] at r1 HC
  generalize S.now.getD i [] = ks at *
  generalize S.now.length = nn at *
  clear hlen hkc hl hc h is hnl ha
  go_enter Try.func13, Try.ntmps13
  go_wp2_with fail
  refine HC.out.mono ?_
  rintro e w' ⟨v, rfl, o, f⟩
  go_wp2_with fail
  go_ret
  exact ⟨v, rfl, o, f⟩
set_option maxHeartbeats 4000000 in
set_option maxRecDepth 100000 in
theorem chainAt_out (s : TabIn w W t K S) (ok : S.Ok) {i : Int} (hi : i < 0 ∨ (S.now.length : Int) ≤ i) :
    Calls Try.prog 13 #[.pointer (some ⟨t, 0, none⟩), .int .i64 i] w fun e w' => e = .returned (.slice none 0 0) ∧ w = w' := by
  obtain ⟨gn, go, T, h, is, hK⟩ := s
  obtain ⟨c0, c1, c2, c3, c4⟩ := h.cells
  have hnl := is.nowL
  have hbig := ok.big
  rw [hnl] at c0
  generalize S.now.length = nn at *
  clear h is hnl hK
  rcases hi with hi | hi
  · go_enter Try.func13, Try.ntmps13
    go_wp2_with fail
    go_ret
    exact ⟨rfl, rfl⟩
  · have hi0 : ¬ i < 0 := by omega
    go_enter Try.func13, Try.ntmps13
    go_wp2_with fail
    go_ret
    exact ⟨rfl, rfl⟩
end
end Go.Proofs.Ytefjcjmdmnfbhaa

/-
  The law SlabApart, walked: chunks that are taken are unlike one another; as long as fewer are taken than there are pages, Take goes well.
-/
import Derived.Test.YtamcnieneelmmaaSlabQ
import Derived.Test.YtamcnieneelmmaaBits
namespace Go.Proofs.Ytamcnieneelmmaa
open Go.RowKit

def intRow (T : List Int) : List Value := T.map fun x => .int .i64 x
theorem intRow_len (T : List Int) : (intRow T).length = T.length := by simp [intRow]
theorem intRow_get (T : List Int) (j : Nat) (h : j < T.length) : (intRow T)[j]? = some (.int .i64 T[j]) := by simp [intRow, h]
theorem intRow_one (T : List Int) : ∀ u, u ∈ intRow T → u.oneCell' = true := by
  intro u hu
  obtain ⟨_, _, rfl⟩ := List.mem_map.1 hu
  rfl

theorem usSum_new (m : Nat) : usSum (List.replicate m Pg.new) = 0 := by
  induction m with
  | zero => rfl
  | succ m ih =>
    simp only [usSum, sumBy, List.replicate_succ, List.map_cons, List.sum_cons] at ih ⊢
    rw [ih]
    rfl
theorem kept_new (m : Nat) : Kept (List.replicate m Pg.new) [] := ⟨fun x hx => (by cases hx), List.nodup_nil, by rw [usSum_new]; rfl⟩

theorem taken_lt {S : List Pg} {x : Int} (h : isTaken S x = true) (hl : S.length ≤ 1024) : x ≤ 65536 := by
  obtain ⟨_, h1, _⟩ := isTaken_parts h
  omega

theorem intRow_take {T : List Int} {j i : Nat} {u : Value} (h : (intRow (T.take j))[i]? = some u) : (intRow T)[i]? = some u := by
  unfold intRow at *
  rw [List.map_take, List.getElem?_take] at h
  split at h
  · exact h
  · cases h
theorem intRow_drop {T : List Int} {j i : Nat} {u : Value} (h : (intRow (T.drop j))[i]? = some u) : (intRow T)[j + i]? = some u := by
  unfold intRow at *
  rw [List.map_drop, List.getElem?_drop] at h
  exact h
/-- A row that was there is kept where the block that was just made is appended to. -/
theorem own_far {w2 w3 : World} {base : Nat} {e t : TypeId} {size n m c : Nat} {v : Value} {xs : List Value} {cs : Array Value}
    (hf : Fr (fun k => (Value.slice (some ⟨w2.heap.size, 0, none⟩) m c).ownBlock = some k) (w2.alloc (.cells cs t)).drew w3) (ho : w2.ownsRow base e size v n xs) : w3.ownsRow base e size v n xs := by
  have h1 : (w2.alloc (.cells cs t)).drew.ownsRow base e size v n xs := (ho.alloc _).drew
  refine hf.ownsRow h1 fun k hk e2 => ?_
  have h3 := (ho.lt k hk).2
  have : w2.heap.size = k := by simpa [Value.ownBlock] using e2
  omega

theorem own_cap {w : World} {base : Nat} {e : TypeId} {size n m cap : Nat} {A : Option Addr} {xs : List Value} (h : w.ownsRow base e size (.slice A m cap) n xs) : m = n ∧ n ≤ cap ∧ cap ≤ maxLen := by
  rcases h.2 with ⟨h1, rfl⟩ | ⟨g, c, cur, h1, _, _, h2, h3, _⟩
  · cases h1; exact ⟨rfl, Nat.le_refl _, by simp [maxLen]⟩
  · cases h1; exact ⟨rfl, h2, h3⟩

theorem cut_end {w w2 w3 w5 : World} {p b n1 n3 : Nat} {S : List Pg} {cs : Array Value} {v0 v1 : Value} {xs1 xs3 : List Value} (s2 : SlabAt w2 p b S) (f2 : Fr Nob w w2)
    (o0 : (w2.alloc (.cells cs 3)).drew.ownsRow w.heap.size 3 1 v0 n1 xs1) (f3 : Fr (fun k => v0.ownBlock = some k) (w2.alloc (.cells cs 3)).drew w3)
    (o3 : w3.ownsRow w.heap.size 3 1 v1 n3 xs3) (f5 : Fr (fun k => v1.ownBlock = some k) w3 w5) : SlabAt w5 p b S ∧ Fr Nob w w5 := by
  have s2a := s2.keep (((Fr.refl Nob w2).alloc (.cells cs 3)).drew) (fun h => h) (fun h => h)
  have n1 := slab_own_ne s2a o0
  have s3 := s2a.keep f3 n1.1 n1.2
  have n3 := slab_own_ne s3 o3
  exact ⟨s3.keep f5 n3.1 n3.2, ((f2.alloc (.cells cs 3)).drew.trans f3 (fun i hi e => ownsRow_base o0 i hi e)).trans f5 (fun i hi e => ownsRow_base o3 i hi e)⟩

theorem own_form {w : World} {base : Nat} {e : TypeId} {size n : Nat} {v : Value} {xs : List Value} (h : w.ownsRow base e size v n xs) : ∃ (A : Option Addr) (cap : Nat), v = .slice A n cap := by
  rcases h.2 with ⟨h1, rfl⟩ | ⟨g, c, cur, h1, _⟩
  · exact ⟨_, _, h1⟩
  · exact ⟨_, _, h1⟩
theorem erase_row {T : List Int} {j : Nat} (_hj : j < T.length) : intRow (T.eraseIdx j) = intRow (T.take j) ++ intRow (T.drop (j + 1)) := by
  rw [List.eraseIdx_eq_take_drop_succ]
  simp [intRow]

set_option maxHeartbeats 6400000 in
set_option maxRecDepth 100000 in
theorem slabApart_in (m : Nat) (A : Option Addr) (n cap : Nat) (z : Nat → ActD) (w : World) (hm1 : 1 ≤ m) (hm2 : m ≤ 30) (hn : n ≤ 150) (hz : ActRow w A n z) :
    Calls Try.prog 5 #[.int .i64 m, .slice A n cap] w fun e w' => e = .returned (.bool true) ∧ Fr Nob w w' := by
  have HZ := Lib.hid hz
  clear hz
  go_enter Try.func5, Try.ntmps5
  go_wp2_with fail
  refine (awake_ok w).mono ?_
  rintro e w0 ⟨rfl, f0⟩
  have f0 := Lib.hid f0
  go_wp2_with fail
  refine (new_eq _ m (by omega) (by omega)).mono ?_
  rintro e w1 ⟨p, b, rfl, s1, f1, hp, hb, -⟩
  have f1 := Lib.hid (f0.out.nob_new f1.out)
  have hb' : w.heap.size ≤ b := by have := f0.out.size; omega
  have hl := Lib.hid (List.length_replicate (n := m) (a := Pg.new))
  have hkept : Hid (Kept (List.replicate m Pg.new) []) := kept_new m
  go_wp2_with fail
  go_loopw [7, 8] (fun l i wr => ∃ (k : Nat) (S : List Pg) (T : List Int), k ≤ n ∧ i = .int .i64 k ∧ T.length ≤ k ∧ Hid (SlabAt wr p b S) ∧ Hid (Fr Nob w wr) ∧ Hid (S.length = m) ∧ Hid (Kept S T) ∧ Hid (wr.ownsRow w.heap.size 3 1 l T.length (intRow T))) (fun _ i _ => n - (intOf i).toNat)
  case atStart => exact ⟨0, _, [], Nat.zero_le _, rfl, Nat.zero_le _, s1, f1, hl, hkept, World.ownsRow_nil _ _ _ _⟩
  case round =>
    clear s1 f1 hl hkept
    obtain ⟨k, S, T, hk, rfl, hT, s1, f1, hl, hkept, o1⟩ := hrel
    have hne := Lib.hid (slab_own_ne s1.out o1.out)
    by_cases hlt : k < n
    · obtain ⟨ba, oa, rfl⟩ := HZ.out.addr (by omega)
      obtain ⟨g0, g1, g2, g3⟩ := (HZ.out.keep f1.out).cell rfl hlt
      cases hfr : (z k).free
      · rw [hfr] at g0
        clear hfr
        obtain ⟨q, hy, hq8⟩ : ∃ q : Nat, bits BinOp.and IntKind.i64 (z k).of_ 7 = (q : Int) ∧ q < 8 := ⟨((z k).of_ % 8).toNat, by rw [and7]; omega, by omega⟩
        have c0 : 0 ≤ (q : Int) % 6 := by omega
        have c6 : (q : Int) % 6 < 6 := by omega
        obtain ⟨tA, tcap, rfl⟩ := own_form o1.out
        rcases take_sevens (S := S) c0 c6 with hE | ⟨hE, hs⟩
        · have hk2 := hkept.out.take c0 c6 s1.out.ok hE
          obtain ⟨hdiff, hk2⟩ := hk2
          obtain ⟨_, x0, xb⟩ := take_gone c0 c6 s1.out.ok hE
          have HE := Lib.hid hE
          have HD := Lib.hid hdiff
          have HK2 := Lib.hid hk2
          have hl2 := Lib.hid ((takeS_len S ((q : Int) % 6)).trans hl.out)
          obtain ⟨x, hx⟩ : ∃ x, takeN S ((q : Int) % 6) = x := ⟨_, rfl⟩
          rw [hx] at HD HK2 x0 xb
          have HX := Lib.hid hx
          clear hE hdiff hk2 hx
          go_wp2_with fail
          refine (take_eq _ p b _ _ x 0 s1.out HX.out HE.out).mono ?_
          rintro e w2 ⟨rfl, s2, f2⟩
          have o2 := Lib.hid (f2.out.ownsRow o1.out (fun i hi e => hne.out.2 (by rw [hi]; exact congrArg some e)))
          have f2 := Lib.hid (f1.out.one_new f2.out hb')
          have hsz : w.heap.size ≤ w2.heap.size := f2.out.size
          go_wp2_with fail
          go_loop [12] (fun i => ∃ r : Nat, r ≤ T.length ∧ i = .int .i64 r) (fun i => T.length - (intOf i).toNat)
          case atStart => exact ⟨0, Nat.zero_le _, rfl⟩
          case round =>
            obtain ⟨r, hr, rfl⟩ := hrel
            by_cases hrT : r < T.length
            · obtain ⟨g, cap', hv, hgb, hgl⟩ := o2.out.form (by omega)
              obtain ⟨rfl, rfl⟩ : tA = some ⟨g, 0, none⟩ ∧ tcap = cap' := by cases hv; exact ⟨rfl, rfl⟩
              have hc := o2.out.cells rfl r _ (intRow_get T r hrT)
              rw [show ((⟨g, 0, none⟩ : Addr).add r) = ⟨g, r, none⟩ by rw [Addr.add_lit, Nat.zero_add]] at hc
              have hd : (T[r] == x) = false := by rw [beq_eq_false_iff_ne]; exact HD.out _ (List.getElem_mem hrT)
              clear hv
              go_wp2_with fail
              go_round
              case rel => exact ⟨r + 1, by omega, by go_num⟩
              case measure => simp [intOf]; omega
            · go_wp2_with (with_reducible refine wpList_app (o := ⟨some 108, _, _, _, _, _⟩) rfl (.tmp 105) (.tmp 107) 35 rfl 3 #[.int .i64 0] 1 8 Try.underlying35 int_info rfl (by omega) w.heap.size (.slice tA T.length tcap) T.length (intRow T) rfl (o2.out.alloc _) ⟨w2.heap.size, 0, none⟩ 1 1 [.int .i64 x] rfl rfl (new_one w2 _ _) (by simp [Value.oneCell']) (by omega) (by omega) (by simp; omega) ?_)
              intro v' w3 o3 f3 h3
              have s3 := Lib.hid ((s2.out.keep ((Fr.refl Nob w2).alloc (.cells #[.int .i64 x] 3)) (fun h => h) (fun h => h)).keep f3.out hne.out.1 hne.out.2)
              have f3' := Lib.hid ((f2.out.alloc (.cells #[.int .i64 x] 3)).trans f3.out (fun i hi e => ownsRow_base o2.out i hi e))
              have o3' : Hid (w3.ownsRow w.heap.size 3 1 v' (T ++ [x]).length (intRow (T ++ [x]))) := by
                have := o3.out
                refine Lib.hid ?_
                rw [List.length_append]
                simpa [intRow] using this
              have hlen : (T ++ [x]).length ≤ k + 1 := by rw [List.length_append]; simp; omega
              go_wp2_with fail
              go_roundw
              case rel => exact ⟨k + 1, _, T ++ [x], by omega, by go_num, hlen, s3, f3', hl2, HK2, o3'⟩
              case measure => simp [intOf]; omega
        · have hfull := hkept.out.full s1.out.ok hs
          rw [hl.out] at hfull
          have hx := (take_full (c := (q : Int) % 6) (by simp [inCls, c0, c6]) hs)
          have HX := Lib.hid hx
          clear hE hs hx
          go_wp2_with fail
          refine (take_eq _ p b _ _ 0 7 s1.out HX.out.2.1 HX.out.2.2).mono ?_
          rintro e w2 ⟨rfl, s2, f2⟩
          rw [HX.out.1] at s2
          have o2 := Lib.hid (f2.out.ownsRow o1.out (fun i hi e => hne.out.2 (by rw [hi]; exact congrArg some e)))
          have f2 := Lib.hid (f1.out.one_new f2.out hb')
          have hT2 : T.length ≤ k + 1 := by omega
          go_wp2_with fail
          go_roundw
          case rel => exact ⟨k + 1, S, T, by omega, by go_num, hT2, s2, f2, hl, hkept, o2⟩
          case measure => simp [intOf]; omega
      · rw [hfr] at g0
        clear hfr
        by_cases hT0 : 0 < T.length
        · obtain ⟨g, tcap, rfl, hgb, hgl⟩ := o1.out.form hT0
          obtain ⟨y, hy⟩ : ∃ y : Nat, bits BinOp.and IntKind.i64 (z k).at_ 65535 = (y : Int) := ⟨((z k).at_ % 65536).toNat, by rw [and65535]; omega⟩
          obtain ⟨j, hj, hjm⟩ : ∃ j : Nat, j < T.length ∧ ((y : Int) % (T.length : Int)) = (j : Int) := ⟨y % T.length, Nat.mod_lt _ hT0, by omega⟩
          have hc := o1.out.cells rfl j _ (intRow_get T _ hj)
          rw [show ((⟨g, 0, none⟩ : Addr).add j) = ⟨g, j, none⟩ by rw [Addr.add_lit, Nat.zero_add]] at hc
          have hx := hkept.out.all T[j] (List.getElem_mem hj)
          have hx2 := taken_lt hx s1.out.len
          have hx' := Lib.hid hx
          clear hx
          have hk2 := Lib.hid (hkept.out.free hj)
          go_wp2_with fail
          refine (free_eq _ p b _ _ 0 (by omega) s1.out (by rw [hx'.out]; rfl)).mono ?_
          rintro e w2 ⟨rfl, s2, f2⟩
          have o2 := Lib.hid (f2.out.ownsRow o1.out (fun i hi e => hne.out.2 (by rw [hi]; exact congrArg some e)))
          have f2 := Lib.hid (f1.out.one_new f2.out hb')
          obtain ⟨_, hcapn, _⟩ := own_cap o2.out
          have hsz2 : w.heap.size ≤ w2.heap.size := f2.out.size
          have a1 : IntKind.i64.wrap ((j : Int) + 1) = (j : Int) + 1 := IntWalk.i64_in _ (by omega)
          have a2 : 0 ≤ (j : Int) + 1 := by omega
          have a3 : ((j : Int) + 1).toNat = j + 1 := by omega
          have a4 : (j : Int) ≤ (tcap : Int) := by omega
          have a5 : (j : Int) + 1 ≤ (T.length : Int) := by omega
          have a6 : (j : Int) + 1 ≤ (tcap : Int) := by omega
          have own0 : Hid ((w2.alloc (.cells #[] 3)).drew.ownsRow w.heap.size 3 1 (.slice (some ⟨w2.heap.size, 0, none⟩) 0 0) 0 []) := World.ownsRow_made w2 #[] 0 hsz2 (by simp [maxLen]) rfl
          have cells1 : Hid (∀ (i : Nat) (u : Value), (intRow (T.take j))[i]? = some u → (w2.alloc (.cells #[] 3)).drew.cell? ((⟨g, 0, none⟩ : Addr).add i) = some u) := fun i u hu => (o2.out.alloc (.cells #[] 3)).cells rfl i u (intRow_take hu)
          by_cases hcap : tcap = j + 1
          · subst hcap
            have a7 : (j : Int) ≤ (j : Int) + 1 := by omega
            go_wp2_with fail
            go_region_law (first
              | (refine step_app (o := ⟨some 69, _, _, _, _, _⟩) rfl (.tmp 65) (.tmp 68) 35 rfl 3 #[.int .i64 0] 1 8 Try.underlying35 int_info rfl (by omega) w.heap.size (.slice (some ⟨w2.heap.size, 0, none⟩) 0 0) 0 [] rfl own0.out ⟨g, 0, none⟩ j _ (intRow (T.take j)) rfl (by rw [intRow_len, List.length_take]; omega) cells1.out (intRow_one _) (by omega) (by omega) (by simp; omega) ?_
                 intro v1 w3 o3 f3 h3
                 have o4 := Lib.hid (own_far f3.out o2.out))
              | (refine step_app (o := ⟨some 74, _, _, _, _, _⟩) rfl (.tmp 69) (.tmp 73) 35 rfl 3 #[.int .i64 0] 1 8 Try.underlying35 int_info rfl (by omega) w.heap.size v1 (0 + j) ([] ++ intRow (T.take j)) rfl o3.out ⟨g, 0, none⟩ 0 _ [] rfl rfl (fun i u hu => absurd hu (by simp)) (fun u hu => absurd hu (by simp)) (by omega) (by omega) (by have := f3.out.size; simp at this; omega) ?_
                 intro v2 w5 o5 f5 h5))
            have hlen := List.length_eraseIdx_of_lt hj
            have o5' : Hid (w5.ownsRow w.heap.size 3 1 v2 (T.eraseIdx j).length (intRow (T.eraseIdx j))) := by
              have := o5.out
              rw [erase_row hj, hlen]
              have e0 : T.drop (j + 1) = [] := List.drop_of_length_le (by omega)
              rw [e0, show T.length - 1 = 0 + j + 0 by omega]
              exact this
            obtain ⟨s6, f6⟩ := cut_end s2.out f2.out own0.out f3.out o3.out f5.out
            have S6 := Lib.hid s6
            have F6 := Lib.hid f6
            have hl6 := Lib.hid ((freeS_len S T[j]).trans hl.out)
            have hlt6 : (T.eraseIdx j).length ≤ k + 1 := by omega
            clear s6 f6 hlen
            go_wp2_with fail
            go_roundw
            case rel => exact ⟨k + 1, freeS S T[j], T.eraseIdx j, by omega, by go_num, hlt6, S6, F6, hl6, hk2, o5'⟩
            case measure => simp [intOf]; omega
          · go_wp2_with fail
            go_region_law (first
              | (refine step_app (o := ⟨some 69, _, _, _, _, _⟩) rfl (.tmp 65) (.tmp 68) 35 rfl 3 #[.int .i64 0] 1 8 Try.underlying35 int_info rfl (by omega) w.heap.size (.slice (some ⟨w2.heap.size, 0, none⟩) 0 0) 0 [] rfl own0.out ⟨g, 0, none⟩ j _ (intRow (T.take j)) rfl (by rw [intRow_len, List.length_take]; omega) cells1.out (intRow_one _) (by omega) (by omega) (by simp; omega) ?_
                 intro v1 w3 o3 f3 h3
                 have o4 := Lib.hid (own_far f3.out o2.out))
              | (refine step_app (o := ⟨some 74, _, _, _, _, _⟩) rfl (.tmp 69) (.tmp 73) 35 rfl 3 #[.int .i64 0] 1 8 Try.underlying35 int_info rfl (by omega) w.heap.size v1 (0 + j) ([] ++ intRow (T.take j)) rfl o3.out ⟨g, j + 1, none⟩ (T.length - (j + 1)) _ (intRow (T.drop (j + 1))) rfl (by rw [intRow_len, List.length_drop]; omega) (fun i u hu => by have := o4.out.cells rfl (j + 1 + i) u (intRow_drop hu); rw [Addr.add_lit] at this ⊢; simpa using this) (intRow_one _) (by omega) (by omega) (by have := f3.out.size; simp at this; omega) ?_
                 intro v2 w5 o5 f5 h5))
            have hlen := List.length_eraseIdx_of_lt hj
            have o5' : Hid (w5.ownsRow w.heap.size 3 1 v2 (T.eraseIdx j).length (intRow (T.eraseIdx j))) := by
              have := o5.out
              rw [erase_row hj, hlen]
              rw [show T.length - 1 = 0 + j + (T.length - (j + 1)) by omega]
              exact this
            obtain ⟨s6, f6⟩ := cut_end s2.out f2.out own0.out f3.out o3.out f5.out
            have S6 := Lib.hid s6
            have F6 := Lib.hid f6
            have hl6 := Lib.hid ((freeS_len S T[j]).trans hl.out)
            have hlt6 : (T.eraseIdx j).length ≤ k + 1 := by omega
            clear s6 f6 hlen
            go_wp2_with fail
            go_roundw
            case rel => exact ⟨k + 1, freeS S T[j], T.eraseIdx j, by omega, by go_num, hlt6, S6, F6, hl6, hk2, o5'⟩
            case measure => simp [intOf]; omega
        · have hT1 : ¬ (0 : Int) < (T.length : Int) := by omega
          have hT2 : T.length ≤ k + 1 := by omega
          obtain ⟨hT3, _⟩ : T.length = 0 ∧ True := ⟨by omega, trivial⟩
          have HT3 := Lib.hid hT3
          clear hT3
          obtain ⟨tA, tcap, rfl⟩ := own_form o1.out
          go_wp2_with fail
          go_roundw
          case rel => exact ⟨k + 1, S, T, by omega, by go_num, hT2, s1, f1, hl, hkept, o1⟩
          case measure => simp [intOf]; omega
    · have hus := Lib.hid (used_sum S s1.out.ok)
      have hsum := Lib.hid hkept.out.sum
      obtain ⟨tA, tcap, rfl⟩ := own_form o1.out
      go_wp2_with fail
      go_loopw [13, 14] (fun n i wr => ∃ (j : Nat), j ≤ 6 ∧ i = .int .i64 j ∧ n = .int .i64 (usedBelow S j) ∧ Hid (SlabAt wr p b S) ∧ Hid (Fr Nob w wr)) (fun _ i _ => 6 - (intOf i).toNat)
      case atStart => exact ⟨0, by omega, rfl, rfl, s1, f1⟩
      case round =>
        clear s1 f1
        obtain ⟨j, hj, rfl, rfl, s1, f1⟩ := hrel
        by_cases hj6 : j < 6
        · have hb1 := usedBelow_bd S s1.out.ok s1.out.len j (by omega)
          have hb2 := used_bd (c := (j : Int)) (k := S.length) s1.out.ok s1.out.len
          rw [List.take_length] at hb2
          go_wp2_with fail
          refine (used_eq _ p b _ _ _ s1.out rfl).mono ?_
          rintro e w2 ⟨rfl, s2, f2⟩
          have f2 := Lib.hid (f1.out.nob_new f2.out)
          go_wp2_with fail
          go_roundw
          case rel => exact ⟨j + 1, by omega, by go_num, by rw [usedBelow], s2, f2⟩
          case measure => simp [intOf]; omega
        · have hj' : j = 6 := by omega
          subst hj'
          have he : (usedBelow S 6 == (T.length : Int)) = true := by rw [hus.out, hsum.out]; simp
          go_wp2_with fail
          go_ret
          exact ⟨rfl, f1.out⟩

set_option maxHeartbeats 3200000 in
set_option maxRecDepth 100000 in
theorem slabApart_walk (m : Int) (A : Option Addr) (n cap : Nat) (z : Nat → ActD) (w : World) (_hm : (Lit.int .i64 m).wf = true) (hz : ActRow w A n z) :
    Calls Try.prog 5 #[.int .i64 m, .slice A n cap] w fun e w' => e = .returned (.bool true) ∧ Fr Nob w w' := by
  by_cases hin : ¬ m < 1 ∧ ¬ 30 < m ∧ ¬ 150 < (n : Int)
  · obtain ⟨h1, h2, h3⟩ := hin
    obtain ⟨m, rfl⟩ := Int.eq_ofNat_of_zero_le (show 0 ≤ m by omega)
    exact slabApart_in m A n cap z w (by omega) (by omega) (by omega) hz
  · have hor := first_bad3 hin
    clear hin _hm hz
    rcases hor with h | ⟨h1, h⟩ | ⟨h1, h2, h⟩
    all_goals
      go_enter Try.func5, Try.ntmps5
      go_wp2_with fail
      refine (awake_ok w).mono ?_
      rintro e w0 ⟨rfl, f0⟩
      have f0 := Lib.hid f0
      go_wp2_with fail
      go_ret
      exact ⟨rfl, f0.out⟩

end Go.Proofs.Ytamcnieneelmmaa

/- RefsSets: a ref set is found, deleted it is gone, as many as may be. No condition. -/
import Derived.Test.YtmfhlhjnfaiegaaDoorKno
import Derived.Test.YtmfhlhjnfaiegaaDoorReq
namespace Go.Proofs.YtmfhlhjnfaiegaaDoor
open Go.RowKit
set_option maxRecDepth 100000
set_option maxHeartbeats 2000000
set_option linter.unusedVariables false
theorem rowsN_20 (id : List UInt8) (h : id.length = 20) (i : Nat) : Rf20 (rowsN id i) := fun r hr => by
  unfold rowsN at hr
  obtain ⟨j, _, rfl⟩ := List.mem_map.1 hr
  exact h
theorem zz_20 {id x : List UInt8} (h : id.length = 20) (hx : x.length = 20) (i : Nat) : Rf20 (rowsN id i ++ [([122, 122], x)]) := fun r hr => by
  rcases List.mem_append.1 hr with e | e
  · exact rowsN_20 id h i r e
  · obtain rfl := List.mem_singleton.1 e; exact hx
theorem zz_len (id x : List UInt8) (i : Nat) : (rowsN id i ++ [([122, 122], x)]).length = i + 1 := by simp [rowsN_len]
theorem find_zz (id x : List UInt8) (n : Nat) (h : n ≤ 64) : findI (rowsN id n ++ [([122, 122], x)]) [122, 122] = x := by
  obtain ⟨e1, e2⟩ := pk_zz id x n h
  rw [findI, e2, if_pos rfl, e1]
  unfold gtI
  rw [List.getD_eq_getElem?_getD, List.getElem?_append_right (by rw [rowsN_len]; exact Nat.le_refl _), rowsN_len, Nat.sub_self]; rfl
/-- set or deleted, the length named -/
def OutM (m : Nat) (l : List Rf) (e : Nat) (w : World) (x : Ending) (w' : World) : Prop := (∃ A c, x = .returned (.tuple #[.slice A m c, .int .i64 (e : Int)]) ∧ m ≤ c ∧ Sl w' A (rfc l)) ∧ Below w.heap.size w w'
theorem outM {P : Program} {f : FuncId} {a : Array Value} {w : World} {m e : Nat} {l : List Rf} (h : l.length = m) (k : Calls P f a w (OutS (l, e) w)) : Calls P f a w (OutM m l e w) := by
  subst h; exact k
/-- the two signs of a name -/
theorem wpList_two {ops : Array Oper} {rest : List Oper} {o : Oper} {a : Act} {w : World} {Q : Exit → Act → World → Prop} (hg : o.guard = none) (x y : Operand) (ho : o.op = .buildSlice 23 2 #[(0, x), (1, y)])
    (p q : Int) (hx : a.eval x = .int .u8 p) (hy : a.eval y = .int .u8 q) (h : wpList Tryd.prog ops Q rest (a.put o.dst (.slice (some ⟨w.heap.size, 0, none⟩) 2 2)) (w.alloc (.cells #[.int .u8 p, .int .u8 q] 5))) : wpList Tryd.prog ops Q (o :: rest) a w := by
  obtain ⟨i, hi, hz, hsize, hby⟩ := info_parts Tryd.info5
  refine wpList_buildSlice hg 23 5 2 _ ho _ i _ Tryd.underlying23 hi hz (by rw [hsize]; decide) (by rw [hsize]; decide) ?_ h
  rw [hsize]
  simp only [hx, hy, List.map_toArray, List.map_cons, List.map_nil]
  kernel_rfl
abbrev zzv : Value := .string ⟨#[122, 122]⟩
theorem z_set (id x : List UInt8) (k : Nat) (hk : k ≤ 64) (hid : id.length = 20) (hx : x.length = 20) (A : Option Addr) (c : Nat) (w : World) (hg : GOk w) (hA : Sl w A (rfc (rowsN id k))) :
    Calls Tryd.prog 15 #[.slice A k c, zzv, idv x] w (OutS (setI (rowsN id k) [122, 122] x) w) := by
  have := set_any (rowsN id k) (rowsN_20 id hid k) (by rw [rowsN_len]; omega) (rowsN_ris id k hk) [122, 122] x (by decide) hx (fun _ => (pk_end (rows_zz id k hk)).1) A c w hg hA
  rw [rowsN_len] at this
  exact this
theorem z_again (id x y : List UInt8) (k m : Nat) (hm : k + 1 = m) (hk : k < 64) (hid : id.length = 20) (hx : x.length = 20) (hy : y.length = 20) (A : Option Addr) (c : Nat) (w : World) (hg : GOk w) (hA : Sl w A (rfc (rowsN id k ++ [([122, 122], x)]))) :
    Calls Tryd.prog 15 #[.slice A m c, zzv, idv y] w (OutM m (rowsN id k ++ [([122, 122], y)]) 0 w) := by
  have e := (pk_zz id x k (by omega)).2
  have := set_any (rowsN id k ++ [([122, 122], x)]) (zz_20 hid hx k) (by rw [zz_len]; omega) (ris_zz id x k (by omega)) [122, 122] y (by decide) hy (fun h => by rw [e] at h; cases h) A c w hg hA
  rw [set_again id x y k hk, zz_len, hm] at this
  exact outM (by rw [zz_len, hm]) this
theorem z_find (id x : List UInt8) (k m : Nat) (hm : k + 1 = m) (hk : k < 64) (hid : id.length = 20) (hx : x.length = 20) (A : Option Addr) (c : Nat) (w : World) (hA : Sl w A (rfc (rowsN id k ++ [([122, 122], x)]))) :
    Calls Tryd.prog 16 #[.slice A m c, zzv] w fun e w' => e = .returned (.tuple #[idv x, .bool true]) ∧ Below w.heap.size w w' := by
  have := look_any (rowsN id k ++ [([122, 122], x)]) (zz_20 hid hx k) (by rw [zz_len]; omega) (ris_zz id x k (by omega)) [122, 122] A c w hA
  rw [zz_len, hm, find_zz id x k (by omega), (pk_zz id x k (by omega)).2] at this
  exact this
theorem z_del (id x : List UInt8) (k m : Nat) (hm : k + 1 = m) (hk : k < 64) (hid : id.length = 20) (hx : x.length = 20) (A : Option Addr) (c : Nat) (w : World) (hg : GOk w) (hA : Sl w A (rfc (rowsN id k ++ [([122, 122], x)]))) :
    Calls Tryd.prog 17 #[.slice A m c, zzv] w (OutM k (rowsN id k) 0 w) := by
  have := del_any (rowsN id k ++ [([122, 122], x)]) (zz_20 hid hx k) (by rw [zz_len]; omega) (ris_zz id x k (by omega)) [122, 122] (by decide) (fun _ => by rw [(pk_zz id x k (by omega)).1, zz_len]) A c w hg hA
  rw [del_zz id x k hk, zz_len, hm] at this
  exact outM (rowsN_len id k) this
theorem z_none (id : List UInt8) (k : Nat) (hk : k ≤ 64) (hid : id.length = 20) (A : Option Addr) (c : Nat) (w : World) (hg : GOk w) (hA : Sl w A (rfc (rowsN id k))) :
    Calls Tryd.prog 17 #[.slice A k c, zzv] w (OutM 0 [] 6 w) := by
  have := del_any (rowsN id k) (rowsN_20 id hid k) (by rw [rowsN_len]; omega) (rowsN_ris id k hk) [122, 122] (by decide) (fun h => by rw [(pk_end (rows_zz id k hk)).2] at h; cases h) A c w hg hA
  rw [del_none id k hk, rowsN_len] at this
  exact outM rfl this
theorem sets_any (n : Int) (hb : -9223372036854775808 ≤ n ∧ n ≤ 9223372036854775807) (id other : List UInt8) (hid : id.length = 20) (hot : other.length = 20) (w : World) (hg : GOk w) :
    Calls Tryd.prog 4 #[.int .i64 n, idv id, idv other] w fun e w' => e = .returned (.bool true) ∧ Below w.heap.size w w' := by
  obtain ⟨W0, hW0⟩ : ∃ W0, W0 = (w.alloc (.cells (bvs id).toArray 41)).alloc (.cells (bvs other).toArray 41) := ⟨_, rfl⟩
  have hb0 : Below w.heap.size w W0 := by rw [hW0]; exact ((Below.refl _ _).alloc (Nat.le_refl _) _).alloc (by simp) _
  have r1 : W0.heap[w.heap.size]? = some (.cells (bvs id).toArray 41 (0, 0)) := by
    rw [hW0, Below.heap_alloc _ _ _ (by simp)]; exact heap_alloc_new _ _
  have r2 : W0.heap[w.heap.size + 1]? = some (.cells (bvs other).toArray 41 (0, 0)) := by
    rw [hW0]
    have := heap_alloc_new (w.alloc (.cells (bvs id).toArray 41)) (.cells (bvs other).toArray 41)
    simpa using this
  have s1 : Sl W0 (some ⟨w.heap.size, 0, none⟩) (bvs id) := Sl.of_block r1 (fun j v hj => by simpa using hj)
  have s2 : Sl W0 (some ⟨w.heap.size + 1, 0, none⟩) (bvs other) := Sl.of_block r2 (fun j v hj => by simpa using hj)
  have kk := known_any W0 (hg.below hb0)
  have hs : (w.alloc (.cells (bvs id).toArray 41)).heap.size = w.heap.size + 1 := by simp
  have HW0 := Lib.hid hW0; have HB0 := Lib.hid hb0; have S1 := Lib.hid s1; have S2 := Lib.hid s2; have HG := Lib.hid (hg.below hb0); have HS := Lib.hid hs
  have HID := Lib.hid hid; have HOT := Lib.hid hot
  clear hW0 hb0 r1 r2 s1 s2 hg hs hid hot
  by_cases h0 : n < 0
  · clear hb
    go_enter Tryd.func4, Tryd.ntmps4
    go_upto_region 1 with fail
    rw [← HW0.out]
    go_wp2_with (go_at_call 5; (with_reducible refine kk.mono ?_); rintro e w1 ⟨rfl, hb1⟩)
    go_ret
    exact ⟨rfl, HB0.out.trans (hb1.mono HB0.out.size)⟩
  by_cases h64 : 64 < n
  · clear hb
    go_enter Tryd.func4, Tryd.ntmps4
    go_upto_region 1 with fail
    rw [← HW0.out]
    go_wp2_with (go_at_call 5; (with_reducible refine kk.mono ?_); rintro e w1 ⟨rfl, hb1⟩)
    go_ret
    exact ⟨rfl, HB0.out.trans (hb1.mono HB0.out.size)⟩
  obtain ⟨k, rfl⟩ : ∃ k : Nat, n = (k : Int) := ⟨n.toNat, by omega⟩
  have hk : k ≤ 64 := by omega
  clear hb h0
  go_enter Tryd.func4, Tryd.ntmps4
  go_upto_region 1 with fail
  rw [← HW0.out]
  go_wp2_with (go_at_call 5; (with_reducible refine kk.mono ?_); rintro e w1 ⟨rfl, hb1⟩)
  go_loopw [7, 8] (fun t7 t8 wr => ∃ (i : Nat) (A : Option Addr) (c : Nat), t8 = .int .i64 (i : Int) ∧ i ≤ k ∧ t7 = .slice A i c ∧ Hid (Sl wr A (rfc (rowsN id i))) ∧ Below W0.heap.size W0 wr) (fun _ t8 _ => (k - intOf t8).toNat)
  case atStart => exact ⟨0, none, 0, rfl, by omega, rfl, Lib.hid (Sl.nil _ _), hb1⟩
  case round =>
    obtain ⟨i, A, c, rfl, hi, rfl, HA, hbw⟩ := hrel
    by_cases hik : i < k
    · obtain ⟨m, hm⟩ : ∃ m, m = i + 1 := ⟨_, rfl⟩
      have hi64 : i < 64 := by omega
      have h97 : ∀ x : Nat, x < 8 → (97 + (x : Int)) = ((UInt8.ofNat (97 + x)).toNat : Int) := fun x hx => by
        rw [UInt8.toNat_ofNat_of_lt' (by show 97 + x < 256; omega)]; omega
      obtain ⟨p, hp⟩ : ∃ p, p = UInt8.ofNat (97 + i / 8) := ⟨_, rfl⟩
      obtain ⟨q, hq⟩ : ∃ q, q = UInt8.ofNat (97 + i % 8) := ⟨_, rfl⟩
      have hcv := conv34 (w := wr.alloc (.cells #[.int .u8 (97 + (i : Int) / 8), .int .u8 (97 + (i : Int) % 8)] 5)) (A := some ⟨wr.heap.size, 0, none⟩) (l := [p, q]) (c := 2) (n := 2)
        (Sl.of_block (heap_alloc_new _ _) (two_bytes (by rw [hp, ← h97 (i / 8) (by omega)]; simp) (by rw [hq, ← h97 (i % 8) (by omega)]; simp))) rfl
      have heq : (⟨#[110]⟩ ++ bstr [p, q] : ByteArray) = bstr (nm i) := by
        apply ByteArray.ext
        simp [nm, hp, hq]
      have bw1 : Below W0.heap.size W0 (wr.alloc (.cells #[.int .u8 (97 + (i : Int) / 8), .int .u8 (97 + (i : Int) % 8)] 5)) := hbw.alloc hbw.size _
      have hA1 := HA.out.below ((Below.refl _ wr).alloc (Nat.le_refl _) (.cells #[.int .u8 (97 + (i : Int) / 8), .int .u8 (97 + (i : Int) % 8)] 5))
      have ks := set_any (rowsN id i) (rowsN_20 id HID.out i) (by rw [rowsN_len]; omega) (rowsN_ris id i (by omega)) (nm i) id (by simp [nm]) HID.out (fun _ => (pk_end (fun j hj => by
        rw [rowsN_len] at hj
        rw [rowsN_at id i j hj]
        exact nm_lt j (by omega) i hi64 hj)).1) A c _ (HG.out.below bw1) hA1
      rw [set_rows id i hi64, rowsN_len, ← hm] at ks
      have ks := outM (rowsN_len id m) ks
      have l1 := load_idT 41 (fun w => by kernel_rfl) (fun w => by kernel_rfl) id HID.out _ _ (S1.out.below bw1)
      have HEQ := Lib.hid heq; have KS := Lib.hid ks; have HM := Lib.hid hm; have BW1 := Lib.hid bw1
      have e1 : (((m : Nat) : Int) == (i : Int) + 1) = true := by rw [hm]; simp
      clear h97 heq hA1 ks bw1 hm HA hp hq
      go_upto_region 9 with fail
      go_wp2_with (first
        | (refine wpList_loadG 41 (.tmp 4) rfl ⟨w.heap.size, 0, none⟩ rfl (idv id) l1 rfl ?_)
        | (go_at_call 15
           simp only [HEQ.out]
           (with_reducible refine KS.out.mono ?_)
           rintro e w2 ⟨⟨A2, c2, rfl, _, hs2⟩, hb2⟩))
      go_roundw
      case rel => exact ⟨m, A2, c2, by rw [HM.out]; simp, by rw [HM.out]; omega, rfl, Lib.hid hs2, BW1.out.trans (hb2.mono BW1.out.size)⟩
      case measure => simp only [intOf]; omega
    · have hi2 : k = i := by omega
      subst hi2
      have ks := z_set id other k hk HID.out HOT.out A c wr (HG.out.below hbw) HA.out
      have l1 := load_idT 41 (fun w => by kernel_rfl) (fun w => by kernel_rfl) other HOT.out _ _ (S2.out.below hbw)
      by_cases hk64 : k = 64
      · subst hk64
        rw [set_full] at ks
        have KS := Lib.hid ks
        clear ks hk h64
        go_wp2_with (first
          | (refine wpList_loadG 41 (.tmp 5) rfl ⟨w.heap.size + 1, 0, none⟩ rfl (idv other) l1 rfl ?_)
          | (go_at_call 15
             (with_reducible refine KS.out.mono ?_)
             rintro e w2 ⟨⟨A2, c2, rfl, _, hs2⟩, hb2⟩))
        go_ret
        exact ⟨rfl, (HB0.out.trans (hbw.mono HB0.out.size)).trans (hb2.mono (HB0.out.trans (hbw.mono HB0.out.size)).size)⟩
      · have hkl : k < 64 := by omega
        have hke : ((k : Int) == 64) = false := by simp; omega
        obtain ⟨m, hm⟩ : ∃ m, k + 1 = m := ⟨_, rfl⟩
        rw [set_zz id other k hkl] at ks
        have ks := outM (by rw [zz_len, hm]) ks
        have hmk : ((m : Int) == (k : Int) + 1) = true := by rw [← hm]; simp
        have KS := Lib.hid ks; have HM := Lib.hid hm; have HKL := Lib.hid hkl
        have hqo : ∀ w, (binOp .neq 41 (idv other) (idv other)).run Tryd.prog w = .ok (.bool false) w := fun w => by rw [neq_run 41 (by kernel_rfl) other other HOT.out HOT.out w]; simp
        have hqi : ∀ w, (binOp .neq 41 (idv id) (idv id)).run Tryd.prog w = .ok (.bool false) w := fun w => by rw [neq_run 41 (by kernel_rfl) id id HID.out HID.out w]; simp
        clear ks hm hk hkl hk64 h64
        go_wp2_with (first
          | (refine wpList_loadG 41 (.tmp 5) rfl ⟨w.heap.size + 1, 0, none⟩ rfl (idv other) l1 rfl ?_)
          | (go_at_call 15
             (with_reducible refine KS.out.mono ?_)
             rintro e w2 ⟨⟨A2, c2, rfl, _, hs2⟩, hb2⟩
             have k3 := z_find id other k m HM.out HKL.out HID.out HOT.out A2 c2 w2 hs2)
          | (go_at_call 16
             (with_reducible refine k3.mono ?_)
             rintro e w3 ⟨rfl, hb3⟩
             have b3 : Below W0.heap.size W0 w3 := hbw.trans ((hb2.trans (hb3.mono hb2.size)).mono hbw.size)
             have z3 : Below w2.heap.size w2 w3 := hb3)
          | (refine wpList_store_row rfl 41 (.tmp 13) (.tmp 82) rfl w3.heap.size (bvs other).toArray rfl rfl 41 _ (heap_alloc_new _ _) (info23 _ HOT.out) (by rw [show (bvs other).toArray.size = 20 by simp [HOT.out]]; rfl) (one_bvs _) ?_
             obtain ⟨r4, b4⟩ := new_set w3 41 (bvs zs20).toArray (bvs other).toArray
             simp only [zlit]
             obtain ⟨W4, hW4⟩ : ∃ W4, W4 = (w3.alloc (.cells (bvs zs20).toArray 41)).setRow w3.heap.size (bvs other).toArray := ⟨_, rfl⟩
             rw [← hW4] at r4 b4 ⊢
             have l4 := load_idT 41 (fun w => by kernel_rfl) (fun w => by kernel_rfl) other HOT.out _ _ (Sl.of_block (off := 0) r4 (fun j v hj => by simpa using hj))
             have b04 := b3.trans (b4.mono b3.size)
             have l5 := load_idT 41 (fun w => by kernel_rfl) (fun w => by kernel_rfl) other HOT.out _ _ (S2.out.below b04)
             have l6 := load_idT 41 (fun w => by kernel_rfl) (fun w => by kernel_rfl) id HID.out _ _ (S1.out.below b04)
             have k5 := z_again id other id k m HM.out HKL.out HID.out HOT.out HID.out A2 c2 W4 (HG.out.below b04) (hs2.below (hb3.trans (b4.mono hb3.size)))
             clear hW4 r4)
          | (refine wpList_loadG 41 (.tmp 13) rfl ⟨w3.heap.size, 0, none⟩ rfl (idv other) l4 rfl ?_)
          | (refine wpList_loadG 41 (.tmp 5) rfl ⟨w.heap.size + 1, 0, none⟩ rfl (idv other) l5 rfl ?_)
          | (refine wpList_loadG 41 (.tmp 4) rfl ⟨w.heap.size, 0, none⟩ rfl (idv id) l6 rfl ?_)
          | (go_at_call 15
             (with_reducible refine k5.mono ?_)
             rintro e w5 ⟨⟨A5, c5, rfl, _, hs5⟩, hb5⟩
             have b05 := b04.trans (hb5.mono b04.size)
             have k6 := z_find id id k m HM.out HKL.out HID.out HID.out A5 c5 w5 hs5
             clear l5 l6 l1)
          | (go_at_call 16
             (with_reducible refine k6.mono ?_)
             rintro e w6 ⟨rfl, hb6⟩
             have b06 := b05.trans (hb6.mono b05.size))
          | (refine wpList_store_row rfl 41 (.tmp 17) (.tmp 111) rfl w6.heap.size (bvs id).toArray rfl rfl 41 _ (heap_alloc_new _ _) (info23 _ HID.out) (by rw [show (bvs id).toArray.size = 20 by simp [HID.out]]; rfl) (one_bvs _) ?_
             obtain ⟨r7, b7⟩ := new_set w6 41 (bvs zs20).toArray (bvs id).toArray
             simp only [zlit]
             obtain ⟨W7, hW7⟩ : ∃ W7, W7 = (w6.alloc (.cells (bvs zs20).toArray 41)).setRow w6.heap.size (bvs id).toArray := ⟨_, rfl⟩
             rw [← hW7] at r7 b7 ⊢
             have s7 : Sl W7 (some ⟨w6.heap.size, 0, none⟩) (bvs id) := Sl.of_block r7 (fun j v hj => by simpa using hj)
             have b07 := b06.trans (b7.mono b06.size)
             have k8 := z_del id id k m HM.out HKL.out HID.out HID.out A5 c5 W7 (HG.out.below b07) (hs5.below (hb6.trans (b7.mono hb6.size)))
             clear hW7 r7)
          | (go_at_call 17
             (with_reducible refine k8.mono ?_)
             rintro e w8 ⟨⟨A8, c8, rfl, _, hs8⟩, hb8⟩
             have b08 := b07.trans (hb8.mono b07.size)
             have HA8 : Hid (Sl w8 A (rfc (rowsN id k))) := Lib.hid (HA.out.below (((((hb2.trans (hb3.mono hb2.size)).trans (b4.mono (hb2.trans (hb3.mono hb2.size)).size)).trans (hb5.mono ((hb2.trans (hb3.mono hb2.size)).trans (b4.mono (hb2.trans (hb3.mono hb2.size)).size)).size)) |> fun q => (q.trans (hb6.mono q.size)) |> fun q => (q.trans (b7.mono q.size)) |> fun q => q.trans (hb8.mono q.size))))
             have HS8 := Lib.hid hs8
             have l8 := load_idT 41 (fun w => by kernel_rfl) (fun w => by kernel_rfl) id HID.out _ _ (s7.below hb8)
             have l9 := load_idT 41 (fun w => by kernel_rfl) (fun w => by kernel_rfl) id HID.out _ _ (S1.out.below b08))
          | (refine wpList_loadG 41 (.tmp 17) rfl ⟨w6.heap.size, 0, none⟩ rfl (idv id) l8 rfl ?_)
          | (refine wpList_loadG 41 (.tmp 4) rfl ⟨w.heap.size, 0, none⟩ rfl (idv id) l9 rfl ?_))
        clear l4 l8 l9 k3 k5 k6 k8 s7 hs2 hs5 hs8 hb2 hb3 b3 z3 b4 b04 hb5 b05 hb6 b06 b7 b07 hb8
        go_loopw [21] (fun t21 wr => ∃ j : Nat, t21 = .int .i64 (j : Int) ∧ j ≤ k ∧ Below w8.heap.size w8 wr) (fun t21 _ => (k - intOf t21).toNat)
        case atStart => exact ⟨0, rfl, by omega, Below.refl _ _⟩
        case round =>
          obtain ⟨j, rfl, hj, hbq⟩ := hrel
          by_cases hjk : j < k
          · have hjl : j < (rowsN id k).length := by rw [rowsN_len]; exact hjk
            have hgt : gtR (rowsN id k) j = (nm j, id) := by
              unfold gtR rowsN
              rw [List.getD_eq_getElem?_getD, List.getElem?_map, List.getElem?_range hjk]; rfl
            have h20 := rowsN_20 id HID.out k
            obtain ⟨ad8, rfl⟩ := rsl_some HS8.out h20 j hjl
            obtain ⟨ad, rfl⟩ := rsl_some HA8.out h20 j hjl
            have f8 := rrow HS8.out h20 j hjl
            have f9 := rrow HA8.out h20 j hjl
            rw [hgt] at f8 f9
            have e8 := load_ref (r := (nm j, id)) HID.out (f8.below (hbq.drew))
            have e9 := load_ref (r := (nm j, id)) HID.out (f9.below (hbq.drew))
            have hq : ∀ w, (binOp .neq 47 (rfv (nm j, id)) (rfv (nm j, id))).run Tryd.prog w = .ok (.bool false) w := fun w => by rw [ref_neq _ _ HID.out HID.out w]; simp
            clear f8 f9 hgt h20 hjl
            go_upto_region 27 with fail
            go_still_tail 8, (by kernel_rfl)
            refine wpStill_load_agg rfl 47 (.tmp 140) rfl _ rfl _ e8 ?_
            repeat still_step
            refine wpStill_load_agg rfl 47 (.tmp 144) rfl _ rfl _ e9 ?_
            repeat still_step
            refine wpStill_nil ?_
            change wpList _ _ _ _ _ wr.drew
            go_wp2
            go_roundw
            case rel => exact ⟨j + 1, by simp, by omega, hbq.drew⟩
            case measure => simp only [intOf]; omega
          · obtain rfl : k = j := by omega
            have kn := z_none id k (by have := HKL.out; omega) HID.out A8 c8 wr (HG.out.below (b08.trans (hbq.mono b08.size))) (HS8.out.below hbq)
            go_wp2_with (go_at_call 17; (with_reducible refine kn.mono ?_); rintro e w9 ⟨⟨A9, c9, rfl, _, _⟩, hb9⟩)
            go_ret
            have b09 := (b08.trans (hbq.mono b08.size))
            have b010 := b09.trans (hb9.mono b09.size)
            exact ⟨rfl, HB0.out.trans (b010.mono HB0.out.size)⟩
end Go.Proofs.YtmfhlhjnfaiegaaDoor

/- refs.Decode: the rows of bytes, or why not. Condition: at most 10000 bytes. -/
import Derived.Test.YtmfhlhjnfaiegaaDoorDcp
namespace Go.Proofs.YtmfhlhjnfaiegaaDoor
open Go.RowKit
set_option maxRecDepth 100000
set_option maxHeartbeats 20000000
set_option linter.unusedVariables false
theorem appRs {w : World} {ops : Array Oper} {rest : List Oper} {o : Oper} {a : Act} {Q : Exit → Act → World → Prop} (hgd : o.guard = none) (s x : Operand)
    (ho : o.op = .call { callee := .builtin .append, args := #[s, x], argTypes := #[49, 49] })
    (B : Nat) (v : Value) (l : List Rf) (hs : a.eval s = v) (hown : WinR w B v l) (A : Option Addr) (c : Nat) (m : List Rf) (h20 : Rf20 m) (hx : a.eval x = .slice A m.length c) (hA : Sl w A (rfc m))
    (hb : l.length + m.length ≤ 1024) (hB : B ≤ w.heap.size)
    (h : ∀ v' w', WinR w' B v' (l ++ m) → Kp (fun k => v.ownBlock = some k) w w' → (v'.ownBlock = v.ownBlock ∨ v'.ownBlock = some w.heap.size) → wpList Tryd.prog ops Q rest (a.put o.dst v') w') : wpList Tryd.prog ops Q (o :: rest) a w :=
  wpList_appW hgd s x 49 49 ho B 47 (rfv ([], zs20)) 21 40 Tryd.underlying49 infoRef rfl (by decide) v l.length (rfc l) hs hown (.slice A m.length c) m.length (rfc m) hx (srcOf Tryd.underlying49 (by decide) (rfc_len h20) hA (rfc_one m)) (by omega) (by unfold maxLen; omega) hB
    (fun v' w' h1 h2 h3 => h v' w' (by rw [WinR, List.length_append, rfc_app]; exact h1) h2 h3)
theorem wpList_oneRs {ops : Array Oper} {rest : List Oper} {o : Oper} {a : Act} {w : World} {Q : Exit → Act → World → Prop} (hg : o.guard = none) (x : Operand) (ho : o.op = .buildSlice 49 1 #[(0, x)])
    (s id : List UInt8) (hid : id.length = 20) (hx : a.eval x = rfv (s, id)) (h : wpList Tryd.prog ops Q rest (a.put o.dst (.slice (some ⟨w.heap.size, 0, none⟩) 1 1)) (w.alloc (.cells (rcell (s, id)).toArray 47))) : wpList Tryd.prog ops Q (o :: rest) a w := by
  obtain ⟨i, hi, hz, hsize, hby⟩ := info_parts infoRef
  refine wpList_plain hg fun K hK => ?_
  have hr := run_buildSlice (P := Tryd.prog) w 49 47 1 #[(0, rfv (s, id))] (rcell (s, id)).toArray i _ Tryd.underlying49 hi hz (by rw [hsize]; decide) (by rw [hsize]; decide) (by rw [hsize]; exact fill_ref s id hid)
  unfold Oper.wp
  simp [execOp, ho, hx, hr, Result.andThen]
  exact hK _ _ h
theorem dec_any (b : List UInt8) (hb : b.length ≤ 10000) (A : Option Addr) (c : Nat) (w : World) (hg : GOk w) (hA : Bs w A b) :
    Calls Tryd.prog 10 #[.slice A b.length c] w (OutS (decI b) w) := by
  have hcv := conv34 (c := c) hA rfl
  obtain ⟨g, hgg⟩ : ∃ g, g = w.heap.size := ⟨_, rfl⟩
  obtain ⟨W0, hW0⟩ : ∃ W0, W0 = w.alloc (.cells #[.string (bstr b)] 9) := ⟨_, rfl⟩
  have hb0 : Below w.heap.size w W0 := by rw [hW0]; exact (Below.refl _ _).alloc (Nat.le_refl _) _
  have r0 : W0.heap[g]? = some (.cells #[.string (bstr b)] 9 (0, 0)) := by rw [hW0, hgg]; exact heap_alloc_new _ _
  have HW0 := Lib.hid hW0; have HB0 := Lib.hid hb0; have R0 := Lib.hid r0; have HG := Lib.hid hg; have HGG := Lib.hid hgg; have HB := Lib.hid hb
  obtain ⟨n, hn⟩ : ∃ n, n = b.length := ⟨_, rfl⟩
  have HN := Lib.hid hn
  rw [← hn] at hcv ⊢
  clear hW0 hb0 r0 hg hgg hb hA hn
  go_enter Tryd.func10, Tryd.ntmps10
  go_upto_region 4 with fail
  rw [← HW0.out]
  simp only [← HGG.out]
  go_wp2
  go_loopw [7] (fun t7 wr => ∃ (rows : List Rf) (rest : List UInt8), Hid (WinR wr w.heap.size t7 rows) ∧ Hid (wr.heap[g]? = some (.cells #[.string (bstr rest)] 9 (0, 0))) ∧ Hid (∃ N, rest.length < N ∧ decL N rest rows = decL (b.length + 1) b []) ∧ Hid (rest.length + 42 * rows.length ≤ 10000) ∧ Hid (Rf20 rows) ∧ Hid (∀ r ∈ rows, r.1.length ≤ 1073741824) ∧ Below w.heap.size w wr) (fun _ wr => leftN g wr)
  case atStart => exact ⟨[], b, Lib.hid (Win.nil _ _ _ _), R0, Lib.hid ⟨_, Nat.lt_succ_self _, rfl⟩, Lib.hid (by have := HB.out; simp; omega), Lib.hid (fun r h => by cases h), Lib.hid (fun r h => by cases h), HB0.out⟩
  case round =>
    obtain ⟨rows, rest, HWR, HRR, HD, HLN, H20, HS, hbw⟩ := hrel
    have hrl : rest.length ≤ 10000 := by have := HLN.out; omega
    have kn := next_any g rest (by omega) wr (HG.out.below hbw) HRR.out
    obtain ⟨line, hline⟩ : ∃ line, line = (Lib.cut rest [10]).1 := ⟨_, rfl⟩
    obtain ⟨more, hmore⟩ : ∃ more, more = (Lib.cut rest [10]).2.1 := ⟨_, rfl⟩
    have hll := cut_le (c := 10) rest
    rw [← hline] at hll
    rw [← hline, ← hmore] at kn
    obtain ⟨N, hN1, hN2⟩ := HD.out
    obtain ⟨M, rfl⟩ : ∃ M, N = M + 1 := ⟨N - 1, by omega⟩
    rw [decL, ← hline, ← hmore] at hN2
    have hcl := cut_len (c := 10) (s := rest)
    rw [← hline, ← hmore] at hcl
    have HLL := Lib.hid hll; have HRL := Lib.hid hrl
    clear hll hrl hline hmore HD
    cases hok : (Lib.cut rest [10]).2.2 with
    | false =>
      rw [hok] at kn hN2
      rw [if_pos rfl] at hN2
      have HE := Lib.hid (show decI b = ([], 2) by rw [decI, ← hN2])
      clear hok hN2 hN1 hcl
      go_wp2_with (go_at_call 23; (with_reducible refine kn.mono ?_); rintro e w1 ⟨rfl, hr1, hk1⟩; have HR1 := Lib.hid hr1; clear hr1)
      go_ret2
      exact ⟨⟨none, 0, by rw [HE.out]; rfl, by rw [HE.out]; simp, by rw [HE.out]; exact Sl.nil _ _⟩, hbw.trans (hk1.toBelow hbw.size (fun k hk e => by have := HGG.out; omega))⟩
    | true =>
      rw [hok] at kn hN2
      rw [if_neg (by decide)] at hN2
      have hcl := hcl hok
      obtain ⟨hex, hhex⟩ : ∃ hex, hex = Lib.trimPrefix line sumW := ⟨_, rfl⟩
      have hxl : hex.length ≤ line.length := by rw [hhex]; unfold Lib.trimPrefix; split <;> simp
      have kp : ∀ W, _ := fun W => Tryd.strings_CutPrefix (bstr line) ⟨#[115, 117, 109, 32]⟩ W
      rw [show (bstr line).data.toList = line by simp, show ((⟨#[115, 117, 109, 32]⟩ : ByteArray)).data.toList = sumW from rfl, ← hhex] at kp
      have kq : ∀ W, _ := fun W => parse_any (bstr hex) W (by have := HLL.out; have := HRL.out; show hex.toArray.size ≤ _; simp; omega)
      rw [show (bstr hex).data.toList = hex by simp] at kq
      obtain ⟨id1, hid1⟩ : ∃ id1, id1 = (parseI hex).1 := ⟨_, rfl⟩
      obtain ⟨e1, he1⟩ : ∃ e1, e1 = (parseI hex).2 := ⟨_, rfl⟩
      have i20 : id1.length = 20 := by rw [hid1]; exact parseI_len _
      rw [← hid1, ← he1] at kq
      obtain ⟨hp, hhp⟩ : ∃ hp, hp = Lib.hasPrefix line sumW := ⟨_, rfl⟩
      rw [← hhp] at kp
      have hlast : lastR line more = (hp && decide (e1 = 0) && (more == [])) := by rw [lastR, hhp, he1, hhex]
      rw [hlast] at hN2
      have zi := Lib.hid (info23 id1 i20)
      have hzs : (bvs zs20).toArray.size = (bvs id1).toArray.size := by simp [zs20_len, i20]
      have HZ := Lib.hid hzs; have HCL := Lib.hid hcl; have HN2 := Lib.hid hN2; have HN1 := Lib.hid hN1; have KP := Lib.hid kp; have KQ := Lib.hid kq; have HXL := Lib.hid hxl; have I20 := Lib.hid i20
      clear hok hcl hhex hid1 he1 hhp hlast hzs hN2 hN1 kp kq hxl i20
      go_upto_region 10 with (first
        | (go_at_call 23; (with_reducible refine kn.mono ?_); rintro e w1 ⟨rfl, hr1, hk1⟩; have HR1 := Lib.hid hr1; have HK1 := Lib.hid hk1; clear hr1 hk1)
        | (go_at_call 25; (with_reducible refine (KP.out _).mono ?_); rintro e w2 ⟨rfl, rfl⟩)
        | (go_at_call 26; (with_reducible refine (KQ.out _).mono ?_); rintro e w3 ⟨rfl, hb3⟩)
        | (refine wpList_store_row rfl 41 (.tmp 12) (.tmp 38) rfl w3.heap.size (bvs id1).toArray rfl rfl 41 _ (heap_alloc_new _ _) zi.out HZ.out (one_bvs _) ?_))
      simp only [zlit]
      obtain ⟨r4, b4⟩ := new_set w3 41 (bvs zs20).toArray (bvs id1).toArray
      obtain ⟨W4, hW4⟩ : ∃ W4, W4 = (w3.alloc (.cells (bvs zs20).toArray 41)).setRow w3.heap.size (bvs id1).toArray := ⟨_, rfl⟩
      rw [← hW4] at r4 b4 ⊢
      have b14 : Below w2.heap.size w2 W4 := hb3.trans (b4.mono hb3.size)
      have hgw : g < w2.heap.size := (Array.getElem?_eq_some_iff.1 HR1.out).1
      have RG := Lib.hid ((b14.block g hgw).trans HR1.out)
      have hne := win_ne HWR.out HRR.out (by decide)
      have HW4 : Hid (WinR W4 w.heap.size u7 rows) := Lib.hid ((Win.kp HWR.out HK1.out hne).below b14)
      have bw1 : Below w.heap.size w w2 := hbw.trans (HK1.out.toBelow hbw.size (fun k hk e => by have := HGG.out; omega))
      have bw4 := bw1.trans (b14.mono bw1.size)
      have c4 : W4.cell? ⟨g, 0, none⟩ = some (.string (bstr more)) := by rw [cell_of_row _ _ _ _ _ _ RG.out]; rfl
      have hr256 : rows.length ≤ 256 := by have := HLN.out; omega
      have HR256 := Lib.hid hr256
      have HL0 := Lib.hid (leftN_is HRR.out)
      clear hW4 r4 b4 b14 hgw hne bw1 hbw hr256 HWR HRR HK1 HR1 hb3
      have fin : (hp && decide (e1 = 0) && (more == [])) = true → decI b = if rightB rows = false then ([], 2) else if saidB rows ≠ b then ([], 4) else if 64 < rows.length then ([], 5) else (rows, 0) := fun h => by
        have := HN2.out
        rw [h, if_pos rfl] at this
        rw [decI, ← this]
      have FIN := Lib.hid fin
      clear fin
      cases hp with
      | false =>
        have hF : (false && decide (e1 = 0) && (more == [])) = false := by simp
        have hN3 := HN2.out
        rw [hF, if_neg (by decide)] at hN3
        obtain ⟨mm, hmm⟩ := HG.out.below bw4
        have kcu := Tryd.strings_Cut (bstr line) ⟨#[32]⟩ mm W4 (by have := HLL.out; have := HRL.out; show line.toArray.size < _; simp; omega) hmm
        rw [show (bstr line).data.toList = line by simp, show ((⟨#[32]⟩ : ByteArray)).data.toList = [32] from rfl] at kcu
        obtain ⟨hx2, hhx2⟩ : ∃ hx2, hx2 = (Lib.cut line [32]).1 := ⟨_, rfl⟩
        obtain ⟨nm2, hnm2⟩ : ∃ nm2, nm2 = (Lib.cut line [32]).2.1 := ⟨_, rfl⟩
        obtain ⟨two, htwo⟩ : ∃ two, two = (Lib.cut line [32]).2.2 := ⟨_, rfl⟩
        have hx2l : hx2.length ≤ line.length := by rw [hhx2]; exact cut_le line
        rw [← hhx2, ← hnm2, ← htwo] at kcu
        have kq2 := fun W => parse_any (bstr hx2) W (by have := HLL.out; have := HRL.out; show hx2.toArray.size ≤ _; simp; omega)
        rw [show (bstr hx2).data.toList = hx2 by simp] at kq2
        obtain ⟨id2, hid2⟩ : ∃ id2, id2 = (parseI hx2).1 := ⟨_, rfl⟩
        obtain ⟨e2, he2⟩ : ∃ e2, e2 = (parseI hx2).2 := ⟨_, rfl⟩
        have i20' : id2.length = 20 := by rw [hid2]; exact parseI_len _
        rw [← hid2, ← he2] at kq2
        have zi2 := Lib.hid (info23 id2 i20')
        have HZ2 := Lib.hid (show (bvs zs20).toArray.size = (bvs id2).toArray.size by simp [zs20_len, i20'])
        have KQ2 := Lib.hid kq2; have KCU := Lib.hid kcu; have I2 := Lib.hid i20'
        cases hlr : lineR line with
        | none =>
          rw [hlr] at hN3
          have HE := Lib.hid (show decI b = ([], 2) by rw [decI, ← hN3])
          have hln := lineR_none hlr
          rw [← hhx2, ← htwo, ← he2] at hln
          clear hlr hN3 hF hhx2 hnm2 htwo hx2l hid2 he2 i20' kq2 kcu hmm kn KP KQ FIN HN2 HN1
          rcases hln with ht | ⟨ht, he3⟩
          · subst ht
            go_wp2_with (first
              | (go_at_call 24; (with_reducible refine KCU.out.mono ?_); rintro e w5 ⟨rfl, k5, rfl⟩)
              | (go_at_call 26; (with_reducible refine (KQ2.out _).mono ?_); rintro e w6 ⟨rfl, hb6⟩)
              | (refine wpList_store_row rfl 41 (.tmp 16) (.tmp 58) rfl w6.heap.size (bvs id2).toArray rfl rfl 41 _ (heap_alloc_new _ _) zi2.out HZ2.out (one_bvs _) ?_))
            go_ret2
            have b6 : Below w.heap.size w w6 := (Below.drewN bw4 k5).trans (hb6.mono bw4.size)
            exact ⟨⟨none, 0, by rw [HE.out]; rfl, by rw [HE.out]; simp, by rw [HE.out]; exact Sl.nil _ _⟩, b6.trans ((new_set w6 41 _ _).2.mono b6.size)⟩
          · subst ht
            have he4 : ((e2 : Int) != 0) = true := bne_iff_ne.2 (by omega)
            clear he3
            go_wp2_with (first
              | (go_at_call 24; (with_reducible refine KCU.out.mono ?_); rintro e w5 ⟨rfl, k5, rfl⟩)
              | (go_at_call 26; (with_reducible refine (KQ2.out _).mono ?_); rintro e w6 ⟨rfl, hb6⟩)
              | (refine wpList_store_row rfl 41 (.tmp 16) (.tmp 58) rfl w6.heap.size (bvs id2).toArray rfl rfl 41 _ (heap_alloc_new _ _) zi2.out HZ2.out (one_bvs _) ?_))
            go_ret2
            have b6 : Below w.heap.size w w6 := (Below.drewN bw4 k5).trans (hb6.mono bw4.size)
            exact ⟨⟨none, 0, by rw [HE.out]; rfl, by rw [HE.out]; simp, by rw [HE.out]; exact Sl.nil _ _⟩, b6.trans ((new_set w6 41 _ _).2.mono b6.size)⟩
        | some x =>
          rw [hlr] at hN3
          obtain ⟨hx1, hx20, hx41, ht, he3, hxe⟩ := lineR_some hlr
          rw [← htwo] at ht
          rw [← hhx2, ← he2] at he3
          rw [← hhx2, ← hnm2, ← hid2] at hxe
          have HXE := Lib.hid hxe; have HX1 := Lib.hid hx1; have HX41 := Lib.hid hx41; have HN3 := Lib.hid hN3
          clear hlr hN3 hF hhx2 hnm2 htwo hx2l hid2 he2 i20' kq2 kcu hmm kn KP KQ FIN HN2 hxe hx1 hx41 hx20
          subst ht he3
          go_upto_region 15 with (first
            | (go_at_call 24; (with_reducible refine KCU.out.mono ?_); rintro e w5 ⟨rfl, k5, rfl⟩)
            | (go_at_call 26; (with_reducible refine (KQ2.out _).mono ?_); rintro e w6 ⟨rfl, hb6⟩)
            | (refine wpList_store_row rfl 41 (.tmp 16) (.tmp 58) rfl w6.heap.size (bvs id2).toArray rfl rfl 41 _ (heap_alloc_new _ _) zi2.out HZ2.out (one_bvs _) ?_))
          simp only [zlit]
          obtain ⟨r7, b7⟩ := new_set w6 41 (bvs zs20).toArray (bvs id2).toArray
          obtain ⟨W7, hW7⟩ : ∃ W7, W7 = (w6.alloc (.cells (bvs zs20).toArray 41)).setRow w6.heap.size (bvs id2).toArray := ⟨_, rfl⟩
          rw [← hW7] at r7 b7 ⊢
          have b46 : Below W4.heap.size W4 w6 := (Below.drewN (Below.refl _ _) k5).trans hb6
          have b47 : Below W4.heap.size W4 W7 := b46.trans (b7.mono b46.size)
          have l7 := load_idT 41 (fun w => by kernel_rfl) (fun w => by kernel_rfl) id2 I2.out ⟨w6.heap.size, 0, none⟩ W7 (Sl.of_block r7 (fun j v hj => by simpa using hj))
          have b78 : Below W7.heap.size W7 (W7.alloc (.cells (rcell (nm2, id2)).toArray 47)) := (Below.refl _ _).alloc (Nat.le_refl _) _
          have b48 : Below W4.heap.size W4 (W7.alloc (.cells (rcell (nm2, id2)).toArray 47)) := b47.trans (b78.mono b47.size)
          have hw8 := Win.below HW4.out b48
          have hgl : g < W4.heap.size := (Array.getElem?_eq_some_iff.1 RG.out).1
          have RG8 := Lib.hid ((b48.block g hgl).trans RG.out)
          have ne8 := win_ne hw8 RG8.out (by decide)
          have hA8 : Sl (W7.alloc (.cells (rcell (nm2, id2)).toArray 47)) (some ⟨W7.heap.size, 0, none⟩) (rfc [(nm2, id2)]) := Sl.of_block (heap_alloc_new _ _) (fun j v hj => by simpa [rfc] using hj)
          have h1 : Rf20 [(nm2, id2)] := fun y hy => by
            obtain rfl := List.mem_singleton.1 hy; exact I2.out
          have bw8 : Below w.heap.size w (W7.alloc (.cells (rcell (nm2, id2)).toArray 47)) := bw4.trans (b48.mono bw4.size)
          have HW8 := Lib.hid hw8; have HA8 := Lib.hid hA8; have H1 := Lib.hid h1; have NE8 := Lib.hid ne8; have BW8 := Lib.hid bw8; have HL8 : Hid (rows.length + 1 ≤ 1024) := Lib.hid (by have := HR256.out; omega)
          clear hW7 r7 b7 b46 b47 b78 b48 hw8 hgl ne8 hA8 h1 bw8 bw4 hb6 c4
          go_wp2_with (first
            | (refine wpList_loadG 41 (.tmp 16) rfl ⟨w6.heap.size, 0, none⟩ rfl (idv id2) l7 rfl ?_)
            | (refine wpList_buildR rfl (.tmp 67) (.tmp 68) rfl nm2 id2 I2.out rfl rfl ?_)
            | (refine wpList_oneRs rfl (.tmp 69) rfl nm2 id2 I2.out rfl ?_)
            | (at_builtin; refine appRs rfl (.tmp 66) (.tmp 70) rfl w.heap.size _ rows rfl HW8.out (some ⟨W7.heap.size, 0, none⟩) 1 [(nm2, id2)] H1.out rfl HA8.out HL8.out BW8.out.size ?_; intro v9 w9 hw9 hk9 _))
          have RG9 := (hk9.block g (Array.getElem?_eq_some_iff.1 RG8.out).1 (fun e => NE8.out g e rfl)).trans RG8.out
          have HW9 := Lib.hid hw9; have HG9 := Lib.hid RG9; have HK9 := Lib.hid hk9
          clear hw9 RG9 hk9
          go_roundw
          case rel =>
            refine ⟨rows ++ [(nm2, id2)], more, HW9, HG9, Lib.hid ⟨M, by have := HN1.out; have := HCL.out; omega, by rw [← HXE.out]; exact HN3.out⟩, Lib.hid (by have := HLN.out; have := HCL.out; have := HX41.out; rw [List.length_append, List.length_singleton]; omega), Lib.hid (fun y hy => ?_), Lib.hid (fun y hy => ?_), BW8.out.trans (HK9.out.toBelow BW8.out.size (fun k hk e => by have := (Win.block HW8.out k e).1; omega))⟩
            · rcases List.mem_append.1 hy with h | h
              · exact H20.out y h
              · exact H1.out y h
            · rcases List.mem_append.1 hy with h | h
              · exact HS.out y h
              · obtain rfl := List.mem_singleton.1 h
                have h3 := HX1.out
                rw [HXE.out] at h3
                have := HLL.out; have := HRL.out
                exact Nat.le_trans h3 (by omega)
          case measure => rw [leftN_is HG9.out, HL0.out]; have := HCL.out; omega
      | true =>
        by_cases he : e1 = 0
        · subst he
          by_cases hm : more = []
          · subst hm
            have hf := FIN.out rfl
            obtain ⟨A7, c7, hv7, hc7, _, hs7⟩ := Win.reads HW4.out
            obtain ⟨m, hm⟩ : ∃ m, m = rows.length := ⟨_, rfl⟩
            have kt := fun W (h : Below W4.heap.size W4 W) => text_any rows H20.out HR256.out HS.out A7 c7 W (hs7.below h)
            have kr := fun W (h : Below W4.heap.size W4 W) => right_any rows H20.out HR256.out HS.out A7 c7 W ((HG.out.below bw4).below h) (hs7.below h)
            have ks := last_any (textB rows) (by have := text_len rows H20.out HS.out; have := HR256.out; exact Nat.le_trans (by assumption) (Nat.le_trans (Nat.mul_le_mul_right _ this) (by decide)))
            have KT := Lib.hid kt; have KR := Lib.hid kr; have KS := Lib.hid ks; have HM := Lib.hid hm; have HF := Lib.hid hf; have HS7 := Lib.hid hs7
            rw [← hm] at hv7 hc7
            subst hv7
            clear kt kr ks hm hf hs7 HN2 HN1 FIN KP KQ kn
            go_upto_region 16 with fail
            cases hr : rightB rows with
            | false =>
              have HR := Lib.hid hr
              have HE := Lib.hid (show decI b = ([], 2) by rw [HF.out, hr]; rfl)
              clear hr
              go_wp2_with (first
                | (go_at_call 19; have k1 := KT.out _ (Below.refl _ _); rw [← HM.out] at k1; (with_reducible refine k1.mono ?_); rintro e w5 ⟨rfl, hb5⟩)
                | (go_at_call 18; have k2 := KR.out _ hb5; rw [← HM.out, HR.out] at k2; (with_reducible refine k2.mono ?_); rintro e w6 ⟨rfl, hb6⟩))
              go_ret2
              exact ⟨⟨none, 0, by rw [HE.out]; rfl, by rw [HE.out]; simp, by rw [HE.out]; exact Sl.nil _ _⟩, bw4.trans ((hb5.trans (hb6.mono hb5.size)).mono bw4.size)⟩
            | true =>
              have HR := Lib.hid hr
              have hadd : ¬ 9223372036854775807 < (textB rows).length + (sumB (textB rows)).length := by
                have h1 := text_len rows H20.out HS.out
                have h2 : (textB rows).length ≤ 256 * 1073741866 := Nat.le_trans h1 (Nat.mul_le_mul_right _ HR256.out)
                have h3 : (sumB (textB rows)).length = 45 := by simp [sumB, hexs_len, sha1_len]
                omega
              clear hr
              go_upto_region 19 with (first
                | (go_at_call 19; have k1 := KT.out _ (Below.refl _ _); rw [← HM.out] at k1; (with_reducible refine k1.mono ?_); rintro e w5 ⟨rfl, hb5⟩)
                | (go_at_call 18; have k2 := KR.out _ hb5; rw [← HM.out, HR.out] at k2; (with_reducible refine k2.mono ?_); rintro e w6 ⟨rfl, hb6⟩))
              have htl : (bstr (textB rows) ++ bstr (sumB (textB rows)) : ByteArray).toList = saidB rows := by rw [said_eq, Lib.toList_data]
              by_cases hs : saidB rows = b
              · have hq : ((bstr (textB rows) ++ bstr (sumB (textB rows)) : ByteArray).toList == b) = true := by rw [htl]; exact beq_iff_eq.2 hs
                by_cases h64 : 64 < m
                · have HE := Lib.hid (show decI b = ([], 5) by rw [HF.out, HR.out, if_neg (by decide), if_neg (fun h => h hs), if_pos (by rw [← HM.out]; exact h64)])
                  have hd : decide ((64 : Int) < (m : Int)) = true := decide_eq_true (by omega)
                  clear hs htl
                  go_wp2_with (first
                    | (go_at_call 20; (with_reducible refine (KS.out _).mono ?_); rintro e w7 ⟨rfl, hb7⟩))
                  go_ret2
                  have b6 := hb5.trans (hb6.mono hb5.size)
                  exact ⟨⟨none, 0, by rw [HE.out]; rfl, by rw [HE.out]; simp, by rw [HE.out]; exact Sl.nil _ _⟩, bw4.trans ((b6.trans (hb7.mono b6.size)).mono bw4.size)⟩
                · have HE := Lib.hid (show decI b = (rows, 0) by rw [HF.out, HR.out, if_neg (by decide), if_neg (fun h => h hs), if_neg (by rw [← HM.out]; exact h64)])
                  have hd : decide ((64 : Int) < (m : Int)) = false := decide_eq_false (by omega)
                  clear hs htl
                  go_wp2_with (first
                    | (go_at_call 20; (with_reducible refine (KS.out _).mono ?_); rintro e w7 ⟨rfl, hb7⟩)
                    | (go_at_call 27; (with_reducible refine (clipR A7 m c7 hc7 _).mono ?_); rintro e w8 ⟨rfl, rfl⟩))
                  go_ret2
                  have b6 := hb5.trans (hb6.mono hb5.size)
                  have b7 := b6.trans (hb7.mono b6.size)
                  exact ⟨⟨A7, m, by rw [HE.out, HM.out]; rfl, by rw [HE.out, HM.out]; exact Nat.le_refl _, by rw [HE.out]; exact HS7.out.below b7⟩, bw4.trans (b7.mono bw4.size)⟩
              · have HE := Lib.hid (show decI b = ([], 4) by rw [HF.out, HR.out, if_neg (by decide), if_pos hs])
                have hq : ((bstr (textB rows) ++ bstr (sumB (textB rows)) : ByteArray).toList == b) = false := by rw [htl]; exact beq_eq_false_iff_ne.2 hs
                clear hs htl
                go_wp2_with (first
                  | (go_at_call 20; (with_reducible refine (KS.out _).mono ?_); rintro e w7 ⟨rfl, hb7⟩))
                go_ret2
                have b6 := hb5.trans (hb6.mono hb5.size)
                exact ⟨⟨none, 0, by rw [HE.out]; rfl, by rw [HE.out]; simp, by rw [HE.out]; exact Sl.nil _ _⟩, bw4.trans ((b6.trans (hb7.mono b6.size)).mono bw4.size)⟩
          · have hF : (true && decide (0 = 0) && (more == [])) = false := by simp [hm]
            have hm2 : more.isEmpty = false := by simp [hm]
            have hN3 := HN2.out
            rw [hF, if_neg (by decide)] at hN3
            obtain ⟨mm, hmm⟩ := HG.out.below bw4
            have kcu := Tryd.strings_Cut (bstr line) ⟨#[32]⟩ mm W4 (by have := HLL.out; have := HRL.out; show line.toArray.size < _; simp; omega) hmm
            rw [show (bstr line).data.toList = line by simp, show ((⟨#[32]⟩ : ByteArray)).data.toList = [32] from rfl] at kcu
            obtain ⟨hx2, hhx2⟩ : ∃ hx2, hx2 = (Lib.cut line [32]).1 := ⟨_, rfl⟩
            obtain ⟨nm2, hnm2⟩ : ∃ nm2, nm2 = (Lib.cut line [32]).2.1 := ⟨_, rfl⟩
            obtain ⟨two, htwo⟩ : ∃ two, two = (Lib.cut line [32]).2.2 := ⟨_, rfl⟩
            have hx2l : hx2.length ≤ line.length := by rw [hhx2]; exact cut_le line
            rw [← hhx2, ← hnm2, ← htwo] at kcu
            have kq2 := fun W => parse_any (bstr hx2) W (by have := HLL.out; have := HRL.out; show hx2.toArray.size ≤ _; simp; omega)
            rw [show (bstr hx2).data.toList = hx2 by simp] at kq2
            obtain ⟨id2, hid2⟩ : ∃ id2, id2 = (parseI hx2).1 := ⟨_, rfl⟩
            obtain ⟨e2, he2⟩ : ∃ e2, e2 = (parseI hx2).2 := ⟨_, rfl⟩
            have i20' : id2.length = 20 := by rw [hid2]; exact parseI_len _
            rw [← hid2, ← he2] at kq2
            have zi2 := Lib.hid (info23 id2 i20')
            have HZ2 := Lib.hid (show (bvs zs20).toArray.size = (bvs id2).toArray.size by simp [zs20_len, i20'])
            have KQ2 := Lib.hid kq2; have KCU := Lib.hid kcu; have I2 := Lib.hid i20'
            cases hlr : lineR line with
            | none =>
              rw [hlr] at hN3
              have HE := Lib.hid (show decI b = ([], 2) by rw [decI, ← hN3])
              have hln := lineR_none hlr
              rw [← hhx2, ← htwo, ← he2] at hln
              clear hlr hN3 hF hhx2 hnm2 htwo hx2l hid2 he2 i20' kq2 kcu hmm kn KP KQ FIN HN2 HN1
              rcases hln with ht | ⟨ht, he3⟩
              · subst ht
                go_wp2_with (first
                  | (go_at_call 24; (with_reducible refine KCU.out.mono ?_); rintro e w5 ⟨rfl, k5, rfl⟩)
                  | (go_at_call 26; (with_reducible refine (KQ2.out _).mono ?_); rintro e w6 ⟨rfl, hb6⟩)
                  | (refine wpList_store_row rfl 41 (.tmp 16) (.tmp 58) rfl w6.heap.size (bvs id2).toArray rfl rfl 41 _ (heap_alloc_new _ _) zi2.out HZ2.out (one_bvs _) ?_))
                go_ret2
                have b6 : Below w.heap.size w w6 := (Below.drewN bw4 k5).trans (hb6.mono bw4.size)
                exact ⟨⟨none, 0, by rw [HE.out]; rfl, by rw [HE.out]; simp, by rw [HE.out]; exact Sl.nil _ _⟩, b6.trans ((new_set w6 41 _ _).2.mono b6.size)⟩
              · subst ht
                have he4 : ((e2 : Int) != 0) = true := bne_iff_ne.2 (by omega)
                clear he3
                go_wp2_with (first
                  | (go_at_call 24; (with_reducible refine KCU.out.mono ?_); rintro e w5 ⟨rfl, k5, rfl⟩)
                  | (go_at_call 26; (with_reducible refine (KQ2.out _).mono ?_); rintro e w6 ⟨rfl, hb6⟩)
                  | (refine wpList_store_row rfl 41 (.tmp 16) (.tmp 58) rfl w6.heap.size (bvs id2).toArray rfl rfl 41 _ (heap_alloc_new _ _) zi2.out HZ2.out (one_bvs _) ?_))
                go_ret2
                have b6 : Below w.heap.size w w6 := (Below.drewN bw4 k5).trans (hb6.mono bw4.size)
                exact ⟨⟨none, 0, by rw [HE.out]; rfl, by rw [HE.out]; simp, by rw [HE.out]; exact Sl.nil _ _⟩, b6.trans ((new_set w6 41 _ _).2.mono b6.size)⟩
            | some x =>
              rw [hlr] at hN3
              obtain ⟨hx1, hx20, hx41, ht, he3, hxe⟩ := lineR_some hlr
              rw [← htwo] at ht
              rw [← hhx2, ← he2] at he3
              rw [← hhx2, ← hnm2, ← hid2] at hxe
              have HXE := Lib.hid hxe; have HX1 := Lib.hid hx1; have HX41 := Lib.hid hx41; have HN3 := Lib.hid hN3
              clear hlr hN3 hF hhx2 hnm2 htwo hx2l hid2 he2 i20' kq2 kcu hmm kn KP KQ FIN HN2 hxe hx1 hx41 hx20
              subst ht he3
              go_upto_region 15 with (first
                | (go_at_call 24; (with_reducible refine KCU.out.mono ?_); rintro e w5 ⟨rfl, k5, rfl⟩)
                | (go_at_call 26; (with_reducible refine (KQ2.out _).mono ?_); rintro e w6 ⟨rfl, hb6⟩)
                | (refine wpList_store_row rfl 41 (.tmp 16) (.tmp 58) rfl w6.heap.size (bvs id2).toArray rfl rfl 41 _ (heap_alloc_new _ _) zi2.out HZ2.out (one_bvs _) ?_))
              simp only [zlit]
              obtain ⟨r7, b7⟩ := new_set w6 41 (bvs zs20).toArray (bvs id2).toArray
              obtain ⟨W7, hW7⟩ : ∃ W7, W7 = (w6.alloc (.cells (bvs zs20).toArray 41)).setRow w6.heap.size (bvs id2).toArray := ⟨_, rfl⟩
              rw [← hW7] at r7 b7 ⊢
              have b46 : Below W4.heap.size W4 w6 := (Below.drewN (Below.refl _ _) k5).trans hb6
              have b47 : Below W4.heap.size W4 W7 := b46.trans (b7.mono b46.size)
              have l7 := load_idT 41 (fun w => by kernel_rfl) (fun w => by kernel_rfl) id2 I2.out ⟨w6.heap.size, 0, none⟩ W7 (Sl.of_block r7 (fun j v hj => by simpa using hj))
              have b78 : Below W7.heap.size W7 (W7.alloc (.cells (rcell (nm2, id2)).toArray 47)) := (Below.refl _ _).alloc (Nat.le_refl _) _
              have b48 : Below W4.heap.size W4 (W7.alloc (.cells (rcell (nm2, id2)).toArray 47)) := b47.trans (b78.mono b47.size)
              have hw8 := Win.below HW4.out b48
              have hgl : g < W4.heap.size := (Array.getElem?_eq_some_iff.1 RG.out).1
              have RG8 := Lib.hid ((b48.block g hgl).trans RG.out)
              have ne8 := win_ne hw8 RG8.out (by decide)
              have hA8 : Sl (W7.alloc (.cells (rcell (nm2, id2)).toArray 47)) (some ⟨W7.heap.size, 0, none⟩) (rfc [(nm2, id2)]) := Sl.of_block (heap_alloc_new _ _) (fun j v hj => by simpa [rfc] using hj)
              have h1 : Rf20 [(nm2, id2)] := fun y hy => by
                obtain rfl := List.mem_singleton.1 hy; exact I2.out
              have bw8 : Below w.heap.size w (W7.alloc (.cells (rcell (nm2, id2)).toArray 47)) := bw4.trans (b48.mono bw4.size)
              have HW8 := Lib.hid hw8; have HA8 := Lib.hid hA8; have H1 := Lib.hid h1; have NE8 := Lib.hid ne8; have BW8 := Lib.hid bw8; have HL8 : Hid (rows.length + 1 ≤ 1024) := Lib.hid (by have := HR256.out; omega)
              clear hW7 r7 b7 b46 b47 b78 b48 hw8 hgl ne8 hA8 h1 bw8 bw4 hb6 c4
              go_wp2_with (first
                | (refine wpList_loadG 41 (.tmp 16) rfl ⟨w6.heap.size, 0, none⟩ rfl (idv id2) l7 rfl ?_)
                | (refine wpList_buildR rfl (.tmp 67) (.tmp 68) rfl nm2 id2 I2.out rfl rfl ?_)
                | (refine wpList_oneRs rfl (.tmp 69) rfl nm2 id2 I2.out rfl ?_)
                | (at_builtin; refine appRs rfl (.tmp 66) (.tmp 70) rfl w.heap.size _ rows rfl HW8.out (some ⟨W7.heap.size, 0, none⟩) 1 [(nm2, id2)] H1.out rfl HA8.out HL8.out BW8.out.size ?_; intro v9 w9 hw9 hk9 _))
              have RG9 := (hk9.block g (Array.getElem?_eq_some_iff.1 RG8.out).1 (fun e => NE8.out g e rfl)).trans RG8.out
              have HW9 := Lib.hid hw9; have HG9 := Lib.hid RG9; have HK9 := Lib.hid hk9
              clear hw9 RG9 hk9
              go_roundw
              case rel =>
                refine ⟨rows ++ [(nm2, id2)], more, HW9, HG9, Lib.hid ⟨M, by have := HN1.out; have := HCL.out; omega, by rw [← HXE.out]; exact HN3.out⟩, Lib.hid (by have := HLN.out; have := HCL.out; have := HX41.out; rw [List.length_append, List.length_singleton]; omega), Lib.hid (fun y hy => ?_), Lib.hid (fun y hy => ?_), BW8.out.trans (HK9.out.toBelow BW8.out.size (fun k hk e => by have := (Win.block HW8.out k e).1; omega))⟩
                · rcases List.mem_append.1 hy with h | h
                  · exact H20.out y h
                  · exact H1.out y h
                · rcases List.mem_append.1 hy with h | h
                  · exact HS.out y h
                  · obtain rfl := List.mem_singleton.1 h
                    have h3 := HX1.out
                    rw [HXE.out] at h3
                    have := HLL.out; have := HRL.out
                    exact Nat.le_trans h3 (by omega)
              case measure => rw [leftN_is HG9.out, HL0.out]; have := HCL.out; omega
        · have hF : (true && decide (e1 = 0) && (more == [])) = false := by simp [he]
          have he9 : ((e1 : Int) == 0) = false := beq_false_of_ne (by omega)
          have hN3 := HN2.out
          rw [hF, if_neg (by decide)] at hN3
          obtain ⟨mm, hmm⟩ := HG.out.below bw4
          have kcu := Tryd.strings_Cut (bstr line) ⟨#[32]⟩ mm W4 (by have := HLL.out; have := HRL.out; show line.toArray.size < _; simp; omega) hmm
          rw [show (bstr line).data.toList = line by simp, show ((⟨#[32]⟩ : ByteArray)).data.toList = [32] from rfl] at kcu
          obtain ⟨hx2, hhx2⟩ : ∃ hx2, hx2 = (Lib.cut line [32]).1 := ⟨_, rfl⟩
          obtain ⟨nm2, hnm2⟩ : ∃ nm2, nm2 = (Lib.cut line [32]).2.1 := ⟨_, rfl⟩
          obtain ⟨two, htwo⟩ : ∃ two, two = (Lib.cut line [32]).2.2 := ⟨_, rfl⟩
          have hx2l : hx2.length ≤ line.length := by rw [hhx2]; exact cut_le line
          rw [← hhx2, ← hnm2, ← htwo] at kcu
          have kq2 := fun W => parse_any (bstr hx2) W (by have := HLL.out; have := HRL.out; show hx2.toArray.size ≤ _; simp; omega)
          rw [show (bstr hx2).data.toList = hx2 by simp] at kq2
          obtain ⟨id2, hid2⟩ : ∃ id2, id2 = (parseI hx2).1 := ⟨_, rfl⟩
          obtain ⟨e2, he2⟩ : ∃ e2, e2 = (parseI hx2).2 := ⟨_, rfl⟩
          have i20' : id2.length = 20 := by rw [hid2]; exact parseI_len _
          rw [← hid2, ← he2] at kq2
          have zi2 := Lib.hid (info23 id2 i20')
          have HZ2 := Lib.hid (show (bvs zs20).toArray.size = (bvs id2).toArray.size by simp [zs20_len, i20'])
          have KQ2 := Lib.hid kq2; have KCU := Lib.hid kcu; have I2 := Lib.hid i20'
          cases hlr : lineR line with
          | none =>
            rw [hlr] at hN3
            have HE := Lib.hid (show decI b = ([], 2) by rw [decI, ← hN3])
            have hln := lineR_none hlr
            rw [← hhx2, ← htwo, ← he2] at hln
            clear hlr hN3 hF hhx2 hnm2 htwo hx2l hid2 he2 i20' kq2 kcu hmm kn KP KQ FIN HN2 HN1
            rcases hln with ht | ⟨ht, he3⟩
            · subst ht
              go_wp2_with (first
                | (go_at_call 24; (with_reducible refine KCU.out.mono ?_); rintro e w5 ⟨rfl, k5, rfl⟩)
                | (go_at_call 26; (with_reducible refine (KQ2.out _).mono ?_); rintro e w6 ⟨rfl, hb6⟩)
                | (refine wpList_store_row rfl 41 (.tmp 16) (.tmp 58) rfl w6.heap.size (bvs id2).toArray rfl rfl 41 _ (heap_alloc_new _ _) zi2.out HZ2.out (one_bvs _) ?_))
              go_ret2
              have b6 : Below w.heap.size w w6 := (Below.drewN bw4 k5).trans (hb6.mono bw4.size)
              exact ⟨⟨none, 0, by rw [HE.out]; rfl, by rw [HE.out]; simp, by rw [HE.out]; exact Sl.nil _ _⟩, b6.trans ((new_set w6 41 _ _).2.mono b6.size)⟩
            · subst ht
              have he4 : ((e2 : Int) != 0) = true := bne_iff_ne.2 (by omega)
              clear he3
              go_wp2_with (first
                | (go_at_call 24; (with_reducible refine KCU.out.mono ?_); rintro e w5 ⟨rfl, k5, rfl⟩)
                | (go_at_call 26; (with_reducible refine (KQ2.out _).mono ?_); rintro e w6 ⟨rfl, hb6⟩)
                | (refine wpList_store_row rfl 41 (.tmp 16) (.tmp 58) rfl w6.heap.size (bvs id2).toArray rfl rfl 41 _ (heap_alloc_new _ _) zi2.out HZ2.out (one_bvs _) ?_))
              go_ret2
              have b6 : Below w.heap.size w w6 := (Below.drewN bw4 k5).trans (hb6.mono bw4.size)
              exact ⟨⟨none, 0, by rw [HE.out]; rfl, by rw [HE.out]; simp, by rw [HE.out]; exact Sl.nil _ _⟩, b6.trans ((new_set w6 41 _ _).2.mono b6.size)⟩
          | some x =>
            rw [hlr] at hN3
            obtain ⟨hx1, hx20, hx41, ht, he3, hxe⟩ := lineR_some hlr
            rw [← htwo] at ht
            rw [← hhx2, ← he2] at he3
            rw [← hhx2, ← hnm2, ← hid2] at hxe
            have HXE := Lib.hid hxe; have HX1 := Lib.hid hx1; have HX41 := Lib.hid hx41; have HN3 := Lib.hid hN3
            clear hlr hN3 hF hhx2 hnm2 htwo hx2l hid2 he2 i20' kq2 kcu hmm kn KP KQ FIN HN2 hxe hx1 hx41 hx20
            subst ht he3
            go_upto_region 15 with (first
              | (go_at_call 24; (with_reducible refine KCU.out.mono ?_); rintro e w5 ⟨rfl, k5, rfl⟩)
              | (go_at_call 26; (with_reducible refine (KQ2.out _).mono ?_); rintro e w6 ⟨rfl, hb6⟩)
              | (refine wpList_store_row rfl 41 (.tmp 16) (.tmp 58) rfl w6.heap.size (bvs id2).toArray rfl rfl 41 _ (heap_alloc_new _ _) zi2.out HZ2.out (one_bvs _) ?_))
            simp only [zlit]
            obtain ⟨r7, b7⟩ := new_set w6 41 (bvs zs20).toArray (bvs id2).toArray
            obtain ⟨W7, hW7⟩ : ∃ W7, W7 = (w6.alloc (.cells (bvs zs20).toArray 41)).setRow w6.heap.size (bvs id2).toArray := ⟨_, rfl⟩
            rw [← hW7] at r7 b7 ⊢
            have b46 : Below W4.heap.size W4 w6 := (Below.drewN (Below.refl _ _) k5).trans hb6
            have b47 : Below W4.heap.size W4 W7 := b46.trans (b7.mono b46.size)
            have l7 := load_idT 41 (fun w => by kernel_rfl) (fun w => by kernel_rfl) id2 I2.out ⟨w6.heap.size, 0, none⟩ W7 (Sl.of_block r7 (fun j v hj => by simpa using hj))
            have b78 : Below W7.heap.size W7 (W7.alloc (.cells (rcell (nm2, id2)).toArray 47)) := (Below.refl _ _).alloc (Nat.le_refl _) _
            have b48 : Below W4.heap.size W4 (W7.alloc (.cells (rcell (nm2, id2)).toArray 47)) := b47.trans (b78.mono b47.size)
            have hw8 := Win.below HW4.out b48
            have hgl : g < W4.heap.size := (Array.getElem?_eq_some_iff.1 RG.out).1
            have RG8 := Lib.hid ((b48.block g hgl).trans RG.out)
            have ne8 := win_ne hw8 RG8.out (by decide)
            have hA8 : Sl (W7.alloc (.cells (rcell (nm2, id2)).toArray 47)) (some ⟨W7.heap.size, 0, none⟩) (rfc [(nm2, id2)]) := Sl.of_block (heap_alloc_new _ _) (fun j v hj => by simpa [rfc] using hj)
            have h1 : Rf20 [(nm2, id2)] := fun y hy => by
              obtain rfl := List.mem_singleton.1 hy; exact I2.out
            have bw8 : Below w.heap.size w (W7.alloc (.cells (rcell (nm2, id2)).toArray 47)) := bw4.trans (b48.mono bw4.size)
            have HW8 := Lib.hid hw8; have HA8 := Lib.hid hA8; have H1 := Lib.hid h1; have NE8 := Lib.hid ne8; have BW8 := Lib.hid bw8; have HL8 : Hid (rows.length + 1 ≤ 1024) := Lib.hid (by have := HR256.out; omega)
            clear hW7 r7 b7 b46 b47 b78 b48 hw8 hgl ne8 hA8 h1 bw8 bw4 hb6 c4
            go_wp2_with (first
              | (refine wpList_loadG 41 (.tmp 16) rfl ⟨w6.heap.size, 0, none⟩ rfl (idv id2) l7 rfl ?_)
              | (refine wpList_buildR rfl (.tmp 67) (.tmp 68) rfl nm2 id2 I2.out rfl rfl ?_)
              | (refine wpList_oneRs rfl (.tmp 69) rfl nm2 id2 I2.out rfl ?_)
              | (at_builtin; refine appRs rfl (.tmp 66) (.tmp 70) rfl w.heap.size _ rows rfl HW8.out (some ⟨W7.heap.size, 0, none⟩) 1 [(nm2, id2)] H1.out rfl HA8.out HL8.out BW8.out.size ?_; intro v9 w9 hw9 hk9 _))
            have RG9 := (hk9.block g (Array.getElem?_eq_some_iff.1 RG8.out).1 (fun e => NE8.out g e rfl)).trans RG8.out
            have HW9 := Lib.hid hw9; have HG9 := Lib.hid RG9; have HK9 := Lib.hid hk9
            clear hw9 RG9 hk9
            go_roundw
            case rel =>
              refine ⟨rows ++ [(nm2, id2)], more, HW9, HG9, Lib.hid ⟨M, by have := HN1.out; have := HCL.out; omega, by rw [← HXE.out]; exact HN3.out⟩, Lib.hid (by have := HLN.out; have := HCL.out; have := HX41.out; rw [List.length_append, List.length_singleton]; omega), Lib.hid (fun y hy => ?_), Lib.hid (fun y hy => ?_), BW8.out.trans (HK9.out.toBelow BW8.out.size (fun k hk e => by have := (Win.block HW8.out k e).1; omega))⟩
              · rcases List.mem_append.1 hy with h | h
                · exact H20.out y h
                · exact H1.out y h
              · rcases List.mem_append.1 hy with h | h
                · exact HS.out y h
                · obtain rfl := List.mem_singleton.1 h
                  have h3 := HX1.out
                  rw [HXE.out] at h3
                  have := HLL.out; have := HRL.out
                  exact Nat.le_trans h3 (by omega)
            case measure => rw [leftN_is HG9.out, HL0.out]; have := HCL.out; omega
end Go.Proofs.YtmfhlhjnfaiegaaDoor

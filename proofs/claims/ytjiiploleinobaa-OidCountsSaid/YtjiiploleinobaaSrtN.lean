/- sort.Sort of a row of names, out of pdqsort's contract. Conditions: fewer than 256 names, each of twenty bytes. -/
import Derived.Test.YtjiiploleinobaaSrtM
import Derived.Test.YtjiiploleinobaaSrtF
import Derived.Test.YtjiiploleinobaaSrtP
namespace Go.Proofs.Ytjiiploleinobaa
open Go.RowKit
open Go.Sort (swp ltStr SWO PermIn SortedIn bitsLen)
set_option maxRecDepth 100000
set_option maxHeartbeats 4000000
set_option linter.unusedVariables false
theorem ids_srt (g n cap : Nat) (hcap : n ≤ cap) (hn : n < 256) : Srt (.slice (some ⟨g, 0, none⟩) n cap) ltStr n g (Ids g) where
  keep := fun h e => h.keep e
  dom := fun h => h.dom
  less := fun W d i j h hd hi hj => by
    have := ids_less g n cap hcap W d i j h hd hi hj hn
    rwa [cmp_str] at this
  swap := fun W d i j h hd hi hj => ids_swap g n cap hcap W d i j h hd hi hj hn
/-- pdqsort's contract, as it is proved elsewhere -/
def PdqOK (S : Value) (n g : Nat) : Prop := ∀ (a b lim : Nat) (d : Array (List UInt8)) (w : World), a ≤ b → b ≤ n → lim ≤ 1000 → Ids g w d → d.size = n → Go.Sort.Below ltStr a b d →
    Calls Try.prog 44 #[.iface 64 S, .int .i64 (a : Int), .int .i64 (b : Int), .int .i64 (lim : Int)] w fun e w' => e = .returned (.tuple #[]) ∧ ∃ d', St (Ids g) g n w w' d' ∧ PermIn a b d d' ∧ SortedIn ltStr a b d'
theorem sort_ids (g n cap : Nat) (hcap : n ≤ cap) (hn : n < 256) (hP : PdqOK (.slice (some ⟨g, 0, none⟩) n cap) n g) (d : Array (List UInt8)) (w : World) (h : Ids g w d) (hd : d.size = n) :
    Calls Try.prog 31 #[.iface 64 (.slice (some ⟨g, 0, none⟩) n cap)] w fun e w' => e = .returned (.tuple #[]) ∧ ∃ d', St (Ids g) g n w w' d' ∧ PermIn 0 n d d' ∧ SortedIn ltStr 0 n d' := by
  have kl := len80 (some ⟨g, 0, none⟩) n cap w
  have kb := len_any n hn w
  have hb := bitsLen_256 n hn
  obtain ⟨v, hv⟩ : ∃ v, v = bitsLen n := ⟨_, rfl⟩
  rw [← hv] at kb hb
  have kp := hP 0 n v d w (Nat.zero_le _) (Nat.le_refl _) (by omega) h hd (.inl rfl)
  rw [show ((0 : Nat) : Int) = 0 from rfl] at kp
  have mS : ∀ (w : World), (method 213 64 (.slice (some ⟨g, 0, none⟩) n cap) "Len").run Try.prog w = .ok (80, .slice (some ⟨g, 0, none⟩) n cap) w := fun w => by kernel_rfl
  have cS : ∀ (w : World), (callFunc 80 #[.slice (some ⟨g, 0, none⟩) n cap]).run Try.prog w = .ok (.enter 80 #[.slice (some ⟨g, 0, none⟩) n cap]) w := fun w => by kernel_rfl
  have wr : IntKind.u64.wrap (n : Int) = n := by rw [IntKind.wrap_u64]; omega
  have st0 := St.start (g := g) (n := n) w d h hd
  have HD := Lib.hid hd
  clear hP h hd hv
  by_cases h1 : n ≤ 1
  · have z1 : (n : Int) ≤ 1 := by omega
    go_enter Try.func31, Try.ntmps31
    go_wp2_with (go_at_call 80; (with_reducible refine kl.mono ?_); rintro e w1 ⟨rfl, rfl⟩)
    (try simp only [Exit.inBlock, Exit.then])
    refine bodyPost_ret (results_none rfl _ _ _) rfl ?_
    refine ⟨rfl, d, st0, Go.Sort.permIn_refl _ _ _, fun i j _ h1 h2 => by omega⟩
  · have z1 : ¬ (n : Int) ≤ 1 := by omega
    go_enter Try.func31, Try.ntmps31
    go_wp2_with (first
      | (go_at_call 80; (with_reducible refine kl.mono ?_); rintro e w1 ⟨rfl, rfl⟩)
      | (go_at_call 43; (with_reducible refine kb.mono ?_); rintro e w1 ⟨rfl, rfl⟩)
      | (go_at_call 44; (with_reducible refine kp.mono ?_); rintro e w1 ⟨rfl, d', hs, hp, hso⟩))
    go_end0
    exact ⟨rfl, d', hs, hp, hso⟩
end Go.Proofs.Ytjiiploleinobaa

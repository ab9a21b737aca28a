/- OidRows answers true. Conditions: each name has twenty bytes. -/
import Derived.Test.YtjiiploleinobaaSrtL
import Derived.Test.YtjiiploleinobaaRows5
namespace Go.Proofs.Ytjiiploleinobaa
open Go.RowKit
theorem all_pq : AllPQ := by
  intro g n cap hcap hn a b lim d w hab hb hlim h hd hlow
  exact pdq_any (ids_srt g n cap hcap hn) hn Go.Sort.swo_ltStr (b - a + 1) a b lim d w (by omega) hab hb hlim h hd hlow
theorem rows_all (l : List (List UInt8)) (h20 : All20 l) (hm : l.length ≤ maxLen) (A : Option Addr) (c : Nat) (h0 : A = none → c = 0) (id : List UInt8) (hid : id.length = 20) (w : World) (hA : Sl w A (idc l)) :
    Calls Try.prog 5 #[.slice A l.length c, idv id] w fun e w' => e = .returned (.bool true) ∧ Below w.heap.size w w' := by
  by_cases h : l.length ≤ 60
  · exact rows_any all_pq l h20 h A c h0 id hid w hA
  · exact rows_big l (by omega) hm A c id w
end Go.Proofs.Ytjiiploleinobaa

/-
  PROVED HERE: the walk of ModeClaims returns true and writes nothing that was there.
  Conditions: the claims lie in memory as a row of pairs; the number is of the kind int.
-/
import Derived.Test.YtaooimlannbenaaLaid
import Derived.Test.YtaooimlannbenaaRefSafe
namespace Go.Proofs.Ytaooimlannbenaa
open Go.RowKit Pm

set_option maxHeartbeats 1000000 in
theorem claims_walk (a : Option Addr) (len cap : Nat) (l0 : List (Int × Int)) (but : Int) (w : World) (hin : ClaimsIn w a len cap l0) (_hb : (Lit.int .i64 but).wf = true) :
    Calls Try.prog 8 #[.slice a len cap, .int .i64 but] w fun e w' => e = .returned (.bool true) ∧ Below w.heap.size w w' := by
  clear _hb
  have HIn := Lib.hid hin; clear hin
  go_enter Try.func8, Try.ntmps8
  go_wp2_with fail
  refine (awake_any _).mono ?_; rintro e w' ⟨rfl, rfl⟩
  go_wp2_with fail
  refine (few_any cap HIn.out.1 HIn.out.2.1 HIn.out.2.2.1).mono ?_; rintro e w' ⟨n, rfl, hn12, hncap, hcl, _, rfl⟩
  generalize l0.take 12 = l at *
  have HC := Lib.hid hcl; clear hcl
  go_wp2_with fail
  refine (safe_any cap HC.out (by omega) hncap).mono ?_; rintro e w3 ⟨rfl, hb3⟩
  have HB3 := Lib.hid hb3; clear hb3
  go_wp2_with fail
  refine (refSafe_any cap (claims_below HC.out HB3.out) (by omega)).mono ?_; rintro e w4 ⟨rfl, hb4⟩
  have HB4 := Lib.hid (HB3.out.trans (hb4.mono HB3.out.size)); clear hb4
  go_wp2_with fail
  refine (strong_any cap but (claims_below HC.out HB4.out) (by omega)).mono ?_; rintro e w5 ⟨rfl, hb5⟩
  have HB5 := Lib.hid (HB4.out.trans (hb5.mono HB4.out.size)); clear hb5
  go_wp2_with fail
  refine (refStrong_any cap but (claims_below HC.out HB5.out) (by omega)).mono ?_; rintro e w6 ⟨rfl, hw⟩
  subst hw
  go_wp2_with fail
  go_ret
  exact ⟨rfl, HB5.out⟩
end Go.Proofs.Ytaooimlannbenaa

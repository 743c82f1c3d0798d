/- SchedCreds: every input. -/
import Derived.Test.YtpognhdhlbgliaaGreatDoorLkTabs
namespace Go.Lk
open Go.Proofs

/-- No token. -/
instance fcCreds : Fc := fcNone

theorem creds0 : isT (run spec3 60 5 [.bool true, .bool true, .bool true, .bool true] H0) = true := by kernel_rfl
theorem creds1 : isT (run spec3 60 5 [.bool true, .bool true, .bool true, .bool false] H0) = true := by kernel_rfl
theorem creds2 : isT (run spec3 60 5 [.bool true, .bool true, .bool false, .bool true] H0) = true := by kernel_rfl
theorem creds3 : isT (run spec3 60 5 [.bool true, .bool true, .bool false, .bool false] H0) = true := by kernel_rfl
theorem creds4 : isT (run spec3 60 5 [.bool true, .bool false, .bool true, .bool true] H0) = true := by kernel_rfl
theorem creds5 : isT (run spec3 60 5 [.bool true, .bool false, .bool true, .bool false] H0) = true := by kernel_rfl
theorem creds6 : isT (run spec3 60 5 [.bool true, .bool false, .bool false, .bool true] H0) = true := by kernel_rfl
theorem creds7 : isT (run spec3 60 5 [.bool true, .bool false, .bool false, .bool false] H0) = true := by kernel_rfl
theorem creds8 : isT (run spec3 60 5 [.bool false, .bool true, .bool true, .bool true] H0) = true := by kernel_rfl
theorem creds9 : isT (run spec3 60 5 [.bool false, .bool true, .bool true, .bool false] H0) = true := by kernel_rfl
theorem creds10 : isT (run spec3 60 5 [.bool false, .bool true, .bool false, .bool true] H0) = true := by kernel_rfl
theorem creds11 : isT (run spec3 60 5 [.bool false, .bool true, .bool false, .bool false] H0) = true := by kernel_rfl
theorem creds12 : isT (run spec3 60 5 [.bool false, .bool false, .bool true, .bool true] H0) = true := by kernel_rfl
theorem creds13 : isT (run spec3 60 5 [.bool false, .bool false, .bool true, .bool false] H0) = true := by kernel_rfl
theorem creds14 : isT (run spec3 60 5 [.bool false, .bool false, .bool false, .bool true] H0) = true := by kernel_rfl
theorem creds15 : isT (run spec3 60 5 [.bool false, .bool false, .bool false, .bool false] H0) = true := by kernel_rfl
theorem creds : ∀ a b c d : Bool, isT (run spec3 60 5 [.bool a, .bool b, .bool c, .bool d] H0) = true
  | true, true, true, true => creds0
  | true, true, true, false => creds1
  | true, true, false, true => creds2
  | true, true, false, false => creds3
  | true, false, true, true => creds4
  | true, false, true, false => creds5
  | true, false, false, true => creds6
  | true, false, false, false => creds7
  | false, true, true, true => creds8
  | false, true, true, false => creds9
  | false, true, false, true => creds10
  | false, true, false, false => creds11
  | false, false, true, true => creds12
  | false, false, true, false => creds13
  | false, false, false, true => creds14
  | false, false, false, false => creds15

end Go.Lk

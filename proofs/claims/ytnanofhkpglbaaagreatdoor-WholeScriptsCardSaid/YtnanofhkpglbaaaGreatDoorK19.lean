/- Texts put behind each other. -/
import Derived.Test.YtnanofhkpglbaaaGreatDoorK15
set_option maxRecDepth 100000
set_option maxHeartbeats 80000000
namespace Go.Proofs.YtnanofhkpglbaaaGreatDoor
open Go Go.Vc
def xz:=aT [[0],[2]]
def jS:=aT [[0,1],[4]]
def Hn:=aT [[0],[0,3],[3,6,7,8],[3,6,7,8],[3,6,7,8,9],[3,5,6,7,8],[3,5,6,7,8,14],[2],[3,6,7,8],[2]]
end Go.Proofs.YtnanofhkpglbaaaGreatDoor

/-
  (one part is enough here)
-/
import Derived.Test.YtdhogjjdpikheaaDoorA0

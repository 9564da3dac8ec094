/- All that the laws of this layer lean on. -/
import Derived.Test.YtmabpnkdagipfaaJ33
import Derived.Test.YtmabpnkdagipfaaJ34

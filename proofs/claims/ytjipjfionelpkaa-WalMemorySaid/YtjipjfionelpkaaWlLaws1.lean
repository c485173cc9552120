/- What the hand-in of WalMemory imports: the law and the opener of a slice of bytes.
Conditions: none. -/
import Derived.Test.YtjipjfionelpkaaWl6
import Derived.Test.YtjipjfionelpkaaOpenD
